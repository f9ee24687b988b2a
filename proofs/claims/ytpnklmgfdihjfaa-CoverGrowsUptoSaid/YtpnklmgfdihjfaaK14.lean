/-
Contract of nat.Pow.
Pow of a number with its value.
awake of layer 4 returns true.
The walk of NatRing.
The walk of NatPowers.
Numbers as values of operations: lemmas. Printed by gen/scv.py.
Closures of cover.Check. Printed by gen/scv.py.
Lemmas for law29.made. Printed by gen/scv.py.
Opens a Guess and slices of small integers; what the bound on the bulk of the arguments gives.
Contract of cover.denominator. Printed by gen/scv.py.
Contract of cover.product. Printed by gen/scv.py.
Contract of cover.checkSizes. Printed by gen/scv.py.
Contract of cover.bit.
-/
import Derived.Test.YtpnklmgfdihjfaaK3
import Derived.Test.YtpnklmgfdihjfaaK13
import Derived.BigQuiet
import Derived.Test.YtpnklmgfdihjfaaK1
import Derived.Test.YtpnklmgfdihjfaaRows
import Derived.Lib.SmallJoins
namespace Go.Proofs.Ytpnklmgfdihjfaa
open Go.RowKit

/-- 65536 and 4096, kept closed. -/
def bigE : Nat := 65536
theorem bigE_eq : bigE = 65536 := rfl
def capE : Nat := 4096
theorem capE_eq : capE = 4096 := rfl
/-- 2^65536. -/
def bigP : Nat := 2 ^ bigE
theorem bigP_eq : 2 ^ bigE = bigP := rfl
theorem len_of_pow {p e : Nat} (hp : p = 2 ^ e) {l : List Nat} {V b : Nat} (h : Nrm p l V) (hV : V < 2 ^ (e * b)) : l.length ≤ b := by
  rcases Nat.lt_or_ge b l.length with h1 | h1
  · have h2 := h.pos (by omega)
    have h3 : p ^ b ≤ p ^ (l.length - 1) := Nat.pow_le_pow_right (by rw [hp]; exact pow2_pos e) (by omega)
    rw [hp, ← Nat.pow_mul] at h3
    rw [hp] at h2
    omega
  · exact h1
theorem pow_bound {N n size m : Nat} (hN : N < 2 ^ size) (h : size * n ≤ 131072) (hm : m ≤ n) (hN1 : 1 ≤ N) (hsn : 0 < size * n) : N ^ m < 2 ^ (32 * capE) := by
  have h1 : N ^ m ≤ N ^ n := Nat.pow_le_pow_right hN1 hm
  have hn : n ≠ 0 := by rintro rfl; simp at hsn
  have h2 : N ^ n < (2 ^ size) ^ n := Nat.pow_lt_pow_left hN hn
  rw [← Nat.pow_mul] at h2
  have h3 : 2 ^ (size * n) ≤ 2 ^ (32 * capE) := two_pow_le (by have := capE_eq; omega)
  exact Nat.lt_of_le_of_lt h1 (Nat.lt_of_lt_of_le h2 h3)
/-- Where Pow says overflow by the sizes, the power is great. -/
theorem pow_great {N n size : Nat} (hN : 2 ^ (size - 1) ≤ N) (h2 : 2 ≤ N) (hn : 1 ≤ n) (h : 65536 ≤ n ∨ 65536 < size ∨ 65536 ≤ (size - 1) * n) : bigP ≤ N ^ n := by
  have hE := bigE_eq
  have key : ∀ k, bigE ≤ k → 2 ^ k ≤ N ^ n → bigP ≤ N ^ n := fun k hk h => by
    rw [← bigP_eq]; exact Nat.le_trans (two_pow_le hk) h
  have h3 : 2 ^ ((size - 1) * n) ≤ N ^ n := by rw [Nat.pow_mul]; exact Nat.pow_le_pow_left hN n
  rcases h with h | h | h
  · exact key n (by omega) (Nat.pow_le_pow_left h2 n)
  · refine key (size - 1) (by omega) (Nat.le_trans ?_ h3)
    apply two_pow_le
    have : (size - 1) * 1 ≤ (size - 1) * n := Nat.mul_le_mul_left _ hn
    omega
  · exact key _ (by omega) h3

theorem ofInt_i64 (a : Nat) (ha : a < 9223372036854775808) : (BitVec.ofInt 64 (a : Int)).toNat = a := by
  rw [BitVec.ofInt_natCast, BitVec.toNat_ofNat]; exact Nat.mod_eq_of_lt (by omega)
theorem i64_and_nat (a b : Nat) (ha : a < 9223372036854775808) (hb : b < 9223372036854775808) : bits .and .i64 (a : Int) (b : Int) = ((a &&& b : Nat) : Int) := by
  have hx : a &&& b < 2 ^ 63 := Nat.and_lt_two_pow _ (by omega)
  show IntKind.i64.wrap ((BitVec.ofInt 64 (a : Int) &&& BitVec.ofInt 64 (b : Int)).toNat : Int) = _
  rw [BitVec.toNat_and, ofInt_i64 a ha, ofInt_i64 b hb, IntKind.wrap_i64]
  omega
theorem and_one_i64 (y : Nat) (hy : y < 9223372036854775808) : bits .and .i64 (y : Int) 1 = ((y % 2 : Nat) : Int) := by
  rw [show (1 : Int) = ((1 : Nat) : Int) from rfl, i64_and_nat _ _ hy (by omega), nat_mask1]
theorem half_step (m i : Nat) : m / 2 ^ i = 2 * (m / 2 ^ (i + 1)) + m / 2 ^ i % 2 := by
  rw [Nat.pow_succ, ← Nat.div_div_eq_div_mul]; omega
theorem pow_sq {N a : Nat} : N ^ a * N ^ a = N ^ (2 * a) := by rw [← Nat.pow_add]; congr 1; omega

def RetPow (w : World) (N : Nat) (n : Int) (e : Ending) (w' : World) : Prop :=
  (n < 0 → e = .returned (.tuple #[.slice none 0 0, .int .i64 3]) ∧ Below w.heap.size w w') ∧
  (0 ≤ n → N ^ n.toNat < bigP → ∃ A k c l, e = .returned (.tuple #[.slice A k c, .int .i64 0]) ∧ k ≤ c ∧ k ≤ 4096 ∧ Es w' w'.heap.size A k l ∧ Nrm 4294967296 l (N ^ n.toNat) ∧ Below w.heap.size w w') ∧
  (0 ≤ n → bigP ≤ N ^ n.toNat → e = .returned (.tuple #[.slice none 0 0, .int .i64 20]) ∧ Below w.heap.size w w')
theorem bits_big {N b : Nat} (h : BitsIs N b) : 65536 < b ↔ bigP ≤ N := by
  have hE := bigE_eq
  rw [← bigP_eq]
  rcases h with ⟨h1, h2⟩ | ⟨h1, h2, h3⟩
  · subst h1 h2
    constructor
    · intro h; omega
    · intro h; have := pow2_pos bigE; omega
  · constructor
    · intro h; exact Nat.le_trans (two_pow_le (by omega)) h2
    · intro h
      rcases Nat.lt_or_ge 65536 b with h4 | h4
      · exact h4
      · have := Nat.lt_of_lt_of_le h3 (two_pow_le (show b ≤ bigE by omega))
        exact absurd (Nat.lt_of_le_of_lt h this) (Nat.lt_irrefl _)
theorem one_lt_big : 1 < bigP := by
  rw [← bigP_eq]
  exact Nat.one_lt_two_pow (by rw [bigE_eq]; omega)
theorem Nrm.one : ∀ {l : List Nat}, Nrm 4294967296 l 1 → l.length ≤ 4096 := fun h => by
  rcases Nat.lt_or_ge 1 _ with h1 | h1
  · exact absurd (Nrm.len_lt (l := [1]) (x := 1) ⟨by simp [valB], by simp, by simp [nth, List.getD]⟩ h (by omega) (by simpa using h1)) (Nat.lt_irrefl _)
  · omega

set_option maxHeartbeats 8000000 in
theorem pow_any (A : Option Addr) (ds : List Nat) (n c : Nat) (hc : n ≤ c) (w : World) (hr : Es w w.heap.size A n ds) (hn : n ≤ 1000000) (x : Int) (hx : -9223372036854775808 ≤ x ∧ x ≤ 9223372036854775807) :
    Calls Try.prog 78 #[.slice A n c, .int .i64 x] w (RetPow w (valB 4294967296 ds) x) := by
  have HR := Lib.hid hr; clear hr
  go_enter Try.func78, Try.ntmps78
  go_wp2_with fail
  refine (trim_any A ds n c hc _ HR.out).mono ?_
  rintro e w1 ⟨k, l, rfl, hk, hl, hN, rfl⟩
  generalize valB 4294967296 ds = N at *
  have H1 := Lib.hid hl; clear hl
  have N1 := Lib.hid hN; clear hN
  by_cases hx0 : x < 0
  · go_wp2_with fail
    go_ret2
    exact ⟨fun _ => ⟨rfl, Below.refl _ _⟩, fun h => by omega, fun h => by omega⟩
  obtain ⟨m, rfl⟩ := Int.eq_ofNat_of_zero_le (show 0 ≤ x by omega)
  go_wp2_with fail
  refine (bits_any A l k k (Nat.le_refl _) _ H1.out (by omega)).mono ?_
  rintro e w2 ⟨b, rfl, hb, hb32, rfl⟩
  rw [N1.out.1] at hb
  have HB := Lib.hid hb; clear hb
  by_cases h1 : m = 0 ∨ b = 1
  · have hpow : N ^ m = 1 := by
      rcases h1 with h | h
      · rw [h, Nat.pow_zero]
      · have : N = 1 := by
          rcases HB.out with ⟨_, h2⟩ | ⟨_, h2, h3⟩
          · omega
          · rw [h] at h2 h3; simp at h2 h3; omega
        rw [this, Nat.one_pow]
    have HP := Lib.hid hpow; clear hpow
    have fin : ∀ (w3 : World) (A3 : Option Addr) (k3 c3 : Nat) (l3 : List Nat), k3 ≤ c3 → Es w3 w3.heap.size A3 k3 l3 → Nrm 4294967296 l3 1 → Below w.heap.size w w3 → RetPow w N (m : Int) (.returned (.tuple #[.slice A3 k3 c3, .int .i64 0])) w3 := by
      intro w3 A3 k3 c3 l3 q1 q2 q3 q4
      refine ⟨fun h => by omega, fun _ _ => ⟨A3, k3, c3, l3, rfl, q1, by rw [q2.len]; exact q3.one, q2, ?_, q4⟩, fun _ h => ?_⟩
      · rw [Int.toNat_natCast, HP.out]; exact q3
      · rw [Int.toNat_natCast, HP.out] at h
        exact absurd (Nat.lt_of_lt_of_le one_lt_big h) (Nat.lt_irrefl _)
    have FIN := Lib.hid fin; clear fin
    by_cases hm0 : m = 0
    · subst hm0
      go_wp2_with fail
      refine (nof_any 1 (by omega) _).mono ?_
      rintro e w3 ⟨A3, k3, c3, l3, rfl, q1, q2, q3, q4⟩
      have HQ := Lib.hid (And.intro q2 (And.intro q3 q4)); clear q2 q3 q4
      go_wp2_with fail
      go_ret2
      exact FIN.out w3 A3 k3 c3 l3 q1 HQ.out.1 HQ.out.2.1 HQ.out.2.2
    · have hb1 : b = 1 := by omega
      subst hb1
      have hmb : ((m : Int) == 0) = false := by simp; omega
      go_wp2_with fail
      refine (nof_any 1 (by omega) _).mono ?_
      rintro e w3 ⟨A3, k3, c3, l3, rfl, q1, q2, q3, q4⟩
      have HQ := Lib.hid (And.intro q2 (And.intro q3 q4)); clear q2 q3 q4
      go_wp2_with fail
      go_ret2
      exact FIN.out w3 A3 k3 c3 l3 q1 HQ.out.1 HQ.out.2.1 HQ.out.2.2
  have hm1 : 1 ≤ m := by omega
  have hmb : ((m : Int) == 0) = false := by simp; omega
  have hbb : ((b : Int) == 1) = false := by simp; omega
  by_cases hb0 : b = 0
  · have HN0 := Lib.hid (show N = 0 by rcases HB.out with ⟨h, _⟩ | ⟨h, _⟩ <;> omega)
    subst hb0
    go_wp2_with fail
    go_ret2
    have hp : N ^ (m : Int).toNat = 0 := by rw [HN0.out, Int.toNat_natCast]; exact Nat.zero_pow (by omega)
    refine ⟨fun h => by omega, fun _ _ => ⟨none, 0, 0, [], rfl, Nat.le_refl _, by omega, ⟨Reads.none_, ⟨rfl, by omega⟩, by simp⟩, by rw [hp]; exact Nrm.nil _, Below.refl _ _⟩, fun _ h => ?_⟩
    rw [hp] at h
    have := one_lt_big
    exact absurd (Nat.lt_of_lt_of_le this h) (by omega)
  have hbz : ((b : Int) == 0) = false := by simp; omega
  have hb2 : 2 ≤ b := by omega
  obtain ⟨g1, g2⟩ : 2 ^ (b - 1) ≤ N ∧ N < 2 ^ b := by
    rcases HB.out with ⟨_, h⟩ | ⟨_, h2, h3⟩
    · omega
    · exact ⟨h2, h3⟩
  have hN2 : 2 ≤ N := by
    have := two_pow_le (show 1 ≤ b - 1 by omega)
    omega
  have HG := Lib.hid (And.intro g1 (And.intro g2 hN2)); clear g1 g2 hN2 h1 hb0
  by_cases hov : 65536 ≤ m ∨ 65536 < b ∨ 65536 ≤ (b - 1) * m
  · have HOV := Lib.hid (pow_great HG.out.1 HG.out.2.2 hm1 hov)
    have fin : RetPow w N (m : Int) (.returned (.tuple #[.slice none 0 0, .int .i64 20])) w :=
      ⟨fun h => by omega, fun _ h => absurd (Nat.lt_of_lt_of_le h (by rw [Int.toNat_natCast]; exact HOV.out)) (Nat.lt_irrefl _), fun _ _ => ⟨rfl, Below.refl _ _⟩⟩
    have FIN := Lib.hid fin; clear fin
    have hb32' : b ≤ 32000000 := by omega
    clear hb32
    by_cases o1 : 65536 ≤ m
    · clear hov
      have t1 : decide ((65536 : Int) ≤ (m : Int)) = true := by simp; omega
      clear o1
      go_wp2_with fail
      go_ret2
      exact FIN.out
    · have t1 : decide ((65536 : Int) ≤ (m : Int)) = false := by simp; omega
      by_cases o2 : 65536 < b
      · clear hov
        have t2 : decide ((65536 : Int) < (b : Int)) = true := by simp; omega
        have hm6 : m < 65537 := by omega
        clear o1 o2 hm6
        go_wp2_with fail
        go_ret2
        exact FIN.out
      · have t2 : decide ((65536 : Int) < (b : Int)) = false := by simp; omega
        have o3 : 65536 ≤ (b - 1) * m := by omega
        have e1 : (((b - 1) * m : Nat) : Int) = ((b : Int) - 1) * (m : Int) := by rw [Int.natCast_mul, Int.natCast_sub (by omega)]; simp
        have t3 : decide ((65536 : Int) ≤ ((b : Int) - 1) * (m : Int)) = true := by rw [← e1]; simp; omega
        have o4 : (0 : Int) ≤ ((b : Int) - 1) * (m : Int) := by omega
        have o5 : ((b : Int) - 1) * (m : Int) ≤ 4294967296 := by
          have h1 : (b - 1) * m ≤ 65536 * 65536 := Nat.mul_le_mul (by omega) (by omega)
          omega
        clear hov o3 o1 o2 e1
        go_wp2_with fail
        go_ret2
        exact FIN.out
  have t1 : decide ((65536 : Int) ≤ (m : Int)) = false := by simp; omega
  have t2 : decide ((65536 : Int) < (b : Int)) = false := by simp; omega
  have e1 : (((b - 1) * m : Nat) : Int) = ((b : Int) - 1) * (m : Int) := by rw [Int.natCast_mul, Int.natCast_sub (by omega)]; simp
  have t3 : decide ((65536 : Int) ≤ ((b : Int) - 1) * (m : Int)) = false := by rw [← e1]; simp; omega
  have o4 : (0 : Int) ≤ ((b : Int) - 1) * (m : Int) := by omega
  have o5 : ((b : Int) - 1) * (m : Int) ≤ 4294967296 := by omega
  have hbm : b * m ≤ 131072 := by
    obtain ⟨b', rfl⟩ : ∃ b', b = b' + 1 := ⟨b - 1, by omega⟩
    rw [Nat.add_sub_cancel] at hov
    rw [Nat.add_mul, Nat.one_mul]
    omega
  have hbm0 : 0 < b * m := Nat.mul_pos (by omega) (by omega)
  have HBD := Lib.hid (fun (a : Nat) (ha : a ≤ m) => pow_bound HG.out.2.1 hbm ha (by have := HG.out.2.2; omega) hbm0)
  have hm6 : m < 70000 := by omega
  clear hov e1 hbm hbm0
  go_wp2_with fail
  refine (nof_any 1 (by omega) _).mono ?_
  rintro e w3 ⟨A3, k3, c3, l3, rfl, q1, q2, q3, q4⟩
  have HQ := Lib.hid (And.intro q1 (And.intro q2 (And.intro q3 q4))); clear q1 q2 q3 q4
  clear t1 t2 t3 o4 o5
  go_wp2_with fail
  refine (Try.bits_Len (m : Int) _ (by omega) (by omega)).mono ?_
  rintro e w3 ⟨rfl, rfl⟩
  rw [Int.toNat_natCast]
  obtain ⟨s1, s2, s3⟩ := bitLen_spec 17 m (by omega) (by omega) (by omega)
  have s4 : Lib.bitLen m ≤ 17 := by
    rcases Nat.lt_or_ge 17 (Lib.bitLen m) with h | h
    · have := two_pow_le (show 17 ≤ Lib.bitLen m - 1 by omega); omega
    · exact h
  have HS3 := Lib.hid s3
  generalize Lib.bitLen m = t at *
  clear s2 s3
  go_wp2_with fail
  go_loopw [7, 8] (fun ov iv wr => ∃ (i k' c' : Nat) (A' : Option Addr), i ≤ t ∧ ov = .slice A' k' c' ∧ iv = .int .i64 ((i : Int) - 1) ∧ Hid (k' ≤ c' ∧ Below w.heap.size w wr ∧ ∃ l', Es wr wr.heap.size A' k' l' ∧ Nrm 4294967296 l' (N ^ (m / 2 ^ i)))) (fun _ iv _ => (intOf iv + 1).toNat)
  case atStart =>
    refine ⟨t, k3, c3, A3, Nat.le_refl _, rfl, rfl, Lib.hid ⟨HQ.out.1, HQ.out.2.2.2, l3, HQ.out.2.1, ?_⟩⟩
    rw [Nat.div_eq_of_lt HS3.out, Nat.pow_zero]; exact HQ.out.2.2.1
  case round =>
    obtain ⟨i, k', c', A', hi, rfl, rfl, HJ⟩ := hrel
    by_cases hi0 : 0 < i
    · obtain ⟨i, rfl⟩ : ∃ j, i = j + 1 := ⟨i - 1, by omega⟩
      have i0 : ((i + 1 : Nat) : Int) - 1 = (i : Int) := by omega
      rw [i0]
      obtain ⟨hkc, hBl, l', hE, hN'⟩ := HJ.out
      have hk4 : k' ≤ 4096 := by
        rw [hE.len, ← capE_eq]
        exact len_of_pow (e := 32) rfl hN' (HBD.out _ (Nat.div_le_self _ _))
      have HE := Lib.hid (And.intro hE (And.intro hN' hBl)); clear hE hN' hBl HJ
      go_wp2_with fail
      refine (mul_any A' l' k' c' hkc A' l' k' c' hkc _ HE.out.1 HE.out.1 (by omega) (by omega)).mono ?_
      rintro e w4 ⟨A4, k4, c4, l4, rfl, hk4c, hE4, hN4, hb4⟩
      rw [HE.out.2.1.1, pow_sq] at hN4
      have hB4 := bthen HE.out.2.2 hb4 HE.out.2.2.size
      have hA4 := (H1.out.new HE.out.2.2).new hb4
      have hst := half_step m i
      have hk44 : k4 ≤ 4096 := by
        rw [hE4.len, ← capE_eq]
        exact len_of_pow (e := 32) rfl hN4 (HBD.out _ (by have := Nat.div_le_self m (2 ^ i); omega))
      have hmi : m / 2 ^ i ≤ m := Nat.div_le_self _ _
      have ht := and_one_i64 (m / 2 ^ i) (by omega)
      rw [Int.natCast_ediv, cast_pow2] at ht
      have H4 := Lib.hid (And.intro hE4 (And.intro hN4 (And.intro hB4 (And.intro hA4 hst)))); clear hE4 hN4 hB4 hA4 hst hb4 hmi
      by_cases hodd : m / 2 ^ i % 2 = 1
      · have tb : (bits .and .i64 ((m : Int) / 2 ^ i) 1 == 1) = true := by rw [ht, hodd]; rfl
        have HODD := Lib.hid hodd; clear hodd ht
        go_wp2_with fail
        refine (mul_any A4 l4 k4 c4 hk4c A l k k (Nat.le_refl _) _ H4.out.1 H4.out.2.2.2.1 (by omega) (by omega)).mono ?_
        rintro e w5 ⟨A5, k5, c5, l5, rfl, hk5c, hE5, hN5, hb5⟩
        rw [H4.out.2.1.1, N1.out.1, ← Nat.pow_succ] at hN5
        have H5 := Lib.hid (And.intro hk5c (And.intro hE5 (And.intro hN5 (bthen H4.out.2.2.1 hb5 H4.out.2.2.1.size)))); clear hk5c hE5 hN5 hb5
        go_wp2_with fail
        refine ⟨⟨i, k5, c5, A5, by omega, rfl, rfl, Lib.hid ⟨H5.out.1, H5.out.2.2.2, l5, H5.out.2.1, ?_⟩⟩, by simp [intOf]⟩
        have h1 := H4.out.2.2.2.2
        rw [HODD.out] at h1
        rw [h1]; exact H5.out.2.2.1
      · have hz : m / 2 ^ i % 2 = 0 := by omega
        have tb : (bits .and .i64 ((m : Int) / 2 ^ i) 1 == 1) = false := by rw [ht, hz]; rfl
        have HODD := Lib.hid hz; clear hodd hz ht
        go_wp2_with fail
        refine ⟨⟨i, k4, c4, A4, by omega, rfl, rfl, Lib.hid ⟨hk4c, H4.out.2.2.1, l4, H4.out.1, ?_⟩⟩, by simp [intOf]⟩
        have h1 := H4.out.2.2.2.2
        rw [HODD.out, Nat.add_zero] at h1
        rw [h1]; exact H4.out.2.1
    · obtain rfl : i = 0 := by omega
      obtain ⟨hkc, hBl, l', hE, hN'⟩ := HJ.out
      rw [Nat.pow_zero, Nat.div_one] at hN'
      have hk4 : k' ≤ 4096 := by
        rw [hE.len, ← capE_eq]
        exact len_of_pow (e := 32) rfl hN' (HBD.out _ (Nat.le_refl _))
      have HE := Lib.hid (And.intro hE (And.intro hN' hBl)); clear hE hN' hBl HJ
      go_wp2_with fail
      refine (bits_any A' l' k' c' hkc _ HE.out.1 (by omega)).mono ?_
      rintro e w4 ⟨b4, rfl, hb4, hb4l, rfl⟩
      rw [HE.out.2.1.1] at hb4
      have HB4 := Lib.hid (bits_big hb4); clear hb4
      by_cases hbig : 65536 < b4
      · have t1 : decide ((65536 : Int) < (b4 : Int)) = true := by simp; omega
        have HBIG := Lib.hid (HB4.out.1 hbig); clear hbig
        go_wp2_with fail
        go_ret2
        exact ⟨fun h => by omega, fun _ h => absurd (Nat.lt_of_lt_of_le h (by rw [Int.toNat_natCast]; exact HBIG.out)) (Nat.lt_irrefl _), fun _ _ => ⟨rfl, HE.out.2.2⟩⟩
      · have t1 : decide ((65536 : Int) < (b4 : Int)) = false := by simp; omega
        have HBIG := Lib.hid (fun h => hbig (HB4.out.2 h)); clear hbig
        go_wp2_with fail
        go_ret2
        refine ⟨fun h => by omega, fun _ _ => ⟨A', k', c', l', rfl, hkc, hk4, HE.out.1, ?_, HE.out.2.2⟩, fun _ h => ?_⟩
        · rw [Int.toNat_natCast]; exact HE.out.2.1
        · rw [Int.toNat_natCast] at h; exact absurd h HBIG.out

end Go.Proofs.Ytpnklmgfdihjfaa
namespace Go.Proofs.Ytpnklmgfdihjfaa
open Go.RowKit
section
variable {w : World} {A B : Option Addr} {n c m d a b N M : Nat}
def RetPowN (w : World) (N : Nat) (n : Int) (e : Ending) (w' : World) : Prop :=
  (n < 0 → e = .returned (.tuple #[.slice none 0 0, .int .i64 3]) ∧ Below w.heap.size w w') ∧
  (0 ≤ n → N ^ n.toNat < bigP → ∃ A k c, e = .returned (.tuple #[.slice A k c, .int .i64 0]) ∧ Num w' A k c 4096 (N ^ n.toNat) ∧ Norm w' A k (N ^ n.toNat) ∧ Below w.heap.size w w') ∧
  (0 ≤ n → bigP ≤ N ^ n.toNat → e = .returned (.tuple #[.slice none 0 0, .int .i64 20]) ∧ Below w.heap.size w w')
theorem pow_n (ha : Num w A n c a N) (x : Int) (hx : -9223372036854775808 ≤ x ∧ x ≤ 9223372036854775807) : Calls Try.prog 78 #[.slice A n c, .int .i64 x] w (RetPowN w N x) := by
  obtain ⟨a1, a2, a3, a4, l, a5, rfl⟩ := ha
  refine (pow_any A l n c a1 w a5 (by omega) x hx).mono fun _ _ h => ⟨h.1, fun h0 hlt => ?_, h.2.2⟩
  obtain ⟨A', k', c', l', h1, h2, h2', h3, h4, h5⟩ := h.2.1 h0 hlt
  have hk := h3.len
  refine ⟨A', k', c', h1, ⟨h2, by omega, by omega, ?_, l', h3, h4.1⟩, ⟨l', h3, h4⟩, h5⟩
  have := h4.lt
  exact Nat.lt_of_lt_of_le this (PB_mono (by omega))
end
end Go.Proofs.Ytpnklmgfdihjfaa
namespace Go.Proofs.Ytpnklmgfdihjfaa
open Go.RowKit

end Go.Proofs.Ytpnklmgfdihjfaa
namespace Go.Proofs.Ytpnklmgfdihjfaa
open Go.RowKit

section
variable (A B C : Option Addr) (n m k c d f : Nat) (w : World)
end

end Go.Proofs.Ytpnklmgfdihjfaa
namespace Go.Proofs.Ytpnklmgfdihjfaa
open Go.RowKit

def RetPN (w : World) (N : Nat) (e : Ending) (w' : World) : Prop := ∃ A k c, e = .returned (.tuple #[.slice A k c, .int .i64 0]) ∧ Num w' A k c 4096 N ∧ Below w.heap.size w w'
section
variable {w : World} {A : Option Addr} {n c N b : Nat}
theorem pow_fits (ha : Num w A n c b N) (x : Nat) (hx : x ≤ 100000) (h : N ^ x < bigP) (X : Int) (hX : X = x) : Calls Try.prog 78 #[.slice A n c, .int .i64 X] w (RetPN w (N ^ x)) := by
  refine (pow_n ha X (by omega)).mono fun e w' hp => ?_
  have hX' : X.toNat = x := by omega
  obtain ⟨A', k', c', h1, h2, -, h3⟩ := hp.2.1 (by omega) (by rw [hX']; exact h)
  rw [hX'] at h2
  exact ⟨A', k', c', h1, h2, h3⟩
end

section
variable (A : Option Addr) (n c : Nat) (w : World)
end

end Go.Proofs.Ytpnklmgfdihjfaa
namespace Go.Proofs.Ytpnklmgfdihjfaa
open Go.RowKit
set_option linter.unusedVariables false
set_option linter.unusedSimpArgs false

theorem fldR2 (x y z : Value) (W : World) : (Instr.field 31 (.agg #[x, y, z]) 2).run Try.prog W = .ok z W := by kernel_rfl
theorem fldR1 (x y z : Value) (W : World) : (Instr.field 31 (.agg #[x, y, z]) 1).run Try.prog W = .ok y W := by kernel_rfl
theorem Xs.grownX {w w' : World} {B n : Nat} {A : Option Addr} {xs : List Int} (h : Xs w B A n xs) {row : Option Nat} (hg : w.grownBy w' row) (hB : B ≤ w.heap.size) (hr : ∀ g, row = some g → B ≤ g) : Xs w' B A n xs := ⟨h.1.grown hg hB hr, h.2⟩
/-- DivMod's answer with the quotient N. -/
def DmV (b N : Nat) (v : Value) (w : World) : Prop := ∃ (A : Option Addr) (k c : Nat) (u : Value), v = .tuple #[.slice A k c, u, .int .i64 0] ∧ Num w A k c b N
theorem DmV.new {b N : Nat} {v : Value} {w w' : World} (h : DmV b N v w) (hb : Below w.heap.size w w') : DmV b N v w' := by
  obtain ⟨A, k, c, u, h1, h2⟩ := h
  exact ⟨A, k, c, u, h1, h2.new hb⟩
/-- An answer of power: a number and no error. -/
def PwV (b N : Nat) (v : Value) (w : World) : Prop := ∃ (A : Option Addr) (k c : Nat), v = .tuple #[.slice A k c, .int .i64 0] ∧ Num w A k c b N
theorem PwV.new {b N : Nat} {v : Value} {w w' : World} (h : PwV b N v w) (hb : Below w.heap.size w w') : PwV b N v w' := by
  obtain ⟨A, k, c, h1, h2⟩ := h
  exact ⟨A, k, c, h1, h2.new hb⟩
section
variable {w : World} {a b N M : Nat} {u v : Value}
theorem quo_nv (h : Nv a N u w) (h' : Nv b M v w) (hM : M ≠ 0) (ha : a ≤ 10000) (hb : b ≤ 10000) : Calls Try.prog 75 #[u, v] w (RV w (DmV a (N / M))) := by
  obtain ⟨A, k, c, rfl, h⟩ := h
  obtain ⟨B, m, d, rfl, h'⟩ := h'
  refine (dm_n h h' ha hb).mono ?_
  rintro e w2 ⟨-, h2⟩
  obtain ⟨A3, k3, c3, A14, k4, c4, rfl, ⟨h3, -⟩, -, hb⟩ := h2 hM
  exact ⟨_, rfl, ⟨A3, k3, c3, _, rfl, h3⟩, hb⟩
theorem gcd_nv (h : Nv a N u w) (h' : Nv b M v w) (hab : a + b ≤ 10000) : Calls Try.prog 77 #[u, v] w (RV w (Nv (a + b) (Nat.gcd N M))) := by
  obtain ⟨A, k, c, rfl, h⟩ := h
  obtain ⟨B, m, d, rfl, h'⟩ := h'
  refine (cvdivisor_any h h' hab).mono ?_
  rintro e w2 ⟨A3, k3, c3, rfl, h3, hb⟩
  exact ⟨_, rfl, ⟨A3, k3, c3, rfl, h3⟩, hb⟩
theorem pow_nv (h : Nv a N u w) (h' : Nv b M v w) (hM : M ≤ 100000) (hf : N ^ M < bigP) : Calls Try.prog 43 #[u, v] w (RV w (PwV 4096 (N ^ M))) := by
  obtain ⟨A, k, c, rfl, h⟩ := h
  obtain ⟨B, m, d, rfl, h'⟩ := h'
  refine power_ok h h' (by omega) _ ((pow_fits h M hM hf _ rfl).mono ?_)
  rintro e w2 ⟨A3, k3, c3, rfl, h3, hb⟩
  exact ⟨_, _, rfl, _, rfl, ⟨A3, k3, c3, rfl, h3⟩, hb⟩
variable {o : Oper} {a' : Act} {t : Tmp} {x : Rat}
theorem load_nv {g : Nat} {A : Option Addr} {k c : Nat} (ho : o.op = .load 29 (.tmp t)) (hx : tv a' t = .pointer (some ⟨g, 0, none⟩)) (hb : Blk w g 29 #[.slice A k c]) (hn : Num w A k c b N) : gives Try.prog o a'.eval w (fun v w' => Nv b N v w' ∧ Below w.heap.size w w') :=
  gives_mono (load_nat ho hx (Blk.at0 hb (Below.refl _ _))) fun v w' ⟨e, hb⟩ => ⟨⟨A, k, c, e, hn.new hb⟩, hb⟩
theorem ext_dm (ho : o.op = .extract (.tmp t) 0) (h : DmV b N (tv a' t) w) : gives Try.prog o a'.eval w (fun v w' => Nv b N v w' ∧ Below w.heap.size w w') := by
  obtain ⟨A, k, c, u, h1, h2⟩ := h
  refine gives_val (.slice A k c) ?_ ⟨⟨A, k, c, rfl, h2⟩, Below.refl _ _⟩
  unfold execOp
  rw [ho]
  simp only [eval_tmp, h1]
  go_simp
theorem ext_dm1 (ho : o.op = .extract (.tmp t) 1) (h : DmV b N (tv a' t) w) : gives Try.prog o a'.eval w (fun v w' => True ∧ Below w.heap.size w w') := by
  obtain ⟨A, k, c, u, h1, h2⟩ := h
  refine gives_val u ?_ ⟨trivial, Below.refl _ _⟩
  unfold execOp
  rw [ho]
  simp only [eval_tmp, h1]
  go_simp
theorem ext_dm2 (ho : o.op = .extract (.tmp t) 2) (h : DmV b N (tv a' t) w) : gives Try.prog o a'.eval w (fun v w' => True ∧ Below w.heap.size w w') := by
  obtain ⟨A, k, c, u, h1, h2⟩ := h
  refine gives_val (.int .i64 0) ?_ ⟨trivial, Below.refl _ _⟩
  unfold execOp
  rw [ho]
  simp only [eval_tmp, h1]
  go_simp
theorem ext_pw (ho : o.op = .extract (.tmp t) 0) (h : PwV b N (tv a' t) w) : gives Try.prog o a'.eval w (fun v w' => Nv b N v w' ∧ Below w.heap.size w w') := by
  obtain ⟨A, k, c, h1, h2⟩ := h
  refine gives_val (.slice A k c) ?_ ⟨⟨A, k, c, rfl, h2⟩, Below.refl _ _⟩
  unfold execOp
  rw [ho]
  simp only [eval_tmp, h1]
  go_simp
theorem ext_pw1 (ho : o.op = .extract (.tmp t) 1) (h : PwV b N (tv a' t) w) : gives Try.prog o a'.eval w (fun v w' => v = .int .i64 0 ∧ Below w.heap.size w w') := by
  obtain ⟨A, k, c, h1, h2⟩ := h
  refine gives_val (.int .i64 0) ?_ ⟨rfl, Below.refl _ _⟩
  unfold execOp
  rw [ho]
  simp only [eval_tmp, h1]
  go_simp
theorem fld_num (ho : o.op = .field 31 (.tmp t) 1) (h : Rv b x (tv a' t) w) : gives Try.prog o a'.eval w (fun v w' => Nv b x.num.natAbs v w' ∧ Below w.heap.size w w') := by
  obtain ⟨s, A, n, c, B, m, d, h1, h2⟩ := h
  refine gives_val (.slice A n c) ?_ ⟨⟨A, n, c, rfl, h2.2.1.1⟩, Below.refl _ _⟩
  unfold execOp
  rw [ho]
  simp only [eval_tmp, h1, Sem.run_bind, fldR1, Result.andThen_ok]
  rfl
end

end Go.Proofs.Ytpnklmgfdihjfaa
namespace Go.Proofs.Ytpnklmgfdihjfaa
open Go.RowKit
set_option linter.unusedVariables false
set_option linter.unusedSimpArgs false

end Go.Proofs.Ytpnklmgfdihjfaa
namespace Go.Proofs.Ytpnklmgfdihjfaa
open Go.RowKit
set_option linter.unusedVariables false
set_option linter.unusedSimpArgs false

theorem wp_app_int9 {o : Oper} {a : Act} {w : World} {K : Act → World → Prop} {Q : Exit → Act → World → Prop} (s x : Operand) (ho : o.op = .call { callee := .builtin .append, args := #[s, x], argTypes := #[45, 45] })
    (base : Nat) (v : Value) (n : Nat) (xs : List Value) (hs : a.eval s = v) (hown : OwnC w base 3 1 v n xs) (g : Nat) (y : Int) (hx : a.eval x = .slice (some ⟨g, 0, none⟩) 1 1) (hb : Blk w g 3 #[.int .i64 y])
    (hk : n ≤ 1100000) (hbase : base ≤ w.heap.size)
    (h : ∀ v' w', OwnC w' base 3 1 v' (n + 1) (xs ++ [.int .i64 y]) → w.grownBy w' v.ownBlock → (v'.ownBlock = v.ownBlock ∨ v'.ownBlock = some w.heap.size) → KeepsN w w' → K (a.put o.dst v') w') : o.wp Try.prog a w K Q := by
  obtain ⟨i, hi, hz, hs1, hby⟩ := info_parts info_int
  have hr : Reads w w.heap.size 1 (some ⟨g, 0, none⟩) 1 [.int .i64 y] := ⟨rfl, fun _ => ⟨_, rfl, hb.lt, fun j u hu => by
    rw [addr_zero, hb.cell]; simpa using hu⟩⟩
  refine wp_append_clean s x 45 ho base 3 i _ 1 8 Try.underlying45 hi hz hs1 hby rfl (by omega) (by intro u hu z hz'; simp [Value.cells] at hu; subst hu; cases hz') v n xs hs hown w.heap.size _ 1 1 _ hx hr (by simp; rfl) (by intro u hu z hz'; simp at hu; subst hu; cases hz') (by simp only [maxLen]; omega) (by omega) hbase h
theorem wp_push_rat9 {o : Oper} {a : Act} {w : World} {K : Act → World → Prop} {Q : Exit → Act → World → Prop} (s x : Operand) (ho : o.op = .call { callee := .builtin .append, args := #[s, x], argTypes := #[28, 28] })
    (base : Nat) (v : Value) (n : Nat) (P : Nat → Value → Prop) (hs : a.eval s = v) (hown : OR w base v n P) (B : Nat) (A : Option Addr) (c : Nat) (P1 : Nat → Value → Prop) (hx : a.eval x = .slice A 1 c) (hr : Rs w B A 1 P1)
    (hk : n ≤ 1100000) (hbase : base ≤ w.heap.size)
    (h : ∀ v' w', (∀ R : Nat → Value → Prop, (∀ j u, j < n → P j u → R j u) → (∀ u, P1 0 u → R n u) → OR w' base v' (n + 1) R) → w.grownBy w' v.ownBlock → (v'.ownBlock = v.ownBlock ∨ v'.ownBlock = some w.heap.size) → KeepsN w w' → K (a.put o.dst v') w') : o.wp Try.prog a w K Q := by
  obtain ⟨i, hi, hz, hs1, hby⟩ := info_parts info_rat
  obtain ⟨xs, h1, h2⟩ := hown
  obtain ⟨ys, hr, hl⟩ := hr
  refine wp_append_clean s x 28 ho base 31 i _ 3 56 Try.underlying28 hi hz hs1 hby rfl (by omega) (by intro u hu z hz'; simp [Value.cells] at hu; rcases hu with rfl | rfl <;> cases hz') v n xs hs h1 B A 1 c ys hx hr (fun u hu => (hl.cl u hu).2) (fun u hu => (hl.cl u hu).1) (by simp only [maxLen]; omega) (by omega) hbase ?_
  intro v' w' g1 g2 g3 g4
  refine h v' w' (fun R hR hn => ⟨_, g1, ?_⟩) g2 g3 g4
  obtain ⟨s, A, k, c, B, m, d, q0, q1, q2, q3⟩ := hl.2 0 (by omega)
  have hlen := hl.1
  match ys, hlen, q0, q1, q2 with
  | [y0, y1, y2], _, q0, q1, q2 =>
    simp at q0 q1 q2
    subst q0; subst q1; subst q2
    exact (h2.mono hR).app (hn _ q3)
/-- A slice of small integers. -/
def Ks (k : IntKind) (m : Int) (w : World) (B : Nat) (A : Option Addr) (n : Nat) (xs : List Int) : Prop := Reads w B 1 A n (xs.map (Value.int k)) ∧ (n = xs.length ∧ n ≤ 9223372036854775807) ∧ ∀ x ∈ xs, -m ≤ x ∧ x < m
section
variable {k : IntKind} {m : Int} {w w' : World} {B B' n i : Nat} {A : Option Addr} {xs : List Int}
theorem Ks.lt (h : Ks k m w B A n xs) (hi : i < n) : -m ≤ inth xs i ∧ inth xs i < m := h.2.2 _ (inth_mem (by rw [← h.2.1.1]; exact hi))
theorem Ks.at_ (h : Ks k m w B A n xs) (hi : i < n) : ∃ ad, A = some ad ∧ ad.block < B ∧ w.cell? (ad.add i) = some (.int k (inth xs i)) := by
  obtain ⟨ad, h1, h2, h3⟩ := h.1.2 (by omega)
  have hl : i < xs.length := by rw [← h.2.1.1]; exact hi
  exact ⟨ad, h1, h2, h3 i _ (by rw [List.getElem?_map, List.getElem?_eq_getElem hl]; simp [inth, List.getD, hl])⟩
theorem Ks.below (h : Ks k m w B A n xs) (hb : Below B w w') : Ks k m w' B A n xs := ⟨h.1.below hb, h.2⟩
theorem Ks.more (h : Ks k m w B A n xs) (hB : B ≤ B') : Ks k m w B' A n xs := ⟨h.1.more hB, h.2⟩
end
theorem I64_take {xs : List Int} {i : Nat} (h : i < xs.length) : I64 (xs.take (i + 1)) = I64 (xs.take i) ++ [.int .i64 (inth xs i)] := by
  rw [List.take_add_one]
  unfold I64 inth
  rw [List.map_append]
  simp [List.getD, h]
theorem conv_i8n {o : Oper} {a : Act} {w : World} {t : Tmp} {z : Int} (hz : -128 ≤ z ∧ z < 128) (ho : o.op = .convert 41 3 (.tmp t)) (hx : tv a t = .int .i8 z) : gives Try.prog o a.eval w (fun v w' => v = .int .i64 z ∧ Below w.heap.size w w') := by
  have e : IntKind.i64.wrap z = z := IntWalk.i64_in _ (by omega)
  refine gives_val (.int .i64 z) ?_ ⟨rfl, Below.refl _ _⟩
  unfold execOp; rw [ho]; simp only [eval_tmp, hx]
  go_simp
theorem conv_i8l {o : Oper} {a : Act} {w : World} {t : Tmp} {z : Int} (hz : -128 ≤ z ∧ z < 128) (ho : o.op = .convert 41 2 (.tmp t)) (hx : tv a t = .int .i8 z) : gives Try.prog o a.eval w (fun v w' => v = .int .i64 z ∧ Below w.heap.size w w') := by
  have e : IntKind.i64.wrap z = z := IntWalk.i64_in _ (by omega)
  refine gives_val (.int .i64 z) ?_ ⟨rfl, Below.refl _ _⟩
  unfold execOp; rw [ho]; simp only [eval_tmp, hx]
  go_simp
theorem load_i8n {o : Oper} {a : Act} {w : World} {t : Tmp} {p : Addr} {v : Value} (ho : o.op = .load 41 (.tmp t)) (hx : tv a t = .pointer (some p)) (hc : w.cell? p = some v) : gives Try.prog o a.eval w (fun z w' => z = v ∧ Below w.heap.size w w') := by
  refine gives_val v ?_ ⟨rfl, Below.refl _ _⟩
  unfold execOp; rw [ho]; simp only [eval_tmp, hx]; go_simp
theorem fld_gus {o : Oper} {a : Act} {w : World} {t : Tmp} {g k : Nat} (ho : o.op = .fieldAddr 43 (.tmp t) k) (hk : k < 4) (h : tv a t = .pointer (some ⟨g, 0, none⟩)) : gives Try.prog o a.eval w (fun v w' => v = .pointer (some ⟨g, k, none⟩) ∧ Below w.heap.size w w') := by
  refine gives_val (.pointer (some ⟨g, k, none⟩)) ?_ ⟨rfl, Below.refl _ _⟩
  have : k = 0 ∨ k = 1 ∨ k = 2 ∨ k = 3 := by omega
  rcases this with rfl | rfl | rfl | rfl <;> (unfold execOp; rw [ho]; simp only [eval_tmp, h]; go_simp)
theorem store_cv2 {o : Oper} {a : Act} {w : World} {t u : Tmp} {g : Nat} {p0 p1 v0 v1 v2 u0 u1 u2 : Value} {K : Act → World → Prop} {Q : Exit → Act → World → Prop} (ho : o.op = .store 31 (.tmp t) (.tmp u)) (hd : o.dst = none) (ht : a.eval (.tmp t) = .pointer (some ⟨g, 2, none⟩)) (hu : a.eval (.tmp u) = .agg #[u0, u1, u2])
    (hr : Blk w g 33 #[p0, p1, v0, v1, v2]) (hcl : ∀ u ∈ [v0, v1, v2], ∀ x, u ≠ .int .u32 x) (h1 : #[u0, u1, u2].all (·.oneCell') = true)
    (next : ∀ w', KeepsN w w' → w.grownBy w' (some g) → w'.heap.size = w.heap.size → Blk w' g 33 #[p0, p1, u0, u1, u2] → K a w') : o.wp Try.prog a w K Q := by
  refine wp_store_mid 31 (.tmp t) (.tmp u) ho g 2 #[u0, u1, u2] ht hu (fun i hi => ⟨?_, hr.frozen _⟩) (by kernel_rfl) h1 ?_
  · rw [hr.cell]
    have hi7 : 2 + i < 5 := by have : i < 3 := by simpa using hi
                               omega
    rw [Array.getElem?_eq_getElem hi7]; rfl
  · rw [hd]
    have b0 : Blk (w.setCell ⟨g, 2, none⟩ u0) g 33 #[p0, p1, u0, v1, v2] := hr.set_ 2 u0
    have b1 : Blk ((w.setCell ⟨g, 2, none⟩ u0).setCell ⟨g, 3, none⟩ u1) g 33 #[p0, p1, u0, u1, v2] := b0.set_ 3 u1
    have b2 : Blk (((w.setCell ⟨g, 2, none⟩ u0).setCell ⟨g, 3, none⟩ u1).setCell ⟨g, 4, none⟩ u2) g 33 #[p0, p1, u0, u1, u2] := b1.set_ 4 u2
    refine next _ ?_ ?_ ?_ b2
    · refine KeepsN.trans (KeepsN.trans (KeepsN.blk hr (i := 2) (by show 2 < 5; omega) (fun x hx => hcl v0 (by simp) x (by simpa using hx)) u0) (KeepsN.blk b0 (i := 3) (by show 3 < 5; omega) (fun x hx => hcl v1 (by simp) x (by simpa using hx)) u1)) (KeepsN.blk b1 (i := 4) (by show 4 < 5; omega) (fun x hx => hcl v2 (by simp) x (by simpa using hx)) u2)
    · exact only_setCells [u0, u1, u2] w 2 (World.grownBy.refl w (some g))
    · show (w.setCells g 2 [u0, u1, u2]).heap.size = _
      simp [World.setCells, size_setCell]
theorem results_cell_tmp3 {P : Program} {fn : Func} {p t u x : Tmp} {ty : TypeId} (h : fn.results = #[.cell p ty, .tmp t, .tmp u, .tmp x]) (tmps : Array Value) (w : World) (g : Nat) (t' : TypeId) (cs : Array Value) (fr : Nat × Nat) (d : TypeDesc)
    (hp : tmps.getD p undef = .pointer (some ⟨g, 0, none⟩)) (hg : w.heap[g]? = some (.cells cs t' fr))
    (hu : P.underlying ty = some d) (hd : (match d with | .struct _ | .array _ _ => true | _ => false) = true) (hi : (P.info? ty).map (·.size) = some cs.size) :
    (results fn tmps).run P w = .ok (.tuple #[.agg cs, tmps.getD t undef, tmps.getD u undef, tmps.getD x undef]) w := by
  have hp' : tmps[p]?.getD undef = .pointer (some ⟨g, 0, none⟩) := by simpa using hp
  simp [results, h, hp', asAddr, run_loadVar_row w g t' ty cs fr d hg hu hd hi]
theorem apB_push {w : World} {v v' y : Value} (h : apB v.ownBlock y ∧ apB y.ownBlock v) (hor : v'.ownBlock = v.ownBlock ∨ v'.ownBlock = some w.heap.size) (hy : ∀ k, y.ownBlock = some k → k < w.heap.size) : apB v'.ownBlock y ∧ apB y.ownBlock v' := by
  rcases hor with e | e
  · unfold apB at *; rw [e]; exact h
  · unfold apB; rw [e]
    have : y.ownBlock ≠ some w.heap.size := fun h2 => by have := hy _ h2; omega
    exact ⟨.inr this, .inr fun h2 => this h2.symm⟩
/-- The memory while made runs. -/
structure MdS (w0 : World) (b0 g1 g2 g7 : Nat) (gc : Array Value) (u0 u1 : Value) (v1 : Value) (k1 : Nat) (L1 : List Value) (v2 : Value) (k2 : Nat) (F : Nat → Rat) (y1 : Value) (l1 : Nat) (M1 : List Value) (y2 : Value) (l2 : Nat) (G : Nat → Rat) (w : World) : Prop where
  gb : Blk w g1 43 gc
  rs : Blk w g2 33 #[.slice none 0 0, .slice none 0 0, .bool false, .slice none 0 0, .slice none 0 0]
  cu : Blk w g7 33 #[u0, u1, .bool false, .slice none 0 0, .slice none 0 0]
  w1 : OwnC w b0 3 1 v1 k1 L1
  w2 : OR w b0 v2 k2 (PN w 2 F)
  p1 : OwnC w b0 3 1 y1 l1 M1
  p2 : OR w b0 y2 l2 (PN w 2 G)
  n1 : apB v1.ownBlock y1 ∧ apB y1.ownBlock v1
  n2 : apB v2.ownBlock y2 ∧ apB y2.ownBlock v2
  hb : Below w0.heap.size w0 w
  lo : g1 < b0 ∧ g2 < b0 ∧ g7 < b0 ∧ w0.heap.size ≤ g7 ∧ w0.heap.size ≤ b0 ∧ g2 ≠ g7
  sz : b0 ≤ w.heap.size
section
variable {w0 : World} {b0 g1 g2 g7 : Nat} {gc : Array Value} {u0 u1 : Value} {v1 : Value} {k1 : Nat} {L1 : List Value} {v2 : Value} {k2 : Nat} {F : Nat → Rat} {y1 : Value} {l1 : Nat} {M1 : List Value} {y2 : Value} {l2 : Nat} {G : Nat → Rat} {w w' : World} {v' x : Value}
theorem MdS.below (h : MdS w0 b0 g1 g2 g7 gc u0 u1 v1 k1 L1 v2 k2 F y1 l1 M1 y2 l2 G w) (hb : Below w.heap.size w w') : MdS w0 b0 g1 g2 g7 gc u0 u1 v1 k1 L1 v2 k2 F y1 l1 M1 y2 l2 G w' :=
  ⟨h.gb.keep hb, h.rs.keep hb, h.cu.keep hb, h.w1.below hb, h.w2.newN hb, h.p1.below hb, h.p2.newN hb, h.n1, h.n2, bthen h.hb hb h.hb.size, h.lo, Nat.le_trans h.sz hb.size⟩
theorem MdS.pushW (h : MdS w0 b0 g1 g2 g7 gc u0 u1 v1 k1 L1 v2 k2 F y1 l1 M1 y2 l2 G w) (ho : OwnC w' b0 3 1 v' (k1 + 1) (L1 ++ [x])) (hgr : w.grownBy w' v1.ownBlock) (hor : v'.ownBlock = v1.ownBlock ∨ v'.ownBlock = some w.heap.size) (kp : KeepsN w w') : MdS w0 b0 g1 g2 g7 gc u0 u1 v' (k1 + 1) (L1 ++ [x]) v2 k2 F y1 l1 M1 y2 l2 G w' := by
  obtain ⟨xs2, hw2, -⟩ := h.w2
  obtain ⟨xp2, hp2, -⟩ := h.p2
  have lt : ∀ k, v1.ownBlock = some k → b0 ≤ k := fun k e => (h.w1.own.lt k e).1
  have hl := h.lo
  exact ⟨h.gb.grown hgr (fun e => by have := lt _ e.symm; omega), h.rs.grown hgr (fun e => by have := lt _ e.symm; omega), h.cu.grown hgr (fun e => by have := lt _ e.symm; omega), ho, h.w2.kept hgr (own_own_ne hw2.own h.w1.own (by decide)) (fun _ _ _ hv => PN.keep hv kp), h.p1.kept hgr h.n1.1, h.p2.kept hgr (own_own_ne hp2.own h.w1.own (by decide)) (fun _ _ _ hv => PN.keep hv kp), (apB_push h.n1 hor (fun k e => (h.p1.own.lt k e).2)), h.n2, h.hb.grown hgr h.hb.size (fun k e => by have := lt k e; omega), h.lo, Nat.le_trans h.sz hgr.size⟩
theorem MdS.pushX (h : MdS w0 b0 g1 g2 g7 gc u0 u1 v1 k1 L1 v2 k2 F y1 l1 M1 y2 l2 G w) (ho : OR w' b0 v' (k2 + 1) (PN w' 2 F)) (hgr : w.grownBy w' v2.ownBlock) (hor : v'.ownBlock = v2.ownBlock ∨ v'.ownBlock = some w.heap.size) (kp : KeepsN w w') : MdS w0 b0 g1 g2 g7 gc u0 u1 v1 k1 L1 v' (k2 + 1) F y1 l1 M1 y2 l2 G w' := by
  obtain ⟨xs2, hw2, -⟩ := h.w2
  obtain ⟨xp2, hp2, -⟩ := h.p2
  have lt : ∀ k, v2.ownBlock = some k → b0 ≤ k := fun k e => (hw2.own.lt k e).1
  have hl := h.lo
  exact ⟨h.gb.grown hgr (fun e => by have := lt _ e.symm; omega), h.rs.grown hgr (fun e => by have := lt _ e.symm; omega), h.cu.grown hgr (fun e => by have := lt _ e.symm; omega), h.w1.kept hgr (own_own_ne h.w1.own hw2.own (by decide)), ho, h.p1.kept hgr (own_own_ne h.p1.own hw2.own (by decide)), h.p2.kept hgr h.n2.1 (fun _ _ _ hv => PN.keep hv kp), h.n1, (apB_push h.n2 hor (fun k e => (hp2.own.lt k e).2)), h.hb.grown hgr h.hb.size (fun k e => by have := lt k e; omega), h.lo, Nat.le_trans h.sz hgr.size⟩
theorem MdS.pushP (h : MdS w0 b0 g1 g2 g7 gc u0 u1 v1 k1 L1 v2 k2 F y1 l1 M1 y2 l2 G w) (ho : OwnC w' b0 3 1 v' (l1 + 1) (M1 ++ [x])) (hgr : w.grownBy w' y1.ownBlock) (hor : v'.ownBlock = y1.ownBlock ∨ v'.ownBlock = some w.heap.size) (kp : KeepsN w w') : MdS w0 b0 g1 g2 g7 gc u0 u1 v1 k1 L1 v2 k2 F v' (l1 + 1) (M1 ++ [x]) y2 l2 G w' := by
  obtain ⟨xs2, hw2, -⟩ := h.w2
  obtain ⟨xp2, hp2, -⟩ := h.p2
  have lt : ∀ k, y1.ownBlock = some k → b0 ≤ k := fun k e => (h.p1.own.lt k e).1
  have hl := h.lo
  exact ⟨h.gb.grown hgr (fun e => by have := lt _ e.symm; omega), h.rs.grown hgr (fun e => by have := lt _ e.symm; omega), h.cu.grown hgr (fun e => by have := lt _ e.symm; omega), h.w1.kept hgr h.n1.2, h.w2.kept hgr (own_own_ne hw2.own h.p1.own (by decide)) (fun _ _ _ hv => PN.keep hv kp), ho, h.p2.kept hgr (own_own_ne hp2.own h.p1.own (by decide)) (fun _ _ _ hv => PN.keep hv kp), (let q := apB_push ⟨h.n1.2, h.n1.1⟩ hor (fun k e => (h.w1.own.lt k e).2); ⟨q.2, q.1⟩), h.n2, h.hb.grown hgr h.hb.size (fun k e => by have := lt k e; omega), h.lo, Nat.le_trans h.sz hgr.size⟩
theorem MdS.pushY (h : MdS w0 b0 g1 g2 g7 gc u0 u1 v1 k1 L1 v2 k2 F y1 l1 M1 y2 l2 G w) (ho : OR w' b0 v' (l2 + 1) (PN w' 2 G)) (hgr : w.grownBy w' y2.ownBlock) (hor : v'.ownBlock = y2.ownBlock ∨ v'.ownBlock = some w.heap.size) (kp : KeepsN w w') : MdS w0 b0 g1 g2 g7 gc u0 u1 v1 k1 L1 v2 k2 F y1 l1 M1 v' (l2 + 1) G w' := by
  obtain ⟨xs2, hw2, -⟩ := h.w2
  obtain ⟨xp2, hp2, -⟩ := h.p2
  have lt : ∀ k, y2.ownBlock = some k → b0 ≤ k := fun k e => (hp2.own.lt k e).1
  have hl := h.lo
  exact ⟨h.gb.grown hgr (fun e => by have := lt _ e.symm; omega), h.rs.grown hgr (fun e => by have := lt _ e.symm; omega), h.cu.grown hgr (fun e => by have := lt _ e.symm; omega), h.w1.kept hgr (own_own_ne h.w1.own hp2.own (by decide)), h.w2.kept hgr h.n2.2 (fun _ _ _ hv => PN.keep hv kp), h.p1.kept hgr (own_own_ne h.p1.own hp2.own (by decide)), ho, h.n1, (let q := apB_push ⟨h.n2.2, h.n2.1⟩ hor (fun k e => (hw2.own.lt k e).2); ⟨q.2, q.1⟩), h.hb.grown hgr h.hb.size (fun k e => by have := lt k e; omega), h.lo, Nat.le_trans h.sz hgr.size⟩
theorem MdS.set0 (h : MdS w0 b0 g1 g2 g7 gc u0 u1 v1 k1 L1 v2 k2 F y1 l1 M1 y2 l2 G w) (hu : ∀ z, u0 ≠ .int .u32 z) : MdS w0 b0 g1 g2 g7 gc x u1 v1 k1 L1 v2 k2 F y1 l1 M1 y2 l2 G (w.setCell ⟨g7, 0, none⟩ x) := by
  have gr := only_setCell (World.grownBy.refl w (some g7)) (p := ⟨g7, 0, none⟩) (.inl rfl) x
  have kp := KeepsN.blk h.cu (i := 0) (by show 0 < 5; omega) (by intro z hz; exact hu z (by simpa using hz)) x
  have hl := h.lo
  exact ⟨h.gb.grown gr (fun e => by injection e with e; exact Blk.ne_ h.gb h.cu (by decide) e), h.rs.grown gr (fun e => by injection e with e; omega), h.cu.set_ 0 x, h.w1.blk h.cu (by decide) gr, h.w2.blk h.cu (by decide) gr (fun _ _ _ hv => PN.keep hv kp), h.p1.blk h.cu (by decide) gr, h.p2.blk h.cu (by decide) gr (fun _ _ _ hv => PN.keep hv kp), h.n1, h.n2, h.hb.grown gr h.hb.size (fun k e => by cases e; omega), h.lo, Nat.le_trans h.sz gr.size⟩
theorem MdS.set1 (h : MdS w0 b0 g1 g2 g7 gc u0 u1 v1 k1 L1 v2 k2 F y1 l1 M1 y2 l2 G w) (hu : ∀ z, u1 ≠ .int .u32 z) : MdS w0 b0 g1 g2 g7 gc u0 x v1 k1 L1 v2 k2 F y1 l1 M1 y2 l2 G (w.setCell ⟨g7, 1, none⟩ x) := by
  have gr := only_setCell (World.grownBy.refl w (some g7)) (p := ⟨g7, 1, none⟩) (.inl rfl) x
  have kp := KeepsN.blk h.cu (i := 1) (by show 1 < 5; omega) (by intro z hz; exact hu z (by simpa using hz)) x
  have hl := h.lo
  exact ⟨h.gb.grown gr (fun e => by injection e with e; exact Blk.ne_ h.gb h.cu (by decide) e), h.rs.grown gr (fun e => by injection e with e; omega), h.cu.set_ 1 x, h.w1.blk h.cu (by decide) gr, h.w2.blk h.cu (by decide) gr (fun _ _ _ hv => PN.keep hv kp), h.p1.blk h.cu (by decide) gr, h.p2.blk h.cu (by decide) gr (fun _ _ _ hv => PN.keep hv kp), h.n1, h.n2, h.hb.grown gr h.hb.size (fun k e => by cases e; omega), h.lo, Nat.le_trans h.sz gr.size⟩
end

end Go.Proofs.Ytpnklmgfdihjfaa
namespace Go.Proofs.Ytpnklmgfdihjfaa
open Go.RowKit Go.ChangeShapes Go.WideShapes Go.ChangeAt Go.Joins
set_option linter.unusedVariables false

namespace bulk9
theorem one_le {H : Type} (d : DataW H) : 1 ≤ Rows.uptoBulk d := by
  cases d with
  | lit l => cases l <;> simp [Rows.uptoBulk]
  | nil => simp [Rows.uptoBulk]
  | ptr d => simp [Rows.uptoBulk]
  | slice elems spare => simp [Rows.uptoBulk]
  | agg parts => simp [Rows.uptoBulk]
  | iface t d => simp [Rows.uptoBulk]
  | map entries => simp [Rows.uptoBulk]
  | held h => simp [Rows.uptoBulk]
theorem part_le {H : Type} {d : DataW H} : ∀ {l : List (DataW H)}, d ∈ l → Rows.uptoBulk d ≤ Rows.uptoBulkAll l
  | [], h => by cases h
  | x :: r, h => by
    simp only [Rows.uptoBulkAll]
    rcases List.mem_cons.1 h with e | e
    · subst e; omega
    · have := part_le e; omega
theorem length_le {H : Type} : ∀ (l : List (DataW H)), l.length ≤ Rows.uptoBulkAll l
  | [] => by simp
  | x :: r => by have := one_le x; have := length_le r; simp only [Rows.uptoBulkAll, List.length_cons]; omega
theorem agg_at {H : Type} {d : DataW H} {l : List (DataW H)} (h : d ∈ l) : Rows.uptoBulk d ≤ Rows.uptoBulk (.agg l) := by
  have := part_le h
  simp only [Rows.uptoBulk]
  omega
theorem bound {H : Type} {l : List (DataW H)} (hk : Rows.uptoSmall H l = true) : Rows.uptoBulkAll l ≤ 1048576 := by
  simpa [Rows.uptoSmall] using hk
theorem arg {H : Type} {d : DataW H} {l : List (DataW H)} (hk : Rows.uptoSmall H l = true) (h : d ∈ l) : Rows.uptoBulk d ≤ 1048576 := Nat.le_trans (part_le h) (bound hk)
end bulk9
section
variable {H : Type} {enc : TypeId × Value → H} {P : Program} {w : World} {base : Nat} {spare : Nat → Bool} {held : Bool}
theorem open_ks {t e : TypeId} {k : IntKind} {m : Int} {fuel : Nat} {v : Value} {x : DataW H × List MemPlace} (ht : P.underlying t = some (.slice e)) (he : P.underlying e = some (.int k)) (hc : P.cellsOf e = 1) (hk : ∀ z, (Lit.int k z).wf = true → -m ≤ z ∧ z < m)
    (h : DataW.trod enc P w base spare held fuel t [v] = some x) : ∃ (A : Option Addr) (len cap : Nat) (xs : List Int), v = .slice A len cap ∧ Ks k m w w.heap.size A len xs ∧ len ≤ Rows.uptoBulk x.1 := by
  rcases open_ints ht he hc h with ⟨hcs, hx⟩ | ⟨a, len, cap, zs, hcs, _, hl, hm, hz, hx, hcell, hwz⟩
  · cases hcs
    exact ⟨none, 0, 0, [], rfl, ⟨Reads.none_, ⟨rfl, by omega⟩, by simp⟩, Nat.zero_le _⟩
  · cases hcs
    unfold maxLen at hm
    have hlz : len ≤ zs.length := by rw [hz]; split <;> omega
    have hlen : (zs.take len).length = len := by simp; omega
    refine ⟨some a, len, cap, zs.take len, rfl, ⟨⟨by rw [List.length_map, hlen]; omega, fun hn => ⟨a, rfl, ?_, fun j u hu => ?_⟩⟩, ⟨hlen.symm, by omega⟩, fun y hy => hk y (hwz y (List.mem_of_mem_take hy))⟩, ?_⟩
    · have := block_lt_of_cell (hcell 0 (by omega))
      rwa [block_of_add] at this
    · have hj : j < len := by
        have := (List.getElem?_eq_some_iff.1 hu).1
        rw [List.length_map, hlen] at this; exact this
      have hjz : j < zs.length := by omega
      rw [hcell j hjz]
      simp only [List.getElem?_map, List.getElem?_take, hj, if_true, List.getElem?_eq_getElem hjz, Option.map_some] at hu
      rw [← Option.some.inj hu]
      simp only [List.getD, List.getElem?_eq_getElem hjz, Option.getD_some]
    · rw [hx]
      have h1 := bulk9.length_le (H := H) (lits k (zs.take len))
      have h2 : (lits (H := H) k (zs.take len)).length = len := by unfold lits; simp; omega
      simp only [Rows.uptoBulk]
      omega
end
set_option maxRecDepth 100000 in
theorem open_guess {H : Type} {enc : TypeId × Value → H} {w : World} {base : Nat} {spare : Nat → Bool} {held : Bool} {r : Reach} {b0 : Nat} {v : Value} {d : DataW H} {p : List MemPlace} {l : List (DataW H)} (hv : Value.okWide Try.prog w r b0 43 v) (h : DataW.Trod enc Try.prog w base spare held 43 v d p)
    (hk : Rows.uptoSmall H l = true) (hm : d ∈ l) : ∃ (D a bn ca cb : Nat) (AX AY : Option Addr) (xs ys : List Int) (vN : Int), v = .agg #[.int .u8 (D : Int), .slice AX a ca, .slice AY bn cb, .int .i8 vN] ∧ D ≤ 255 ∧ Ks .i8 128 w w.heap.size AX a xs ∧ Ks .i8 128 w w.heap.size AY bn ys ∧ (-128 ≤ vN ∧ vN < 128) ∧ a ≤ 1048576 ∧ bn ≤ 1048576 := by
  obtain ⟨a0, a1, a2, a3, y0, y1, y2, y3, m, rfl, hd, -, e0, e1, e2, e3⟩ := open_agg4 Try.underlying43 (by kernel_rfl) (by kernel_rfl) hv h
  obtain ⟨z, f0, -, w0⟩ := DataW.trod_int Try.underlying5 e0
  obtain ⟨n, f3, -, w3⟩ := DataW.trod_int Try.underlying41 e3
  simp only [List.cons.injEq, and_true] at f0 f3
  subst f0; subst f3
  have b0 := bounds_u8 w0; have b3 := bounds_i8 w3
  obtain ⟨AX, a, ca, xs, rfl, hX, hA⟩ := open_ks (m := 128) Try.underlying40 Try.underlying41 (by kernel_rfl) (fun z hz => by have := bounds_i8 hz; omega) e1
  obtain ⟨AY, bn, cb, ys, rfl, hY, hB⟩ := open_ks (m := 128) Try.underlying40 Try.underlying41 (by kernel_rfl) (fun z hz => by have := bounds_i8 hz; omega) e2
  have hb := bulk9.arg hk hm
  have b1 := bulk9.agg_at (d := y1.1) (l := [y0.1, y1.1, y2.1, y3.1]) (by simp)
  have b2 := bulk9.agg_at (d := y2.1) (l := [y0.1, y1.1, y2.1, y3.1]) (by simp)
  rw [← hd] at b1 b2
  refine ⟨z.toNat, a, bn, ca, cb, AX, AY, xs, ys, n, ?_, by omega, hX, hY, by omega, by omega, by omega⟩
  rw [Int.toNat_of_nonneg b0.1]
end Go.Proofs.Ytpnklmgfdihjfaa
namespace Go.Proofs.Ytpnklmgfdihjfaa
open Go.RowKit
set_option linter.unusedVariables false
set_option linter.unusedSimpArgs false

set_option maxRecDepth 100000 in
set_option maxHeartbeats 8000000 in
theorem denom1_any (i g b a D : Nat) (x : Rat) (AD : Option Addr) (nD cD : Nat) (v : Value) (w : World) (hD : Blk w g 29 #[.slice AD nD cD]) (hN : Num w AD nD cD a D) (hv : Rw b x v w) (hD0 : D ≠ 0) (hab : 1 ≤ a ∧ a + b ≤ 4900) :
    Calls Try.prog 76 (#[.int .i64 (i : Int), v] ++ #[.pointer (some ⟨g, 0, none⟩)]) w (fun e w' => e = .returned (.tuple #[]) ∧ (∃ (A' : Option Addr) (n' c' : Nat), Blk w' g 29 #[.slice A' n' c'] ∧ Num w' A' n' c' (a + b) (Nat.lcm D x.den)) ∧ w.grownBy w' (some g) ∧ KeepsN w w') := by
  have HD := Lib.hid hD; have HN := Lib.hid hN; have HV := Lib.hid hv; clear hD hN
  have hfd := fldR2
  obtain ⟨s0, A0, k0, c0, B0, m0, d0, rfl, -⟩ := hv
  show Calls Try.prog 76 #[.int .i64 (i : Int), .agg #[.bool s0, .slice A0 k0 c0, .slice B0 m0 d0], .pointer (some ⟨g, 0, none⟩)] w _
  have HGl := Lib.hid HD.out.lt
  go_enter Try.func76, Try.ntmps76
  go_upto_region 1 with (fail)
  have hbw := al w (.cells #[.bool s0, .slice A0 k0 c0, .slice B0 m0 d0] 31)
  have HY := Lib.hid (Blk.new w 31 #[.bool s0, .slice A0 k0 c0, .slice B0 m0 d0])
  have HB := Lib.hid hbw
  replace HD := Lib.hid (HD.out.keep hbw)
  replace HN := Lib.hid (HN.out.new hbw)
  replace HV := Lib.hid (HV.out.new hbw)
  clear hbw
  generalize w.alloc (.cells #[.bool s0, .slice A0 k0 c0, .slice B0 m0 d0] 31) = w1 at *
  obtain ⟨g6, hg6⟩ : ∃ g6, g6 = w.heap.size := ⟨_, rfl⟩
  rw [← hg6] at HY ⊢
  have HGg6 := Lib.hid (show w.heap.size ≤ g6 from by omega)
  clear hg6
  have x0 := Blk.at0 HY.out (Below.refl _ _); have x1 := Blk.at1 HY.out (Below.refl _ _); have x2 := Blk.at2 HY.out (Below.refl _ _)
  go_wp2_with fail
  refine (norm_v HV.out (by omega)).mono ?_
  rintro e w2 ⟨v, rfl, ⟨s1, A1, k1, c1, B1, m1, d1, rfl, hr1⟩, hb⟩
  have HDn := Lib.hid hr1.2.2.1
  clear hr1 x0 x1 x2
  replace HD := Lib.hid (HD.out.keep hb)
  replace HN := Lib.hid (HN.out.new hb)
  replace HV := Lib.hid (HV.out.new hb)
  replace HB := Lib.hid (bthen HB.out hb HB.out.size)
  replace HY := Lib.hid (HY.out.keep hb)
  clear hb
  go_upto_region 2 with (fail)
  clear hfd
  refine wp_region_each (kss := [[], [], [], [(1, 14), (2, 15)], [(0, 13), (3, 16)], [(4, 17)], [(5, 12)], [(5, 12)], [(5, 12)], [(6, 18)], [(7, 19)], [(8, 20)]]) [(2, .pointer (some ⟨g, 0, none⟩)), (5, .slice B1 m1 d1)] [Nv (a) (D), Nv (a) (D), Nv (b) (x.den), Nv (a + b) (Nat.gcd D (x.den)), DmV (a) (D / (Nat.gcd D (x.den))), DmV (a) (D / (Nat.gcd D (x.den))), Nv (a) (D / (Nat.gcd D (x.den))), fun _ _ => True, fun _ _ => True, Nv (a) (D / (Nat.gcd D (x.den))), fun _ _ => True, fun _ _ => True] (by kernel_rfl) (by kernel_rfl) ⟨rfl, rfl, trivial⟩ ?_ ?_ ?_
  · exact ⟨fun _ _ _ h hb => Nv.new h hb, fun _ _ _ h hb => Nv.new h hb, fun _ _ _ h hb => Nv.new h hb, fun _ _ _ h hb => Nv.new h hb, fun _ _ _ h hb => DmV.new h hb, fun _ _ _ h hb => DmV.new h hb, fun _ _ _ h hb => Nv.new h hb, fun _ _ _ _ _ => trivial, fun _ _ _ _ _ => trivial, fun _ _ _ h hb => Nv.new h hb, fun _ _ _ _ _ => trivial, fun _ _ _ _ _ => trivial, trivial⟩
  · refine ⟨?_, ?_, ?_, ?_, ?_, ?_, ?_, ?_, ?_, ?_, ?_, ?_, trivial⟩
    · exact fun aa ww hb he hd => ob_plain rfl (load_nv rfl he.1 (Blk.keep HD.out hb) (Num.new HN.out hb))
    · exact fun aa ww hb he hd => ob_plain rfl (load_nv rfl he.1 (Blk.keep HD.out hb) (Num.new HN.out hb))
    · exact fun aa ww hb he hd => ob_plain rfl (gives_move _ rfl ⟨⟨_, _, _, he.2.1, HDn.out.new hb⟩, Below.refl _ _⟩)
    · exact fun aa ww hb he hd => ob_plain rfl (gives_call2 _ _ _ _ rfl (by kernel_rfl) (gcd_nv hd.1 hd.2.1 (by omega)))
    · exact fun aa ww hb he hd => ob_plain rfl (gives_call2 _ _ _ _ rfl (by kernel_rfl) (quo_nv hd.1 hd.2.1 (fun h => hD0 (Nat.gcd_eq_zero_iff.1 h).1) (by omega) (by omega)))
    · exact fun _ _ _ he hd => ob_mv rfl rfl hd.1
    · exact fun aa ww hb he hd => ob_plain rfl (ext_dm rfl hd.1)
    · exact fun aa ww hb he hd => ob_plain rfl (ext_dm1 rfl hd.1)
    · exact fun aa ww hb he hd => ob_plain rfl (ext_dm2 rfl hd.1)
    · exact fun aa ww hb he hd => ob_plain rfl (gives_assign _ rfl ⟨hd.1, Below.refl _ _⟩)
    · exact fun aa ww hb he hd => ob_plain rfl (gives_assign _ rfl ⟨hd.1, Below.refl _ _⟩)
    · exact fun aa ww hb he hd => ob_plain rfl (gives_assign _ rfl ⟨hd.1, Below.refl _ _⟩)
  intro vs w3 hb hR
  have r6 : Nv (a) (D / (Nat.gcd D (x.den))) (vs 9) w3 := hR 9 (by decide)
  clear hR
  simp only [putsL, Nat.zero_add, Nat.reduceAdd, List.take_succ_cons, List.take_zero, Act.put, List.setIfInBounds_toArray, List.set_cons_zero, List.set_cons_succ]
  obtain ⟨A2, k2, c2, e6, hq⟩ := r6
  rw [e6]
  clear e6
  have HQ := Lib.hid hq; clear hq
  replace HD := Lib.hid (HD.out.keep hb)
  replace HN := Lib.hid (HN.out.new hb)
  replace HV := Lib.hid (HV.out.new hb)
  replace HB := Lib.hid (bthen HB.out hb HB.out.size)
  replace HY := Lib.hid (HY.out.keep hb)
  replace HDn := Lib.hid (HDn.out.new hb)
  clear hb
  have x0 := Blk.at0 HD.out (Below.refl _ _)
  go_wp2_with fail
  refine (mul_n HQ.out HDn.out (by omega)).mono ?_
  rintro e w4 ⟨A3, k3, c3, rfl, h3, -, hb⟩
  rw [lcm_div] at h3
  have HR := Lib.hid h3; clear h3 x0
  replace HD := Lib.hid (HD.out.keep hb)
  replace HN := Lib.hid (HN.out.new hb)
  replace HV := Lib.hid (HV.out.new hb)
  replace HB := Lib.hid (bthen HB.out hb HB.out.size)
  replace HY := Lib.hid (HY.out.keep hb)
  replace HDn := Lib.hid (HDn.out.new hb)
  clear hb
  have c0 := Blk.at0 HD.out (Below.refl _ _)
  have f0 := HD.out.frozen 0
  have kn := KeepsN.blk HD.out (i := 0) (by show 0 < 1; omega) (by intro x; simp) (.slice A3 k3 c3)
  go_wp2_with fail
  refine bodyPost_end (results_none rfl _ _ _) rfl ⟨rfl, ⟨A3, k3, c3, HD.out.set_ 0 _, (HR.out.up (Nat.lt_of_le_of_lt (lcm_le _ _) (PB_mul HN.out.2.2.2.1 HDn.out.2.2.2.1)) (by omega)).keepN kn⟩, only_setCell (only_of_below HB.out _) (.inl rfl) _, (KeepsN.below HB.out).trans kn⟩
/-- The state of denominator's visit. -/
structure DenJ (X : Nat → Rat) (b : Nat) (A : Option Addr) (n g : Nat) (w0 : World) (i : Nat) (w : World) : Prop where
  a : Rs w w0.heap.size A n (PW w b X)
  d : ∃ (A' : Option Addr) (n' c' : Nat), Blk w g 29 #[.slice A' n' c'] ∧ Num w A' n' c' 2 (dlcm X i)
  hb : Below w0.heap.size w0 w
theorem DenJ.below {X : Nat → Rat} {b n g i : Nat} {A : Option Addr} {w0 w w' : World} (h : DenJ X b A n g w0 i w) (hb : Below w.heap.size w w') : DenJ X b A n g w0 i w' := by
  obtain ⟨A', n', c', h1, h2⟩ := h.d
  exact ⟨Rs.grownB h.a (only_of_below hb none) h.hb.size (fun _ e => by cases e) (KeepsN.below hb), ⟨A', n', c', h1.keep hb, h2.new hb⟩, bthen h.hb hb h.hb.size⟩
set_option maxRecDepth 100000 in
set_option maxHeartbeats 8000000 in
theorem denom_any (n c b : Nat) (A : Option Addr) (X : Nat → Rat) (w : World) (hA : Rs w w.heap.size A n (PW w b X)) (hn : n ≤ 1000) (hb : 2 + b ≤ 4900) (hD : dlcm X n < PB 2) : Calls Try.prog 42 #[.slice A n c] w (RetN1 w 2 (dlcm X n)) := by
  have HA0 := Lib.hid hA; clear hA
  have hK2 : Enters 76 := enters (by kernel_rfl)
  go_enter Try.func42, Try.ntmps42
  go_upto_region 1 with (fail)
  go_wp2_with fail
  refine (of_n 1 (by omega) _).mono ?_
  rintro e w1 ⟨A1, n1, c1, rfl, h1, -, hb⟩
  have HN := Lib.hid h1; clear h1
  have HB := Lib.hid hb; have HS1 := Lib.hid hb.size; clear hb
  go_upto_region 2 with (fail)
  have hbw := al w1 (.cells #[.slice A1 n1 c1] 29)
  have HD := Lib.hid (Blk.new w1 29 #[.slice A1 n1 c1])
  replace HN := Lib.hid (HN.out.new hbw)
  replace HB := Lib.hid (bthen HB.out hbw HB.out.size)
  clear hbw
  generalize w1.alloc (.cells #[.slice A1 n1 c1] 29) = w2 at *
  obtain ⟨g3, hg3⟩ : ∃ g3, g3 = w1.heap.size := ⟨_, rfl⟩
  rw [← hg3] at HD ⊢
  have HGg3 := Lib.hid (show w1.heap.size ≤ g3 from by omega)
  clear hg3
  have HGl := Lib.hid (show w.heap.size ≤ g3 from by have := HS1.out; have := HGg3.out; omega)
  go_wp2_with fail
  refine (visit_any 76 hK2 #[.pointer (some ⟨g3, 0, none⟩)] n c b A X (DenJ X b A n g3 w) (fun i w' h => Rs.moreB h.a h.hb.size) (fun i w' w'' h hb => h.below hb) (fun i w' v hi h hv => ?_) (by omega) w2 ⟨Rs.grownB HA0.out (only_of_below HB.out none) (Nat.le_refl _) (fun _ e => by cases e) (KeepsN.below HB.out), ⟨A1, n1, c1, HD.out, HN.out⟩, HB.out⟩).mono ?_
  · obtain ⟨A3, n3, c3, h3, h4⟩ := h.d
    refine (denom1_any i g3 b 2 _ (X i) A3 n3 c3 v w' h3 h4 hv (dlcm_ne X i) ⟨by omega, hb⟩).mono ?_
    rintro e w3 ⟨rfl, ⟨A14, n4, c4, h5, h6⟩, hg, kp⟩
    exact ⟨rfl, Rs.grownB h.a hg h.hb.size (fun k e => by cases e; exact HGl.out) kp, ⟨A14, n4, c4, h5, h6.up (Nat.lt_of_le_of_lt (show dlcm X (i + 1) ≤ dlcm X n from dlcm_le (by omega)) hD) (by omega)⟩, h.hb.grown hg h.hb.size (fun k e => by cases e; exact HGl.out)⟩
  rintro e w4 ⟨rfl, hj⟩
  have HJ := Lib.hid hj; clear hj
  obtain ⟨A5, n5, c5, h5, h6⟩ := HJ.out.d
  have x0 := Blk.at0 h5 (Below.refl _ _)
  have HN5 := Lib.hid h6; clear h5 h6
  go_wp2_with fail
  go_ret
  exact ⟨_, _, _, rfl, HN5.out, HJ.out.hb⟩
end Go.Proofs.Ytpnklmgfdihjfaa
namespace Go.Proofs.Ytpnklmgfdihjfaa
open Go.RowKit
set_option linter.unusedVariables false
set_option linter.unusedSimpArgs false

theorem pb_le {b e : Nat} (h : 32 * b ≤ e) : PB b ≤ 2 ^ e := by
  unfold PB
  rw [show (4294967296 : Nat) = 2 ^ 32 from rfl, ← Nat.pow_mul]
  exact Nat.pow_le_pow_right (by decide) h
theorem big60 : PB 60 ≤ bigP := by
  rw [bigP]
  exact pb_le (by rw [bigE_eq]; decide)
set_option maxRecDepth 100000 in
set_option maxHeartbeats 8000000 in
theorem prod1_any (i b r D P l cx gE gd gs gr : Nat) (x : Rat) (xs : List Int) (AX AD AR : Option Addr) (nD cD nR cR : Nat) (v : Value) (w : World) (hE : Blk w gE 34 #[.int .i64 0]) (hD : Blk w gd 29 #[.slice AD nD cD]) (hDN : Num w AD nD cD 2 D)
    (hS : Blk w gs 45 #[.slice AX l cx]) (hX : Xs w w.heap.size AX l xs) (hR : Blk w gr 29 #[.slice AR nR cR]) (hRN : Num w AR nR cR r P) (hv : Rw b x v w) (hi : i < l) (hxi : 0 ≤ inth xs i ∧ inth xs i ≤ 1000000) (hM : expW x D ≤ 1000) (hf : (inth xs i).toNat ^ expW x D < PB 60) (hab : 1 ≤ r ∧ r + 60 ≤ 10000 ∧ b + 2 ≤ 4900) :
    Calls Try.prog 79 (#[.int .i64 (i : Int), v] ++ #[.pointer (some ⟨gE, 0, none⟩), .pointer (some ⟨gd, 0, none⟩), .pointer (some ⟨gs, 0, none⟩), .pointer (some ⟨gr, 0, none⟩)]) w (fun e w' => e = .returned (.tuple #[]) ∧ (∃ (A' : Option Addr) (n' c' : Nat), Blk w' gr 29 #[.slice A' n' c'] ∧ Num w' A' n' c' (r + 60) (P * (inth xs i).toNat ^ expW x D)) ∧ w.grownBy w' (some gr) ∧ KeepsN w w') := by
  have HE := Lib.hid hE; have HD := Lib.hid hD; have HDN := Lib.hid hDN; have HS := Lib.hid hS; have HX := Lib.hid hX; have HR := Lib.hid hR; have HRN := Lib.hid hRN; have HV := Lib.hid hv
  have HM := Lib.hid hM; have HF := Lib.hid hf
  clear hE hD hDN hS hX hR hRN hM hf
  obtain ⟨s0, A0, k0, c0, B0, m0, d0, rfl, -⟩ := hv
  show Calls Try.prog 79 #[.int .i64 (i : Int), .agg #[.bool s0, .slice A0 k0 c0, .slice B0 m0 d0], .pointer (some ⟨gE, 0, none⟩), .pointer (some ⟨gd, 0, none⟩), .pointer (some ⟨gs, 0, none⟩), .pointer (some ⟨gr, 0, none⟩)] w _
  have HGl := Lib.hid (show gE < w.heap.size ∧ gd < w.heap.size ∧ gs < w.heap.size ∧ gr < w.heap.size from ⟨HE.out.lt, HD.out.lt, HS.out.lt, HR.out.lt⟩)
  go_enter Try.func79, Try.ntmps79
  go_upto_region 1 with (fail)
  have hbw := al w (.cells #[.bool s0, .slice A0 k0 c0, .slice B0 m0 d0] 31)
  have HY := Lib.hid (Blk.new w 31 #[.bool s0, .slice A0 k0 c0, .slice B0 m0 d0])
  have HB := Lib.hid hbw
  replace HE := Lib.hid (HE.out.keep hbw)
  replace HD := Lib.hid (HD.out.keep hbw)
  replace HDN := Lib.hid (HDN.out.new hbw)
  replace HS := Lib.hid (HS.out.keep hbw)
  replace HX := Lib.hid ((HX.out.below hbw).more (Below.size hbw))
  replace HR := Lib.hid (HR.out.keep hbw)
  replace HRN := Lib.hid (HRN.out.new hbw)
  replace HV := Lib.hid (HV.out.new hbw)
  clear hbw
  generalize w.alloc (.cells #[.bool s0, .slice A0 k0 c0, .slice B0 m0 d0] 31) = w1 at *
  obtain ⟨g6, hg6⟩ : ∃ g6, g6 = w.heap.size := ⟨_, rfl⟩
  rw [← hg6] at HY ⊢
  have HGg6 := Lib.hid (show w.heap.size ≤ g6 from by omega)
  clear hg6
  have x0 := Blk.at0 HE.out (Below.refl _ _)
  have HYb := Lib.hid (show Bx b x g6 w1 from by obtain ⟨s1, A1, n1, c1, B1, m1, d1, e, h⟩ := HV.out; cases e; exact ⟨_, _, _, _, _, _, _, HY.out, h⟩)
  go_upto_region 2 with (fail)
  clear x0
  refine wp_region_each (kss := [[], [], [(1, 14)], [(0, 13), (2, 15)], [(3, 16)], [(4, 17)], [(5, 18)]]) [(7, .pointer (some ⟨g6, 0, none⟩)), (3, .pointer (some ⟨gd, 0, none⟩))] [Rw (b) (x), Nv (2) (D), Rv (2) (((D : Nat) : Rat)), Rv (b + 2) (x * (((D : Nat) : Rat))), Rv ((b + 2)) ((x * (((D : Nat) : Rat)))), Nv ((b + 2)) (((x * (((D : Nat) : Rat)))).num.natAbs), Nv ((b + 2)) (((x * (((D : Nat) : Rat)))).num.natAbs)] (by kernel_rfl) (by kernel_rfl) ⟨rfl, rfl, trivial⟩ ?_ ?_ ?_
  · exact ⟨fun _ _ _ h hb => h.new hb, fun _ _ _ h hb => Nv.new h hb, fun _ _ _ h hb => h.new hb, fun _ _ _ h hb => h.new hb, fun _ _ _ h hb => h.new hb, fun _ _ _ h hb => Nv.new h hb, fun _ _ _ h hb => Nv.new h hb, trivial⟩
  · refine ⟨?_, ?_, ?_, ?_, ?_, ?_, ?_, trivial⟩
    · exact fun aa ww hb he hd => ob_plain rfl (load_bx rfl he.1 (Bx.new HYb.out hb))
    · exact fun aa ww hb he hd => ob_plain rfl (load_nv rfl he.2.1 (Blk.keep HD.out hb) (Num.new HDN.out hb))
    · exact fun aa ww hb he hd => ob_plain rfl (gives_call1 _ _ _ rfl (by kernel_rfl) (fromnat_v hd.1 (by omega)))
    · exact fun aa ww hb he hd => ob_plain rfl (gives_call2 _ _ _ _ rfl (by kernel_rfl) (mul_v (hd.1) (hd.2.1.rw) (by omega)))
    · exact fun aa ww hb he hd => ob_plain rfl (gives_call1 _ _ _ rfl (by kernel_rfl) (norm_v (hd.1.rw) (by omega)))
    · exact fun aa ww hb he hd => ob_plain rfl (fld_num rfl hd.1)
    · exact fun aa ww hb he hd => ob_plain rfl (gives_assign _ rfl ⟨hd.1, Below.refl _ _⟩)
  intro vs w2 hb hR
  have r8 : Nv ((b + 2)) (((x * (((D : Nat) : Rat)))).num.natAbs) (vs 6) w2 := hR 6 (by decide)
  clear hR
  simp only [putsL, Nat.zero_add, Nat.reduceAdd, List.take_succ_cons, List.take_zero, Act.put, List.setIfInBounds_toArray, List.set_cons_zero, List.set_cons_succ]
  obtain ⟨A2, k2, c2, e8, hq⟩ := r8
  rw [e8]
  clear e8
  have HQ := Lib.hid (show Num w2 A2 k2 c2 (b + 2) (expW x D) from hq); clear hq
  replace HE := Lib.hid (HE.out.keep hb)
  replace HD := Lib.hid (HD.out.keep hb)
  replace HDN := Lib.hid (HDN.out.new hb)
  replace HS := Lib.hid (HS.out.keep hb)
  replace HX := Lib.hid ((HX.out.below hb).more (Below.size hb))
  replace HR := Lib.hid (HR.out.keep hb)
  replace HRN := Lib.hid (HRN.out.new hb)
  replace HV := Lib.hid (HV.out.new hb)
  replace HB := Lib.hid (bthen HB.out hb HB.out.size)
  replace HY := Lib.hid (HY.out.keep hb)
  replace HYb := Lib.hid (HYb.out.new hb)
  clear hb
  obtain ⟨z, hz⟩ : ∃ z : Nat, z = (inth xs i).toNat := ⟨_, rfl⟩
  have hzi : inth xs i = (z : Int) := by omega
  rw [← hz] at HF
  have HZt := Lib.hid hz
  obtain ⟨adX, rfl, -, hcX⟩ := HX.out.at_ hi
  rw [hzi] at hcX
  have hz6 : z ≤ 1000000 := by omega
  clear hxi
  clear hz
  have HZ := Lib.hid hzi; clear hzi
  have e1 : IntKind.u64.wrap (z : Int) = (z : Int) := IntWalk.u64_in _ (by omega)
  have x4 := Blk.at0 HS.out (Below.refl _ _)
  have i0 := hi
  go_wp2_with fail
  refine (of_n z (by omega) _).mono ?_
  rintro e w3 ⟨A3, n3, c3, rfl, h3, -, hb⟩
  clear hcX x4 e1
  have HT := Lib.hid h3; clear h3
  replace HE := Lib.hid (HE.out.keep hb)
  replace HD := Lib.hid (HD.out.keep hb)
  replace HDN := Lib.hid (HDN.out.new hb)
  replace HS := Lib.hid (HS.out.keep hb)
  replace HX := Lib.hid ((HX.out.below hb).more (Below.size hb))
  replace HR := Lib.hid (HR.out.keep hb)
  replace HRN := Lib.hid (HRN.out.new hb)
  replace HV := Lib.hid (HV.out.new hb)
  replace HB := Lib.hid (bthen HB.out hb HB.out.size)
  replace HY := Lib.hid (HY.out.keep hb)
  replace HYb := Lib.hid (HYb.out.new hb)
  replace HQ := Lib.hid (HQ.out.new hb)
  clear hb
  go_wp2_with fail
  refine (pow_nv ⟨_, _, _, rfl, HT.out⟩ ⟨_, _, _, rfl, HQ.out⟩ (by have := HM.out; omega) (Nat.lt_of_lt_of_le HF.out big60)).mono ?_
  rintro e w4 ⟨v4, rfl, ⟨A14, n4, c4, rfl, h4⟩, hb⟩
  have HP := Lib.hid (h4.up HF.out (by omega)); clear h4
  replace HE := Lib.hid (HE.out.keep hb)
  replace HD := Lib.hid (HD.out.keep hb)
  replace HDN := Lib.hid (HDN.out.new hb)
  replace HS := Lib.hid (HS.out.keep hb)
  replace HX := Lib.hid ((HX.out.below hb).more (Below.size hb))
  replace HR := Lib.hid (HR.out.keep hb)
  replace HRN := Lib.hid (HRN.out.new hb)
  replace HV := Lib.hid (HV.out.new hb)
  replace HB := Lib.hid (bthen HB.out hb HB.out.size)
  replace HY := Lib.hid (HY.out.keep hb)
  replace HYb := Lib.hid (HYb.out.new hb)
  replace HQ := Lib.hid (HQ.out.new hb)
  replace HT := Lib.hid (HT.out.new hb)
  clear hb
  have x5 := Blk.at0 HR.out (Below.refl _ _)
  go_wp2_with fail
  refine (mul_n HRN.out HP.out (by omega)).mono ?_
  rintro e w5 ⟨A5, n5, c5, rfl, h5, -, hb⟩
  clear x5
  have HN := Lib.hid h5; clear h5
  replace HE := Lib.hid (HE.out.keep hb)
  replace HD := Lib.hid (HD.out.keep hb)
  replace HDN := Lib.hid (HDN.out.new hb)
  replace HS := Lib.hid (HS.out.keep hb)
  replace HX := Lib.hid ((HX.out.below hb).more (Below.size hb))
  replace HR := Lib.hid (HR.out.keep hb)
  replace HRN := Lib.hid (HRN.out.new hb)
  replace HV := Lib.hid (HV.out.new hb)
  replace HB := Lib.hid (bthen HB.out hb HB.out.size)
  replace HY := Lib.hid (HY.out.keep hb)
  replace HYb := Lib.hid (HYb.out.new hb)
  replace HQ := Lib.hid (HQ.out.new hb)
  replace HT := Lib.hid (HT.out.new hb)
  replace HP := Lib.hid (HP.out.new hb)
  clear hb
  have y0 := Blk.at0 HR.out (Below.refl _ _)
  have f0 := HR.out.frozen 0
  have kn := KeepsN.blk HR.out (i := 0) (by show 0 < 1; omega) (by intro x; simp) (.slice A5 n5 c5)
  go_wp2_with fail
  refine bodyPost_end (results_none rfl _ _ _) rfl ⟨rfl, ⟨A5, n5, c5, HR.out.set_ 0 _, by rw [← HZt.out]; exact HN.out.keepN kn⟩, only_setCell (only_of_below HB.out _) (.inl rfl) _, (KeepsN.below HB.out).trans kn⟩
/-- The state of product's visit. -/
structure PrdJ (X : Nat → Rat) (b : Nat) (A : Option Addr) (n D l cx gE gd gs gr : Nat) (AX : Option Addr) (xs : List Int) (w0 : World) (i : Nat) (w : World) : Prop where
  a : Rs w w0.heap.size A n (PW w b X)
  e : Blk w gE 34 #[.int .i64 0]
  d : ∃ (A' : Option Addr) (n' c' : Nat), Blk w gd 29 #[.slice A' n' c'] ∧ Num w A' n' c' 2 D
  s : Blk w gs 45 #[.slice AX l cx]
  x : Xs w w0.heap.size AX l xs
  r : ∃ (A' : Option Addr) (n' c' : Nat), Blk w gr 29 #[.slice A' n' c'] ∧ Num w A' n' c' (2 + 60 * i) (prodP xs X D i)
  hb : Below w0.heap.size w0 w
section
variable {X : Nat → Rat} {b n D l cx gE gd gs gr i : Nat} {A AX : Option Addr} {xs : List Int} {w0 w w' : World}
theorem PrdJ.below (h : PrdJ X b A n D l cx gE gd gs gr AX xs w0 i w) (hb : Below w.heap.size w w') : PrdJ X b A n D l cx gE gd gs gr AX xs w0 i w' := by
  obtain ⟨A', n', c', h1, h2⟩ := h.d
  obtain ⟨A2, n2, c2, h3, h4⟩ := h.r
  exact ⟨Rs.grownB h.a (only_of_below hb none) h.hb.size (fun _ e => by cases e) (KeepsN.below hb), h.e.keep hb, ⟨A', n', c', h1.keep hb, h2.new hb⟩, h.s.keep hb, h.x.grownX (only_of_below hb none) h.hb.size (fun _ e => by cases e), ⟨A2, n2, c2, h3.keep hb, h4.new hb⟩, bthen h.hb hb h.hb.size⟩
theorem PrdJ.next (h : PrdJ X b A n D l cx gE gd gs gr AX xs w0 i w) (hN : gd ≠ gr ∧ w0.heap.size ≤ gr) (hx : ∃ (A' : Option Addr) (n' c' : Nat), Blk w' gr 29 #[.slice A' n' c'] ∧ Num w' A' n' c' (2 + 60 * i + 60) (prodP xs X D i * (inth xs i).toNat ^ expW (X i) D)) (hg : w.grownBy w' (some gr)) (kp : KeepsN w w') : PrdJ X b A n D l cx gE gd gs gr AX xs w0 (i + 1) w' := by
  obtain ⟨A', n', c', h1, h2⟩ := h.d
  obtain ⟨A2, n2, c2, h3, h4⟩ := h.r
  have lt : ∀ k, some gr = some k → w0.heap.size ≤ k := fun k e => by cases e; exact hN.2
  exact ⟨Rs.grownB h.a hg h.hb.size lt kp, h.e.grown hg (fun e => by injection e with e; exact Blk.ne_ h.e h3 (by decide) e), ⟨A', n', c', h1.grown hg (fun e => by injection e with e; exact hN.1 e), h2.keepN kp⟩, h.s.grown hg (fun e => by injection e with e; exact Blk.ne_ h.s h3 (by decide) e), h.x.grownX hg h.hb.size lt, by rw [show 2 + 60 * (i + 1) = 2 + 60 * i + 60 by omega]; exact hx, h.hb.grown hg h.hb.size lt⟩
end
set_option maxRecDepth 100000 in
set_option maxHeartbeats 8000000 in
theorem prod_any (n c b D l cx nD cD : Nat) (A AX AD : Option Addr) (X : Nat → Rat) (xs : List Int) (w : World) (hA : Rs w w.heap.size A n (PW w b X)) (hX : Xs w w.heap.size AX l xs) (hD : Num w AD nD cD 2 D) (hn : n ≤ l ∧ n ≤ 100) (hb : b + 2 ≤ 4900)
    (hC : ∀ i, i < n → (0 ≤ inth xs i ∧ inth xs i ≤ 1000000) ∧ expW (X i) D ≤ 1000 ∧ (inth xs i).toNat ^ expW (X i) D < PB 60) : Calls Try.prog 44 #[.slice A n c, .slice AX l cx, .slice AD nD cD] w (RV w (PwV (2 + 60 * n) (prodP xs X D n))) := by
  have HA0 := Lib.hid hA; have HX0 := Lib.hid hX; have HD0 := Lib.hid hD; have HC := Lib.hid hC; clear hA hX hD hC
  have hK2 : Enters 79 := enters (by kernel_rfl)
  go_enter Try.func44, Try.ntmps44
  go_upto_region 1 with (fail)
  have hbw := bthen (al w (.cells #[.slice AX l cx] 45)) (al _ (.cells #[.slice AD nD cD] 29)) (by simp)
  have HS := Lib.hid ((Blk.new w 45 #[.slice AX l cx]).keep (al _ (.cells #[.slice AD nD cD] 29)))
  have HD := Lib.hid (Blk.new (w.alloc (.cells #[.slice AX l cx] 45)) 29 #[.slice AD nD cD])
  rw [show (w.alloc (.cells #[.slice AX l cx] 45)).heap.size = w.heap.size + 1 from by simp] at HD
  have HB := Lib.hid hbw
  clear hbw
  generalize (w.alloc (.cells #[.slice AX l cx] 45)).alloc (.cells #[.slice AD nD cD] 29) = w1 at *
  obtain ⟨g4, hg4⟩ : ∃ g4, g4 = w.heap.size := ⟨_, rfl⟩
  obtain ⟨g5, hg5⟩ : ∃ g5, g5 = w.heap.size + 1 := ⟨_, rfl⟩
  rw [← hg5] at HD ⊢
  rw [← hg4] at HS ⊢
  have HGg4 := Lib.hid (show w.heap.size ≤ g4 ∧ w.heap.size ≤ g5 from by omega)
  clear hg4 hg5
  go_wp2_with fail
  refine (of_n 1 (by omega) _).mono ?_
  rintro e w2 ⟨A1, n1, c1, rfl, h1, -, hb⟩
  have HN := Lib.hid h1; clear h1
  replace HB := Lib.hid (bthen HB.out hb HB.out.size)
  replace HS := Lib.hid (HS.out.keep hb)
  replace HD := Lib.hid (HD.out.keep hb)
  clear hb
  have HL := Lib.hid (show g5 < w2.heap.size ∧ w.heap.size ≤ w2.heap.size from ⟨HD.out.lt, HB.out.size⟩)
  go_upto_region 2 with (fail)
  have hbw := bthen (al w2 (.cells #[.slice A1 n1 c1] 29)) (al _ (.cells #[.int .i64 0] 34)) (by simp)
  have HR := Lib.hid ((Blk.new w2 29 #[.slice A1 n1 c1]).keep (al _ (.cells #[.int .i64 0] 34)))
  have HE := Lib.hid (Blk.new (w2.alloc (.cells #[.slice A1 n1 c1] 29)) 34 #[.int .i64 0])
  rw [show (w2.alloc (.cells #[.slice A1 n1 c1] 29)).heap.size = w2.heap.size + 1 from by simp] at HE
  replace HB := Lib.hid (bthen HB.out hbw HB.out.size)
  replace HS := Lib.hid (HS.out.keep hbw)
  replace HD := Lib.hid (HD.out.keep hbw)
  replace HN := Lib.hid (HN.out.new hbw)
  clear hbw
  generalize (w2.alloc (.cells #[.slice A1 n1 c1] 29)).alloc (.cells #[.int .i64 0] 34) = w3 at *
  obtain ⟨g8, hg8⟩ : ∃ g8, g8 = w2.heap.size := ⟨_, rfl⟩
  obtain ⟨g9, hg9⟩ : ∃ g9, g9 = w2.heap.size + 1 := ⟨_, rfl⟩
  rw [← hg9] at HE ⊢
  rw [← hg8] at HR ⊢
  have HGg8 := Lib.hid (show w2.heap.size ≤ g8 ∧ w2.heap.size ≤ g9 from by omega)
  clear hg8 hg9
  have HNe := Lib.hid (show g5 ≠ g8 ∧ w.heap.size ≤ g8 from by have := HL.out; have := HGg8.out; omega)
  go_wp2_with fail
  refine (visit_any 79 hK2 #[.pointer (some ⟨g9, 0, none⟩), .pointer (some ⟨g5, 0, none⟩), .pointer (some ⟨g4, 0, none⟩), .pointer (some ⟨g8, 0, none⟩)] n c b A X (PrdJ X b A n D l cx g9 g5 g4 g8 AX xs w) (fun i w' h => Rs.moreB h.a h.hb.size) (fun i w' w'' h hb => h.below hb) (fun i w' v hi h hv => ?_) (by omega) w3 ⟨Rs.grownB HA0.out (only_of_below HB.out none) (Nat.le_refl _) (fun _ e => by cases e) (KeepsN.below HB.out), HE.out, ⟨_, _, _, HD.out, HD0.out.new HB.out⟩, HS.out, HX0.out.grownX (only_of_below HB.out none) (Nat.le_refl _) (fun _ e => by cases e), ⟨_, _, _, HR.out, HN.out⟩, HB.out⟩).mono ?_
  · obtain ⟨A3, n3, c3, h3, h4⟩ := h.d
    obtain ⟨A14, n4, c4, h5, h6⟩ := h.r
    obtain ⟨q1, q2, q3⟩ := HC.out i hi
    refine (prod1_any i b (2 + 60 * i) D _ l cx g9 g5 g4 g8 (X i) xs AX A3 A14 n3 c3 n4 c4 v w' h.e h3 h4 h.s (h.x.more h.hb.size) h5 h6 hv (by omega) q1 q2 q3 (by omega)).mono ?_
    rintro e w4 ⟨rfl, hx, hg, kp⟩
    exact ⟨rfl, h.next HNe.out hx hg kp⟩
  rintro e w4 ⟨rfl, hj⟩
  have HJ := Lib.hid hj; clear hj
  obtain ⟨A5, n5, c5, h5, h6⟩ := HJ.out.r
  have x0 := Blk.at0 h5 (Below.refl _ _); have x1 := Blk.at0 HJ.out.e (Below.refl _ _)
  have HN5 := Lib.hid h6; clear h5 h6
  go_wp2_with fail
  first | exact bodyPost_ret (results_tmp2 rfl _ _ _) rfl ⟨_, rfl, ⟨_, _, _, rfl, HN5.out⟩, HJ.out.hb⟩ | exact bodyPost_end (results_tmp2 rfl _ _ _) rfl ⟨_, rfl, ⟨_, _, _, rfl, HN5.out⟩, HJ.out.hb⟩
end Go.Proofs.Ytpnklmgfdihjfaa
namespace Go.Proofs.Ytpnklmgfdihjfaa
open Go.RowKit
set_option linter.unusedVariables false
set_option linter.unusedSimpArgs false

/-- The code of checkSizes. -/
def SzR (l m : Nat) (xs : List Int) (W : Nat → Rat) (z : Int) : Prop := (l ≠ m → z = 28) ∧ (l = m → (∃ j, j < m ∧ ¬ (0 ≤ inth xs j ∧ 0 ≤ W j)) → z = 19) ∧ (l = m → (∀ j, j < m → 0 ≤ inth xs j ∧ 0 ≤ W j) → z = 0)
set_option maxRecDepth 100000 in
set_option maxHeartbeats 8000000 in
theorem sizes_any (l m np cw cp cx b : Nat) (AW AP AX : Option Addr) (s0 : Bool) (A0 B0 : Option Addr) (k0 c0 m0 d0 : Nat) (W : Nat → Rat) (xs : List Int) (w : World) (hW : Rs w w.heap.size AW m (PW w b W)) (hX : Xs w w.heap.size AX l xs) (hl : l ≤ 1000) :
    Calls Try.prog 41 #[.agg #[.slice AW m cw, .slice AP np cp, .bool s0, .slice A0 k0 c0, .slice B0 m0 d0], .slice AX l cx] w (fun e w' => ∃ z : Int, e = .returned (.int .i64 z) ∧ SzR l m xs W z ∧ Below w.heap.size w w') := by
  have HW := Lib.hid hW; have HX0 := Lib.hid hX; clear hW hX
  go_enter Try.func41, Try.ntmps41
  go_upto_region 1 with (fail)
  have hbw := al w (.cells #[.slice AW m cw, .slice AP np cp, .bool s0, .slice A0 k0 c0, .slice B0 m0 d0] 33)
  have HC := Lib.hid (Blk.new w 33 #[.slice AW m cw, .slice AP np cp, .bool s0, .slice A0 k0 c0, .slice B0 m0 d0])
  have HB := Lib.hid hbw
  replace HW := Lib.hid (Rs.newW HW.out hbw)
  clear hbw
  generalize w.alloc (.cells #[.slice AW m cw, .slice AP np cp, .bool s0, .slice A0 k0 c0, .slice B0 m0 d0] 33) = w1 at *
  obtain ⟨g2, hg2⟩ : ∃ g2, g2 = w.heap.size := ⟨_, rfl⟩
  rw [← hg2] at HC ⊢
  have HGg2 := Lib.hid (show w.heap.size ≤ g2 from by omega)
  clear hg2
  have x0 := Blk.at0 HC.out (Below.refl _ _)
  by_cases hlm : l = m
  rotate_left
  · have t0 : ¬ ((l : Int) = (m : Int)) := by omega
    go_wp2_with fail
    go_ret
    exact ⟨28, rfl, ⟨fun _ => rfl, fun h => absurd h hlm, fun h => absurd h hlm⟩, HB.out⟩
  subst hlm
  go_wp2_with fail
  clear x0
  go_loopg [15] l (fun g iv wr => ∃ i : Nat, iv = .int .i64 i ∧ i + g = l ∧ Hid ((∀ j, j < i → 0 ≤ inth xs j ∧ 0 ≤ W j) ∧ Blk wr g2 33 #[.slice AW l cw, .slice AP np cp, .bool s0, .slice A0 k0 c0, .slice B0 m0 d0] ∧ Rs wr wr.heap.size AW l (PW wr b W) ∧ Below w.heap.size w wr))
  case atStart => exact ⟨0, rfl, by omega, Lib.hid ⟨fun j hj => absurd hj (by omega), HC.out, HW.out, HB.out⟩⟩
  case round =>
    obtain ⟨i, rfl, hil, HI⟩ := hrel
    clear HC HW HB
    have HOk := Lib.hid HI.out.1; have HC := Lib.hid HI.out.2.1; have HW := Lib.hid HI.out.2.2.1; have HB := Lib.hid HI.out.2.2.2
    clear HI
    by_cases hi : i < l
    · have i1 : ((i : Int) < (l : Int)) := by omega
      obtain ⟨adX, rfl, -, hcX⟩ := (HX0.out.below HB.out).at_ hi
      obtain ⟨adW, -, -, -, -, -, -, -, rfl, -⟩ := HW.out.at_ hi
      obtain ⟨xi, hxi⟩ : ∃ xi, xi = inth xs i := ⟨_, rfl⟩
      rw [← hxi] at hcX
      have HXi := Lib.hid hxi; clear hxi
      go_upto_region 6 with (fail)
      clear hcX
      by_cases hx : xi < 0
      · have HBad := Lib.hid (show ¬ (0 ≤ xi ∧ 0 ≤ W i) from fun h => by omega)
        · skip
          refine wp_region_seq (kss := [[], [(0, 20)], [(1, 21)], [(2, 22)], [(2, 22), (3, 23)], [(2, 22)], [(2, 22), (4, 24), (5, 25)], [(2, 22), (6, 26)], [(2, 22), (7, 27)], [(2, 22), (8, 28)], [(2, 22), (9, 29)]]) [(6, .int .i64 xi), (2, .pointer (some ⟨g2, 0, none⟩)), (5, .int .i64 ((i : Int)))] [EV (.int .i64 xi), EV (.bool true), EV (.bool true), EV (undef), EV (undef), EV (undef), EV (undef), EV (undef), EV (undef), EV (undef), EV (.bool true)] (by kernel_rfl) ⟨rfl, rfl, rfl, trivial⟩ ?_ ?_ ?_
          · exact ⟨eI, eI, eI, eI, eI, eI, eI, eI, eI, eI, eI, trivial⟩
          · refine ⟨?_, ?_, ?_, ?_, ?_, ?_, ?_, ?_, ?_, ?_, ?_, trivial⟩
            · exact fun _ _ _ he hd => ob_mv rfl rfl he.1
            · exact fun aa ww hb he hd => ob_plain rfl (gives_lt_int xi 0 .i64 _ _ _ _ rfl hd.1 rfl ⟨congrArg Value.bool (by simpa using hx), Below.refl _ _⟩)
            · exact fun _ _ _ he hd => ob_mv rfl rfl hd.1
            · exact fun aa ww hb he hd => ob_off 22 rfl (by kernel_rfl) hd.1 rfl
            · exact fun aa ww hb he hd => ob_off 22 rfl (by kernel_rfl) hd.1 rfl
            · exact fun aa ww hb he hd => ob_off 22 rfl (by kernel_rfl) hd.1 rfl
            · exact fun aa ww hb he hd => ob_off 22 rfl (by kernel_rfl) hd.1 rfl
            · exact fun aa ww hb he hd => ob_off 22 rfl (by kernel_rfl) hd.1 rfl
            · exact fun aa ww hb he hd => ob_off 22 rfl (by kernel_rfl) hd.1 rfl
            · exact fun aa ww hb he hd => ob_off 22 rfl (by kernel_rfl) hd.1 rfl
            · exact fun aa ww hb he hd => ob_plain rfl (gives_pick true _ _ _ rfl hd.1 ⟨rfl, Below.refl _ _⟩)
          intro vs w5 hb hR
          have e30 : vs 10 = .bool true := hR 10 (by decide)
          clear hR
          simp only [putsL, Nat.zero_add, Nat.reduceAdd, List.take_succ_cons, List.take_zero, Act.put, List.setIfInBounds_toArray, List.set_cons_zero, List.set_cons_succ]
          rw [e30]
          clear e30
          go_wp2_with fail
          go_ret
          exact ⟨19, rfl, ⟨fun h => absurd rfl h, fun _ _ => rfl, fun _ h => absurd (h i hi) (by rw [← HXi.out]; exact HBad.out)⟩, bthen HB.out hb HB.out.size⟩
      by_cases hw : W i < 0
      · have HBad := Lib.hid (show ¬ (0 ≤ xi ∧ 0 ≤ W i) from fun h => by have := h.2; grind)
        · skip
          refine wp_region_seq (kss := [[], [(0, 20)], [(1, 21)], [(2, 22)], [(2, 22), (3, 23)], [(2, 22)], [(2, 22), (4, 24), (5, 25)], [(2, 22), (6, 26)], [(2, 22), (7, 27)], [(2, 22), (8, 28)], [(2, 22), (9, 29)]]) [(6, .int .i64 xi), (2, .pointer (some ⟨g2, 0, none⟩)), (5, .int .i64 ((i : Int)))] [EV (.int .i64 xi), EV (.bool false), EV (.bool false), EV (.pointer (some ⟨g2, 0, none⟩)), EV (.slice (some adW) l cw), EV (.int .i64 ((i : Int))), EV (.pointer (some (Addr.add adW (i * 3)))), Rw (b) (W i), EV (.int .i64 ((W i).num.sign)), EV (.bool true), EV (.bool true)] (by kernel_rfl) ⟨rfl, rfl, rfl, trivial⟩ ?_ ?_ ?_
          · exact ⟨eI, eI, eI, eI, eI, eI, eI, fun _ _ _ h hb => h.new hb, eI, eI, eI, trivial⟩
          · refine ⟨?_, ?_, ?_, ?_, ?_, ?_, ?_, ?_, ?_, ?_, ?_, trivial⟩
            · exact fun _ _ _ he hd => ob_mv rfl rfl he.1
            · exact fun aa ww hb he hd => ob_plain rfl (gives_lt_int xi 0 .i64 _ _ _ _ rfl hd.1 rfl ⟨congrArg Value.bool (by simpa using hx), Below.refl _ _⟩)
            · exact fun _ _ _ he hd => ob_mv rfl rfl hd.1
            · exact fun aa ww hb he hd => ob_on 22 rfl (by kernel_rfl) hd.1 (fld_cov (k := 0) rfl (by decide) he.2.1)
            · exact fun aa ww hb he hd => ob_on 22 rfl (by kernel_rfl) hd.1 (load_c28 rfl hd.2.1 (Blk.at0 HC.out hb))
            · exact fun aa ww hb he hd => ob_on 22 rfl (by kernel_rfl) hd.1 (gives_move _ rfl ⟨he.2.2.1, Below.refl _ _⟩)
            · exact fun aa ww hb he hd => ob_on 22 rfl (by kernel_rfl) hd.1 (idx_rs (by omega) rfl hd.2.1 hd.2.2.1)
            · exact fun aa ww hb he hd => ob_on 22 rfl (by kernel_rfl) hd.1 (load_rw rfl hd.2.1 (Rs.newW HW.out hb) (by omega))
            · exact fun aa ww hb he hd => ob_on 22 rfl (by kernel_rfl) hd.1 (gives_call1 _ _ _ rfl (by kernel_rfl) (sign_v (hd.2.1)))
            · exact fun aa ww hb he hd => ob_on 22 rfl (by kernel_rfl) hd.1 (gives_lt_int ((W i).num.sign) 0 .i64 _ _ _ _ rfl hd.2.1 rfl ⟨congrArg Value.bool (sign_lt.trans (decide_eq_true hw)), Below.refl _ _⟩)
            · exact fun aa ww hb he hd => ob_plain rfl (gives_pick false _ _ _ rfl hd.1 ⟨hd.2.1, Below.refl _ _⟩)
          intro vs w5 hb hR
          have e30 : vs 10 = .bool true := hR 10 (by decide)
          clear hR
          simp only [putsL, Nat.zero_add, Nat.reduceAdd, List.take_succ_cons, List.take_zero, Act.put, List.setIfInBounds_toArray, List.set_cons_zero, List.set_cons_succ]
          rw [e30]
          clear e30
          go_wp2_with fail
          go_ret
          exact ⟨19, rfl, ⟨fun h => absurd rfl h, fun _ _ => rfl, fun _ h => absurd (h i hi) (by rw [← HXi.out]; exact HBad.out)⟩, bthen HB.out hb HB.out.size⟩
      have HGd := Lib.hid (show 0 ≤ xi ∧ 0 ≤ W i from ⟨by omega, by grind⟩)
      · skip
        refine wp_region_seq (kss := [[], [(0, 20)], [(1, 21)], [(2, 22)], [(2, 22), (3, 23)], [(2, 22)], [(2, 22), (4, 24), (5, 25)], [(2, 22), (6, 26)], [(2, 22), (7, 27)], [(2, 22), (8, 28)], [(2, 22), (9, 29)]]) [(6, .int .i64 xi), (2, .pointer (some ⟨g2, 0, none⟩)), (5, .int .i64 ((i : Int)))] [EV (.int .i64 xi), EV (.bool false), EV (.bool false), EV (.pointer (some ⟨g2, 0, none⟩)), EV (.slice (some adW) l cw), EV (.int .i64 ((i : Int))), EV (.pointer (some (Addr.add adW (i * 3)))), Rw (b) (W i), EV (.int .i64 ((W i).num.sign)), EV (.bool false), EV (.bool false)] (by kernel_rfl) ⟨rfl, rfl, rfl, trivial⟩ ?_ ?_ ?_
        · exact ⟨eI, eI, eI, eI, eI, eI, eI, fun _ _ _ h hb => h.new hb, eI, eI, eI, trivial⟩
        · refine ⟨?_, ?_, ?_, ?_, ?_, ?_, ?_, ?_, ?_, ?_, ?_, trivial⟩
          · exact fun _ _ _ he hd => ob_mv rfl rfl he.1
          · exact fun aa ww hb he hd => ob_plain rfl (gives_lt_int xi 0 .i64 _ _ _ _ rfl hd.1 rfl ⟨congrArg Value.bool (by simpa using hx), Below.refl _ _⟩)
          · exact fun _ _ _ he hd => ob_mv rfl rfl hd.1
          · exact fun aa ww hb he hd => ob_on 22 rfl (by kernel_rfl) hd.1 (fld_cov (k := 0) rfl (by decide) he.2.1)
          · exact fun aa ww hb he hd => ob_on 22 rfl (by kernel_rfl) hd.1 (load_c28 rfl hd.2.1 (Blk.at0 HC.out hb))
          · exact fun aa ww hb he hd => ob_on 22 rfl (by kernel_rfl) hd.1 (gives_move _ rfl ⟨he.2.2.1, Below.refl _ _⟩)
          · exact fun aa ww hb he hd => ob_on 22 rfl (by kernel_rfl) hd.1 (idx_rs (by omega) rfl hd.2.1 hd.2.2.1)
          · exact fun aa ww hb he hd => ob_on 22 rfl (by kernel_rfl) hd.1 (load_rw rfl hd.2.1 (Rs.newW HW.out hb) (by omega))
          · exact fun aa ww hb he hd => ob_on 22 rfl (by kernel_rfl) hd.1 (gives_call1 _ _ _ rfl (by kernel_rfl) (sign_v (hd.2.1)))
          · exact fun aa ww hb he hd => ob_on 22 rfl (by kernel_rfl) hd.1 (gives_lt_int ((W i).num.sign) 0 .i64 _ _ _ _ rfl hd.2.1 rfl ⟨congrArg Value.bool (sign_lt.trans (decide_eq_false hw)), Below.refl _ _⟩)
          · exact fun aa ww hb he hd => ob_plain rfl (gives_pick false _ _ _ rfl hd.1 ⟨hd.2.1, Below.refl _ _⟩)
        intro vs w5 hb hR
        have e30 : vs 10 = .bool false := hR 10 (by decide)
        clear hR
        simp only [putsL, Nat.zero_add, Nat.reduceAdd, List.take_succ_cons, List.take_zero, Act.put, List.setIfInBounds_toArray, List.set_cons_zero, List.set_cons_succ]
        rw [e30]
        clear e30
        have HC9 := Lib.hid (HC.out.keep hb)
        have HW9 := Lib.hid (Rs.newW HW.out hb)
        have HB9 := Lib.hid (bthen HB.out hb HB.out.size)
        clear hb
        go_wp2_with fail
        go_roundg (gk - 1)
        case measure => omega
        case rel => exact ⟨i + 1, by go_num, by omega, Lib.hid ⟨fun j hj => by
          by_cases e : j = i
          · subst e; rw [← HXi.out]; exact HGd.out
          · exact HOk.out j (by omega), HC9.out, HW9.out, HB9.out⟩⟩
    · obtain rfl : l = i := by omega
      go_wp2_with fail
      go_ret
      exact ⟨0, rfl, ⟨fun h => absurd rfl h, fun _ ⟨j, hj, hbad⟩ => absurd (HOk.out j hj) hbad, fun _ _ => rfl⟩, HB.out⟩
end Go.Proofs.Ytpnklmgfdihjfaa
namespace Go.Proofs.Ytpnklmgfdihjfaa
open Go.RowKit
set_option linter.unusedVariables false
set_option linter.unusedSimpArgs false

set_option maxRecDepth 100000 in
set_option maxHeartbeats 4000000 in
theorem bit_any (i : Nat) (hi : i ≤ 100000) (w : World) : Calls Try.prog 84 #[.int .i64 (i : Int)] w (fun e w' => ∃ (A : Option Addr) (k c : Nat), e = .returned (.slice A k c) ∧ Num w' A k c (i / 32 + 1) (2 ^ i) ∧ Below w.heap.size w w') := by
  have hq : Int.tdiv (i : Int) 32 = ((i / 32 : Nat) : Int) := by rw [Int.tdiv_eq_ediv_of_nonneg (by omega)]; rfl
  have hr : Int.tmod (i : Int) 32 = ((i % 32 : Nat) : Int) := by rw [Int.tmod_eq_emod_of_nonneg (by omega)]; rfl
  obtain ⟨q, hq2⟩ : ∃ q, q = i / 32 := ⟨_, rfl⟩
  obtain ⟨r, hr2⟩ : ∃ r, r = i % 32 := ⟨_, rfl⟩
  rw [← hq2] at hq
  rw [← hr2] at hr
  have HQ := Lib.hid (show q = i / 32 ∧ r = i % 32 ∧ r < 32 from ⟨hq2, hr2, by omega⟩)
  have hq9 : q ≤ 3125 := by omega
  have hr9 : r < 32 := by omega
  rw [← hq2]
  clear hq2 hr2
  have hmk := mk_nat (q + 1) (by omega)
  simp only [Int.natCast_add, Int.natCast_one] at hmk
  have HB := Lib.hid (al w (.cells (urow (zer (q + 1))) 25))
  have HK := Lib.hid (Blk.new w 25 (urow (zer (q + 1))))
  go_enter Try.func84, Try.ntmps84
  go_upto_region 2 with (fail)
  clear hmk
  generalize w.alloc (.cells (urow (zer (q + 1))) 25) = w1 at *
  obtain ⟨g, hg⟩ : ∃ g, g = w.heap.size := ⟨_, rfl⟩
  rw [← hg] at HK ⊢
  have HG := Lib.hid hg; clear hg
  have hlen : (zer (q + 1)).length = q + 1 := zer_length _
  have cR : w1.cell? ⟨g, q, none⟩ = some (.int .u32 (nth (zer (q + 1)) q : Int)) := by rw [HK.out.cell, urow_get (by rw [hlen]; omega)]
  have fR : w1.frozen? ⟨g, q, none⟩ = false := HK.out.frozen q
  have i1 : (0 : Int) ≤ (q : Int) := by omega
  have i2 : (q : Int) < (q : Int) + 1 := by omega
  have i3 : (0 : Int) ≤ (r : Int) := by omega
  have i4 : (r : Int) < 32 := by omega
  have esh := shl_mod r hr9
  clear hlen
  go_wp2_with fail
  go_ret
  have hset := HK.out.set_ q (.int .u32 ((2 ^ r : Nat) : Int))
  rw [urow_set] at hset
  have hv := valB_set (b := 4294967296) (l := zer (q + 1)) (k := q) (x := 2 ^ r) (by rw [zer_length]; omega)
  have hz : nth (zer (q + 1)) q = 0 := by unfold nth zer; rw [List.getD_eq_getElem?_getD, List.getElem?_replicate]; simp
  have hz2 : valB 4294967296 (zer (q + 1)) = 0 := valB_zero _ _
  rw [hz, hz2, Nat.mul_zero, Nat.zero_add, Nat.add_zero] at hv
  have he : 4294967296 ^ q * 2 ^ r = 2 ^ i := by
    rw [show (4294967296 : Nat) = 2 ^ 32 from rfl, ← Nat.pow_mul, ← Nat.pow_add]
    congr 1
    have := HQ.out
    omega
  rw [he] at hv
  have h32 : 2 ^ r < 4294967296 := Nat.lt_of_lt_of_le (Nat.pow_lt_pow_right (by omega) hr9) (by decide)
  have hl2 : ((zer (q + 1)).set q (2 ^ r)).length = q + 1 := by rw [List.length_set, zer_length]
  have hd : ∀ d ∈ (zer (q + 1)).set q (2 ^ r), d < 4294967296 := fun d hd => by
    rcases List.mem_or_eq_of_mem_set hd with h | h
    · have := List.eq_of_mem_replicate h; omega
    · omega
  refine ⟨_, _, _, rfl, ⟨Nat.le_refl _, by omega, by omega, ?_, _, (by have h := Es.of_blk hset (by rw [hl2]; omega) hd; rw [hl2] at h; exact h), hv⟩, ?_⟩
  · rw [← hv]
    have := valB_lt (b := 4294967296) hd
    rw [hl2] at this
    exact this
  · exact HB.out.setCell (p := ⟨g, q, none⟩) (by show w.heap.size ≤ g; rw [HG.out]; exact Nat.le_refl _) _
end Go.Proofs.Ytpnklmgfdihjfaa
