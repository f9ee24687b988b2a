/-
  Contract of nat.Pow.
-/
import Derived.Test.YtnpokifmknepoaaNatBits
namespace Go.Proofs.Ytnpokifmknepoaa
open Go.RowKit

/-- 65536 and 4096, kept closed. -/
def bigE : Nat := 65536
theorem bigE_eq : bigE = 65536 := rfl
def capE : Nat := 4096
theorem capE_eq : capE = 4096 := rfl
/-- 2^65536. -/
def bigP : Nat := 2 ^ bigE
theorem bigP_eq : 2 ^ bigE = bigP := rfl
theorem len_of_pow {p e : Nat} (hp : p = 2 ^ e) {l : List Nat} {V b : Nat} (h : Nrm p l V) (hV : V < 2 ^ (e * b)) : l.length ≤ b := by
  rcases Nat.lt_or_ge b l.length with h1 | h1
  · have h2 := h.pos (by omega)
    have h3 : p ^ b ≤ p ^ (l.length - 1) := Nat.pow_le_pow_right (by rw [hp]; exact pow2_pos e) (by omega)
    rw [hp, ← Nat.pow_mul] at h3
    rw [hp] at h2
    omega
  · exact h1
theorem pow_bound {N n size m : Nat} (hN : N < 2 ^ size) (h : size * n ≤ 131072) (hm : m ≤ n) (hN1 : 1 ≤ N) (hsn : 0 < size * n) : N ^ m < 2 ^ (32 * capE) := by
  have h1 : N ^ m ≤ N ^ n := Nat.pow_le_pow_right hN1 hm
  have hn : n ≠ 0 := by rintro rfl; simp at hsn
  have h2 : N ^ n < (2 ^ size) ^ n := Nat.pow_lt_pow_left hN hn
  rw [← Nat.pow_mul] at h2
  have h3 : 2 ^ (size * n) ≤ 2 ^ (32 * capE) := two_pow_le (by have := capE_eq; omega)
  exact Nat.lt_of_le_of_lt h1 (Nat.lt_of_lt_of_le h2 h3)
/-- Where Pow says overflow by the sizes, the power is great. -/
theorem pow_great {N n size : Nat} (hN : 2 ^ (size - 1) ≤ N) (h2 : 2 ≤ N) (hn : 1 ≤ n) (h : 65536 ≤ n ∨ 65536 < size ∨ 65536 ≤ (size - 1) * n) : bigP ≤ N ^ n := by
  have hE := bigE_eq
  have key : ∀ k, bigE ≤ k → 2 ^ k ≤ N ^ n → bigP ≤ N ^ n := fun k hk h => by
    rw [← bigP_eq]; exact Nat.le_trans (two_pow_le hk) h
  have h3 : 2 ^ ((size - 1) * n) ≤ N ^ n := by rw [Nat.pow_mul]; exact Nat.pow_le_pow_left hN n
  rcases h with h | h | h
  · exact key n (by omega) (Nat.pow_le_pow_left h2 n)
  · refine key (size - 1) (by omega) (Nat.le_trans ?_ h3)
    apply two_pow_le
    have : (size - 1) * 1 ≤ (size - 1) * n := Nat.mul_le_mul_left _ hn
    omega
  · exact key _ (by omega) h3

theorem ofInt_i64 (a : Nat) (ha : a < 9223372036854775808) : (BitVec.ofInt 64 (a : Int)).toNat = a := by
  rw [BitVec.ofInt_natCast, BitVec.toNat_ofNat]; exact Nat.mod_eq_of_lt (by omega)
theorem i64_and_nat (a b : Nat) (ha : a < 9223372036854775808) (hb : b < 9223372036854775808) : bits .and .i64 (a : Int) (b : Int) = ((a &&& b : Nat) : Int) := by
  have hx : a &&& b < 2 ^ 63 := Nat.and_lt_two_pow _ (by omega)
  show IntKind.i64.wrap ((BitVec.ofInt 64 (a : Int) &&& BitVec.ofInt 64 (b : Int)).toNat : Int) = _
  rw [BitVec.toNat_and, ofInt_i64 a ha, ofInt_i64 b hb, IntKind.wrap_i64]
  omega
theorem and_one_i64 (y : Nat) (hy : y < 9223372036854775808) : bits .and .i64 (y : Int) 1 = ((y % 2 : Nat) : Int) := by
  rw [show (1 : Int) = ((1 : Nat) : Int) from rfl, i64_and_nat _ _ hy (by omega), nat_mask1]
theorem half_step (m i : Nat) : m / 2 ^ i = 2 * (m / 2 ^ (i + 1)) + m / 2 ^ i % 2 := by
  rw [Nat.pow_succ, ← Nat.div_div_eq_div_mul]; omega
theorem pow_sq {N a : Nat} : N ^ a * N ^ a = N ^ (2 * a) := by rw [← Nat.pow_add]; congr 1; omega

def RetPow (w : World) (N : Nat) (n : Int) (e : Ending) (w' : World) : Prop :=
  (n < 0 → e = .returned (.tuple #[.slice none 0 0, .int .i64 3]) ∧ Below w.heap.size w w') ∧
  (0 ≤ n → N ^ n.toNat < bigP → ∃ A k c l, e = .returned (.tuple #[.slice A k c, .int .i64 0]) ∧ k ≤ c ∧ k ≤ 4096 ∧ Es w' w'.heap.size A k l ∧ Nrm 4294967296 l (N ^ n.toNat) ∧ Below w.heap.size w w') ∧
  (0 ≤ n → bigP ≤ N ^ n.toNat → e = .returned (.tuple #[.slice none 0 0, .int .i64 20]) ∧ Below w.heap.size w w')
theorem bits_big {N b : Nat} (h : BitsIs N b) : 65536 < b ↔ bigP ≤ N := by
  have hE := bigE_eq
  rw [← bigP_eq]
  rcases h with ⟨h1, h2⟩ | ⟨h1, h2, h3⟩
  · subst h1 h2
    constructor
    · intro h; omega
    · intro h; have := pow2_pos bigE; omega
  · constructor
    · intro h; exact Nat.le_trans (two_pow_le (by omega)) h2
    · intro h
      rcases Nat.lt_or_ge 65536 b with h4 | h4
      · exact h4
      · have := Nat.lt_of_lt_of_le h3 (two_pow_le (show b ≤ bigE by omega))
        exact absurd (Nat.lt_of_le_of_lt h this) (Nat.lt_irrefl _)
theorem one_lt_big : 1 < bigP := by
  rw [← bigP_eq]
  exact Nat.one_lt_two_pow (by rw [bigE_eq]; omega)
theorem Nrm.one : ∀ {l : List Nat}, Nrm 4294967296 l 1 → l.length ≤ 4096 := fun h => by
  rcases Nat.lt_or_ge 1 _ with h1 | h1
  · exact absurd (Nrm.len_lt (l := [1]) (x := 1) ⟨by simp [valB], by simp, by simp [nth, List.getD]⟩ h (by omega) (by simpa using h1)) (Nat.lt_irrefl _)
  · omega

set_option maxHeartbeats 8000000 in
theorem pow_any (A : Option Addr) (ds : List Nat) (n c : Nat) (hc : n ≤ c) (w : World) (hr : Es w w.heap.size A n ds) (hn : n ≤ 1000000) (x : Int) (hx : -9223372036854775808 ≤ x ∧ x ≤ 9223372036854775807) :
    Calls Try.prog 22 #[.slice A n c, .int .i64 x] w (RetPow w (valB 4294967296 ds) x) := by
  have HR := Lib.hid hr; clear hr
  go_enter Try.func22, Try.ntmps22
  go_wp2_with fail
  refine (trim_any A ds n c hc _ HR.out).mono ?_
  rintro e w1 ⟨k, l, rfl, hk, hl, hN, rfl⟩
  generalize valB 4294967296 ds = N at *
  have H1 := Lib.hid hl; clear hl
  have N1 := Lib.hid hN; clear hN
  by_cases hx0 : x < 0
  · go_wp2_with fail
    go_ret2
    exact ⟨fun _ => ⟨rfl, Below.refl _ _⟩, fun h => by omega, fun h => by omega⟩
  obtain ⟨m, rfl⟩ := Int.eq_ofNat_of_zero_le (show 0 ≤ x by omega)
  go_wp2_with fail
  refine (bits_any A l k k (Nat.le_refl _) _ H1.out (by omega)).mono ?_
  rintro e w2 ⟨b, rfl, hb, hb32, rfl⟩
  rw [N1.out.1] at hb
  have HB := Lib.hid hb; clear hb
  by_cases h1 : m = 0 ∨ b = 1
  · have hpow : N ^ m = 1 := by
      rcases h1 with h | h
      · rw [h, Nat.pow_zero]
      · have : N = 1 := by
          rcases HB.out with ⟨_, h2⟩ | ⟨_, h2, h3⟩
          · omega
          · rw [h] at h2 h3; simp at h2 h3; omega
        rw [this, Nat.one_pow]
    have HP := Lib.hid hpow; clear hpow
    have fin : ∀ (w3 : World) (A3 : Option Addr) (k3 c3 : Nat) (l3 : List Nat), k3 ≤ c3 → Es w3 w3.heap.size A3 k3 l3 → Nrm 4294967296 l3 1 → Below w.heap.size w w3 → RetPow w N (m : Int) (.returned (.tuple #[.slice A3 k3 c3, .int .i64 0])) w3 := by
      intro w3 A3 k3 c3 l3 q1 q2 q3 q4
      refine ⟨fun h => by omega, fun _ _ => ⟨A3, k3, c3, l3, rfl, q1, by rw [q2.len]; exact q3.one, q2, ?_, q4⟩, fun _ h => ?_⟩
      · rw [Int.toNat_natCast, HP.out]; exact q3
      · rw [Int.toNat_natCast, HP.out] at h
        exact absurd (Nat.lt_of_lt_of_le one_lt_big h) (Nat.lt_irrefl _)
    have FIN := Lib.hid fin; clear fin
    by_cases hm0 : m = 0
    · subst hm0
      go_wp2_with fail
      refine (nof_any 1 (by omega) _).mono ?_
      rintro e w3 ⟨A3, k3, c3, l3, rfl, q1, q2, q3, q4⟩
      have HQ := Lib.hid (And.intro q2 (And.intro q3 q4)); clear q2 q3 q4
      go_wp2_with fail
      go_ret2
      exact FIN.out w3 A3 k3 c3 l3 q1 HQ.out.1 HQ.out.2.1 HQ.out.2.2
    · have hb1 : b = 1 := by omega
      subst hb1
      have hmb : ((m : Int) == 0) = false := by simp; omega
      go_wp2_with fail
      refine (nof_any 1 (by omega) _).mono ?_
      rintro e w3 ⟨A3, k3, c3, l3, rfl, q1, q2, q3, q4⟩
      have HQ := Lib.hid (And.intro q2 (And.intro q3 q4)); clear q2 q3 q4
      go_wp2_with fail
      go_ret2
      exact FIN.out w3 A3 k3 c3 l3 q1 HQ.out.1 HQ.out.2.1 HQ.out.2.2
  have hm1 : 1 ≤ m := by omega
  have hmb : ((m : Int) == 0) = false := by simp; omega
  have hbb : ((b : Int) == 1) = false := by simp; omega
  by_cases hb0 : b = 0
  · have HN0 := Lib.hid (show N = 0 by rcases HB.out with ⟨h, _⟩ | ⟨h, _⟩ <;> omega)
    subst hb0
    go_wp2_with fail
    go_ret2
    have hp : N ^ (m : Int).toNat = 0 := by rw [HN0.out, Int.toNat_natCast]; exact Nat.zero_pow (by omega)
    refine ⟨fun h => by omega, fun _ _ => ⟨none, 0, 0, [], rfl, Nat.le_refl _, by omega, ⟨Reads.none_, ⟨rfl, by omega⟩, by simp⟩, by rw [hp]; exact Nrm.nil _, Below.refl _ _⟩, fun _ h => ?_⟩
    rw [hp] at h
    have := one_lt_big
    exact absurd (Nat.lt_of_lt_of_le this h) (by omega)
  have hbz : ((b : Int) == 0) = false := by simp; omega
  have hb2 : 2 ≤ b := by omega
  obtain ⟨g1, g2⟩ : 2 ^ (b - 1) ≤ N ∧ N < 2 ^ b := by
    rcases HB.out with ⟨_, h⟩ | ⟨_, h2, h3⟩
    · omega
    · exact ⟨h2, h3⟩
  have hN2 : 2 ≤ N := by
    have := two_pow_le (show 1 ≤ b - 1 by omega)
    omega
  have HG := Lib.hid (And.intro g1 (And.intro g2 hN2)); clear g1 g2 hN2 h1 hb0
  by_cases hov : 65536 ≤ m ∨ 65536 < b ∨ 65536 ≤ (b - 1) * m
  · have HOV := Lib.hid (pow_great HG.out.1 HG.out.2.2 hm1 hov)
    have fin : RetPow w N (m : Int) (.returned (.tuple #[.slice none 0 0, .int .i64 20])) w :=
      ⟨fun h => by omega, fun _ h => absurd (Nat.lt_of_lt_of_le h (by rw [Int.toNat_natCast]; exact HOV.out)) (Nat.lt_irrefl _), fun _ _ => ⟨rfl, Below.refl _ _⟩⟩
    have FIN := Lib.hid fin; clear fin
    have hb32' : b ≤ 32000000 := by omega
    clear hb32
    by_cases o1 : 65536 ≤ m
    · clear hov
      have t1 : decide ((65536 : Int) ≤ (m : Int)) = true := by simp; omega
      clear o1
      go_wp2_with fail
      go_ret2
      exact FIN.out
    · have t1 : decide ((65536 : Int) ≤ (m : Int)) = false := by simp; omega
      by_cases o2 : 65536 < b
      · clear hov
        have t2 : decide ((65536 : Int) < (b : Int)) = true := by simp; omega
        have hm6 : m < 65537 := by omega
        clear o1 o2 hm6
        go_wp2_with fail
        go_ret2
        exact FIN.out
      · have t2 : decide ((65536 : Int) < (b : Int)) = false := by simp; omega
        have o3 : 65536 ≤ (b - 1) * m := by omega
        have e1 : (((b - 1) * m : Nat) : Int) = ((b : Int) - 1) * (m : Int) := by rw [Int.natCast_mul, Int.natCast_sub (by omega)]; simp
        have t3 : decide ((65536 : Int) ≤ ((b : Int) - 1) * (m : Int)) = true := by rw [← e1]; simp; omega
        have o4 : (0 : Int) ≤ ((b : Int) - 1) * (m : Int) := by omega
        have o5 : ((b : Int) - 1) * (m : Int) ≤ 4294967296 := by
          have h1 : (b - 1) * m ≤ 65536 * 65536 := Nat.mul_le_mul (by omega) (by omega)
          omega
        clear hov o3 o1 o2 e1
        go_wp2_with fail
        go_ret2
        exact FIN.out
  have t1 : decide ((65536 : Int) ≤ (m : Int)) = false := by simp; omega
  have t2 : decide ((65536 : Int) < (b : Int)) = false := by simp; omega
  have e1 : (((b - 1) * m : Nat) : Int) = ((b : Int) - 1) * (m : Int) := by rw [Int.natCast_mul, Int.natCast_sub (by omega)]; simp
  have t3 : decide ((65536 : Int) ≤ ((b : Int) - 1) * (m : Int)) = false := by rw [← e1]; simp; omega
  have o4 : (0 : Int) ≤ ((b : Int) - 1) * (m : Int) := by omega
  have o5 : ((b : Int) - 1) * (m : Int) ≤ 4294967296 := by omega
  have hbm : b * m ≤ 131072 := by
    obtain ⟨b', rfl⟩ : ∃ b', b = b' + 1 := ⟨b - 1, by omega⟩
    rw [Nat.add_sub_cancel] at hov
    rw [Nat.add_mul, Nat.one_mul]
    omega
  have hbm0 : 0 < b * m := Nat.mul_pos (by omega) (by omega)
  have HBD := Lib.hid (fun (a : Nat) (ha : a ≤ m) => pow_bound HG.out.2.1 hbm ha (by have := HG.out.2.2; omega) hbm0)
  have hm6 : m < 70000 := by omega
  clear hov e1 hbm hbm0
  go_wp2_with fail
  refine (nof_any 1 (by omega) _).mono ?_
  rintro e w3 ⟨A3, k3, c3, l3, rfl, q1, q2, q3, q4⟩
  have HQ := Lib.hid (And.intro q1 (And.intro q2 (And.intro q3 q4))); clear q1 q2 q3 q4
  clear t1 t2 t3 o4 o5
  go_wp2_with fail
  refine (Try.bits_Len (m : Int) _ (by omega) (by omega)).mono ?_
  rintro e w3 ⟨rfl, rfl⟩
  rw [Int.toNat_natCast]
  obtain ⟨s1, s2, s3⟩ := bitLen_spec 17 m (by omega) (by omega) (by omega)
  have s4 : Lib.bitLen m ≤ 17 := by
    rcases Nat.lt_or_ge 17 (Lib.bitLen m) with h | h
    · have := two_pow_le (show 17 ≤ Lib.bitLen m - 1 by omega); omega
    · exact h
  have HS3 := Lib.hid s3
  generalize Lib.bitLen m = t at *
  clear s2 s3
  go_wp2_with fail
  go_loopw [7, 8] (fun ov iv wr => ∃ (i k' c' : Nat) (A' : Option Addr), i ≤ t ∧ ov = .slice A' k' c' ∧ iv = .int .i64 ((i : Int) - 1) ∧ Hid (k' ≤ c' ∧ Below w.heap.size w wr ∧ ∃ l', Es wr wr.heap.size A' k' l' ∧ Nrm 4294967296 l' (N ^ (m / 2 ^ i)))) (fun _ iv _ => (intOf iv + 1).toNat)
  case atStart =>
    refine ⟨t, k3, c3, A3, Nat.le_refl _, rfl, rfl, Lib.hid ⟨HQ.out.1, HQ.out.2.2.2, l3, HQ.out.2.1, ?_⟩⟩
    rw [Nat.div_eq_of_lt HS3.out, Nat.pow_zero]; exact HQ.out.2.2.1
  case round =>
    obtain ⟨i, k', c', A', hi, rfl, rfl, HJ⟩ := hrel
    by_cases hi0 : 0 < i
    · obtain ⟨i, rfl⟩ : ∃ j, i = j + 1 := ⟨i - 1, by omega⟩
      have i0 : ((i + 1 : Nat) : Int) - 1 = (i : Int) := by omega
      rw [i0]
      obtain ⟨hkc, hBl, l', hE, hN'⟩ := HJ.out
      have hk4 : k' ≤ 4096 := by
        rw [hE.len, ← capE_eq]
        exact len_of_pow (e := 32) rfl hN' (HBD.out _ (Nat.div_le_self _ _))
      have HE := Lib.hid (And.intro hE (And.intro hN' hBl)); clear hE hN' hBl HJ
      go_wp2_with fail
      refine (mul_any A' l' k' c' hkc A' l' k' c' hkc _ HE.out.1 HE.out.1 (by omega) (by omega)).mono ?_
      rintro e w4 ⟨A4, k4, c4, l4, rfl, hk4c, hE4, hN4, hb4⟩
      rw [HE.out.2.1.1, pow_sq] at hN4
      have hB4 := bthen HE.out.2.2 hb4 HE.out.2.2.size
      have hA4 := (H1.out.new HE.out.2.2).new hb4
      have hst := half_step m i
      have hk44 : k4 ≤ 4096 := by
        rw [hE4.len, ← capE_eq]
        exact len_of_pow (e := 32) rfl hN4 (HBD.out _ (by have := Nat.div_le_self m (2 ^ i); omega))
      have hmi : m / 2 ^ i ≤ m := Nat.div_le_self _ _
      have ht := and_one_i64 (m / 2 ^ i) (by omega)
      rw [Int.natCast_ediv, cast_pow2] at ht
      have H4 := Lib.hid (And.intro hE4 (And.intro hN4 (And.intro hB4 (And.intro hA4 hst)))); clear hE4 hN4 hB4 hA4 hst hb4 hmi
      by_cases hodd : m / 2 ^ i % 2 = 1
      · have tb : (bits .and .i64 ((m : Int) / 2 ^ i) 1 == 1) = true := by rw [ht, hodd]; rfl
        have HODD := Lib.hid hodd; clear hodd ht
        go_wp2_with fail
        refine (mul_any A4 l4 k4 c4 hk4c A l k k (Nat.le_refl _) _ H4.out.1 H4.out.2.2.2.1 (by omega) (by omega)).mono ?_
        rintro e w5 ⟨A5, k5, c5, l5, rfl, hk5c, hE5, hN5, hb5⟩
        rw [H4.out.2.1.1, N1.out.1, ← Nat.pow_succ] at hN5
        have H5 := Lib.hid (And.intro hk5c (And.intro hE5 (And.intro hN5 (bthen H4.out.2.2.1 hb5 H4.out.2.2.1.size)))); clear hk5c hE5 hN5 hb5
        go_wp2_with fail
        refine ⟨⟨i, k5, c5, A5, by omega, rfl, rfl, Lib.hid ⟨H5.out.1, H5.out.2.2.2, l5, H5.out.2.1, ?_⟩⟩, by simp [intOf]⟩
        have h1 := H4.out.2.2.2.2
        rw [HODD.out] at h1
        rw [h1]; exact H5.out.2.2.1
      · have hz : m / 2 ^ i % 2 = 0 := by omega
        have tb : (bits .and .i64 ((m : Int) / 2 ^ i) 1 == 1) = false := by rw [ht, hz]; rfl
        have HODD := Lib.hid hz; clear hodd hz ht
        go_wp2_with fail
        refine ⟨⟨i, k4, c4, A4, by omega, rfl, rfl, Lib.hid ⟨hk4c, H4.out.2.2.1, l4, H4.out.1, ?_⟩⟩, by simp [intOf]⟩
        have h1 := H4.out.2.2.2.2
        rw [HODD.out, Nat.add_zero] at h1
        rw [h1]; exact H4.out.2.1
    · obtain rfl : i = 0 := by omega
      obtain ⟨hkc, hBl, l', hE, hN'⟩ := HJ.out
      rw [Nat.pow_zero, Nat.div_one] at hN'
      have hk4 : k' ≤ 4096 := by
        rw [hE.len, ← capE_eq]
        exact len_of_pow (e := 32) rfl hN' (HBD.out _ (Nat.le_refl _))
      have HE := Lib.hid (And.intro hE (And.intro hN' hBl)); clear hE hN' hBl HJ
      go_wp2_with fail
      refine (bits_any A' l' k' c' hkc _ HE.out.1 (by omega)).mono ?_
      rintro e w4 ⟨b4, rfl, hb4, hb4l, rfl⟩
      rw [HE.out.2.1.1] at hb4
      have HB4 := Lib.hid (bits_big hb4); clear hb4
      by_cases hbig : 65536 < b4
      · have t1 : decide ((65536 : Int) < (b4 : Int)) = true := by simp; omega
        have HBIG := Lib.hid (HB4.out.1 hbig); clear hbig
        go_wp2_with fail
        go_ret2
        exact ⟨fun h => by omega, fun _ h => absurd (Nat.lt_of_lt_of_le h (by rw [Int.toNat_natCast]; exact HBIG.out)) (Nat.lt_irrefl _), fun _ _ => ⟨rfl, HE.out.2.2⟩⟩
      · have t1 : decide ((65536 : Int) < (b4 : Int)) = false := by simp; omega
        have HBIG := Lib.hid (fun h => hbig (HB4.out.2 h)); clear hbig
        go_wp2_with fail
        go_ret2
        refine ⟨fun h => by omega, fun _ _ => ⟨A', k', c', l', rfl, hkc, hk4, HE.out.1, ?_, HE.out.2.2⟩, fun _ h => ?_⟩
        · rw [Int.toNat_natCast]; exact HE.out.2.1
        · rw [Int.toNat_natCast] at h; exact absurd h HBIG.out

end Go.Proofs.Ytnpokifmknepoaa
