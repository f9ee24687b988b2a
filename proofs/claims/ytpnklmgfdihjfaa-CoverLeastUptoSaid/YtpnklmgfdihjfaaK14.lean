/-
Contract of nat.Pow.
Pow of a number with its value.
awake of layer 4 returns true.
The walk of NatRing.
The walk of NatPowers.
Numbers as values of operations: lemmas. Printed by gen/scv.py.
Closures of cover.Check. Printed by gen/scv.py.
Lemmas for law29.made. Printed by gen/scv.py.
Opens a Guess and slices of small integers; what the bound on the bulk of the arguments gives.
Contract of cover.Of. Printed by gen/scv.py.
Contracts of law29.great and of. Printed by gen/scv.py.
-/
import Derived.Test.YtpnklmgfdihjfaaK3
import Derived.Test.YtpnklmgfdihjfaaK13
import Derived.BigQuiet
import Derived.Test.YtpnklmgfdihjfaaK1
import Derived.Test.YtpnklmgfdihjfaaRows
import Derived.Lib.SmallJoins
namespace Go.Proofs.Ytpnklmgfdihjfaa
open Go.RowKit

/-- 65536 and 4096, kept closed. -/
def bigE : Nat := 65536
theorem bigE_eq : bigE = 65536 := rfl
def capE : Nat := 4096
theorem capE_eq : capE = 4096 := rfl
/-- 2^65536. -/
def bigP : Nat := 2 ^ bigE
theorem bigP_eq : 2 ^ bigE = bigP := rfl
theorem len_of_pow {p e : Nat} (hp : p = 2 ^ e) {l : List Nat} {V b : Nat} (h : Nrm p l V) (hV : V < 2 ^ (e * b)) : l.length ≤ b := by
  rcases Nat.lt_or_ge b l.length with h1 | h1
  · have h2 := h.pos (by omega)
    have h3 : p ^ b ≤ p ^ (l.length - 1) := Nat.pow_le_pow_right (by rw [hp]; exact pow2_pos e) (by omega)
    rw [hp, ← Nat.pow_mul] at h3
    rw [hp] at h2
    omega
  · exact h1
theorem pow_bound {N n size m : Nat} (hN : N < 2 ^ size) (h : size * n ≤ 131072) (hm : m ≤ n) (hN1 : 1 ≤ N) (hsn : 0 < size * n) : N ^ m < 2 ^ (32 * capE) := by
  have h1 : N ^ m ≤ N ^ n := Nat.pow_le_pow_right hN1 hm
  have hn : n ≠ 0 := by rintro rfl; simp at hsn
  have h2 : N ^ n < (2 ^ size) ^ n := Nat.pow_lt_pow_left hN hn
  rw [← Nat.pow_mul] at h2
  have h3 : 2 ^ (size * n) ≤ 2 ^ (32 * capE) := two_pow_le (by have := capE_eq; omega)
  exact Nat.lt_of_le_of_lt h1 (Nat.lt_of_lt_of_le h2 h3)
/-- Where Pow says overflow by the sizes, the power is great. -/
theorem pow_great {N n size : Nat} (hN : 2 ^ (size - 1) ≤ N) (h2 : 2 ≤ N) (hn : 1 ≤ n) (h : 65536 ≤ n ∨ 65536 < size ∨ 65536 ≤ (size - 1) * n) : bigP ≤ N ^ n := by
  have hE := bigE_eq
  have key : ∀ k, bigE ≤ k → 2 ^ k ≤ N ^ n → bigP ≤ N ^ n := fun k hk h => by
    rw [← bigP_eq]; exact Nat.le_trans (two_pow_le hk) h
  have h3 : 2 ^ ((size - 1) * n) ≤ N ^ n := by rw [Nat.pow_mul]; exact Nat.pow_le_pow_left hN n
  rcases h with h | h | h
  · exact key n (by omega) (Nat.pow_le_pow_left h2 n)
  · refine key (size - 1) (by omega) (Nat.le_trans ?_ h3)
    apply two_pow_le
    have : (size - 1) * 1 ≤ (size - 1) * n := Nat.mul_le_mul_left _ hn
    omega
  · exact key _ (by omega) h3

theorem ofInt_i64 (a : Nat) (ha : a < 9223372036854775808) : (BitVec.ofInt 64 (a : Int)).toNat = a := by
  rw [BitVec.ofInt_natCast, BitVec.toNat_ofNat]; exact Nat.mod_eq_of_lt (by omega)
theorem i64_and_nat (a b : Nat) (ha : a < 9223372036854775808) (hb : b < 9223372036854775808) : bits .and .i64 (a : Int) (b : Int) = ((a &&& b : Nat) : Int) := by
  have hx : a &&& b < 2 ^ 63 := Nat.and_lt_two_pow _ (by omega)
  show IntKind.i64.wrap ((BitVec.ofInt 64 (a : Int) &&& BitVec.ofInt 64 (b : Int)).toNat : Int) = _
  rw [BitVec.toNat_and, ofInt_i64 a ha, ofInt_i64 b hb, IntKind.wrap_i64]
  omega
theorem and_one_i64 (y : Nat) (hy : y < 9223372036854775808) : bits .and .i64 (y : Int) 1 = ((y % 2 : Nat) : Int) := by
  rw [show (1 : Int) = ((1 : Nat) : Int) from rfl, i64_and_nat _ _ hy (by omega), nat_mask1]
theorem half_step (m i : Nat) : m / 2 ^ i = 2 * (m / 2 ^ (i + 1)) + m / 2 ^ i % 2 := by
  rw [Nat.pow_succ, ← Nat.div_div_eq_div_mul]; omega
theorem pow_sq {N a : Nat} : N ^ a * N ^ a = N ^ (2 * a) := by rw [← Nat.pow_add]; congr 1; omega

def RetPow (w : World) (N : Nat) (n : Int) (e : Ending) (w' : World) : Prop :=
  (n < 0 → e = .returned (.tuple #[.slice none 0 0, .int .i64 3]) ∧ Below w.heap.size w w') ∧
  (0 ≤ n → N ^ n.toNat < bigP → ∃ A k c l, e = .returned (.tuple #[.slice A k c, .int .i64 0]) ∧ k ≤ c ∧ k ≤ 4096 ∧ Es w' w'.heap.size A k l ∧ Nrm 4294967296 l (N ^ n.toNat) ∧ Below w.heap.size w w') ∧
  (0 ≤ n → bigP ≤ N ^ n.toNat → e = .returned (.tuple #[.slice none 0 0, .int .i64 20]) ∧ Below w.heap.size w w')
theorem bits_big {N b : Nat} (h : BitsIs N b) : 65536 < b ↔ bigP ≤ N := by
  have hE := bigE_eq
  rw [← bigP_eq]
  rcases h with ⟨h1, h2⟩ | ⟨h1, h2, h3⟩
  · subst h1 h2
    constructor
    · intro h; omega
    · intro h; have := pow2_pos bigE; omega
  · constructor
    · intro h; exact Nat.le_trans (two_pow_le (by omega)) h2
    · intro h
      rcases Nat.lt_or_ge 65536 b with h4 | h4
      · exact h4
      · have := Nat.lt_of_lt_of_le h3 (two_pow_le (show b ≤ bigE by omega))
        exact absurd (Nat.lt_of_le_of_lt h this) (Nat.lt_irrefl _)
theorem one_lt_big : 1 < bigP := by
  rw [← bigP_eq]
  exact Nat.one_lt_two_pow (by rw [bigE_eq]; omega)
theorem Nrm.one : ∀ {l : List Nat}, Nrm 4294967296 l 1 → l.length ≤ 4096 := fun h => by
  rcases Nat.lt_or_ge 1 _ with h1 | h1
  · exact absurd (Nrm.len_lt (l := [1]) (x := 1) ⟨by simp [valB], by simp, by simp [nth, List.getD]⟩ h (by omega) (by simpa using h1)) (Nat.lt_irrefl _)
  · omega

set_option maxHeartbeats 8000000 in
theorem pow_any (A : Option Addr) (ds : List Nat) (n c : Nat) (hc : n ≤ c) (w : World) (hr : Es w w.heap.size A n ds) (hn : n ≤ 1000000) (x : Int) (hx : -9223372036854775808 ≤ x ∧ x ≤ 9223372036854775807) :
    Calls Try.prog 78 #[.slice A n c, .int .i64 x] w (RetPow w (valB 4294967296 ds) x) := by
  have HR := Lib.hid hr; clear hr
  go_enter Try.func78, Try.ntmps78
  go_wp2_with fail
  refine (trim_any A ds n c hc _ HR.out).mono ?_
  rintro e w1 ⟨k, l, rfl, hk, hl, hN, rfl⟩
  generalize valB 4294967296 ds = N at *
  have H1 := Lib.hid hl; clear hl
  have N1 := Lib.hid hN; clear hN
  by_cases hx0 : x < 0
  · go_wp2_with fail
    go_ret2
    exact ⟨fun _ => ⟨rfl, Below.refl _ _⟩, fun h => by omega, fun h => by omega⟩
  obtain ⟨m, rfl⟩ := Int.eq_ofNat_of_zero_le (show 0 ≤ x by omega)
  go_wp2_with fail
  refine (bits_any A l k k (Nat.le_refl _) _ H1.out (by omega)).mono ?_
  rintro e w2 ⟨b, rfl, hb, hb32, rfl⟩
  rw [N1.out.1] at hb
  have HB := Lib.hid hb; clear hb
  by_cases h1 : m = 0 ∨ b = 1
  · have hpow : N ^ m = 1 := by
      rcases h1 with h | h
      · rw [h, Nat.pow_zero]
      · have : N = 1 := by
          rcases HB.out with ⟨_, h2⟩ | ⟨_, h2, h3⟩
          · omega
          · rw [h] at h2 h3; simp at h2 h3; omega
        rw [this, Nat.one_pow]
    have HP := Lib.hid hpow; clear hpow
    have fin : ∀ (w3 : World) (A3 : Option Addr) (k3 c3 : Nat) (l3 : List Nat), k3 ≤ c3 → Es w3 w3.heap.size A3 k3 l3 → Nrm 4294967296 l3 1 → Below w.heap.size w w3 → RetPow w N (m : Int) (.returned (.tuple #[.slice A3 k3 c3, .int .i64 0])) w3 := by
      intro w3 A3 k3 c3 l3 q1 q2 q3 q4
      refine ⟨fun h => by omega, fun _ _ => ⟨A3, k3, c3, l3, rfl, q1, by rw [q2.len]; exact q3.one, q2, ?_, q4⟩, fun _ h => ?_⟩
      · rw [Int.toNat_natCast, HP.out]; exact q3
      · rw [Int.toNat_natCast, HP.out] at h
        exact absurd (Nat.lt_of_lt_of_le one_lt_big h) (Nat.lt_irrefl _)
    have FIN := Lib.hid fin; clear fin
    by_cases hm0 : m = 0
    · subst hm0
      go_wp2_with fail
      refine (nof_any 1 (by omega) _).mono ?_
      rintro e w3 ⟨A3, k3, c3, l3, rfl, q1, q2, q3, q4⟩
      have HQ := Lib.hid (And.intro q2 (And.intro q3 q4)); clear q2 q3 q4
      go_wp2_with fail
      go_ret2
      exact FIN.out w3 A3 k3 c3 l3 q1 HQ.out.1 HQ.out.2.1 HQ.out.2.2
    · have hb1 : b = 1 := by omega
      subst hb1
      have hmb : ((m : Int) == 0) = false := by simp; omega
      go_wp2_with fail
      refine (nof_any 1 (by omega) _).mono ?_
      rintro e w3 ⟨A3, k3, c3, l3, rfl, q1, q2, q3, q4⟩
      have HQ := Lib.hid (And.intro q2 (And.intro q3 q4)); clear q2 q3 q4
      go_wp2_with fail
      go_ret2
      exact FIN.out w3 A3 k3 c3 l3 q1 HQ.out.1 HQ.out.2.1 HQ.out.2.2
  have hm1 : 1 ≤ m := by omega
  have hmb : ((m : Int) == 0) = false := by simp; omega
  have hbb : ((b : Int) == 1) = false := by simp; omega
  by_cases hb0 : b = 0
  · have HN0 := Lib.hid (show N = 0 by rcases HB.out with ⟨h, _⟩ | ⟨h, _⟩ <;> omega)
    subst hb0
    go_wp2_with fail
    go_ret2
    have hp : N ^ (m : Int).toNat = 0 := by rw [HN0.out, Int.toNat_natCast]; exact Nat.zero_pow (by omega)
    refine ⟨fun h => by omega, fun _ _ => ⟨none, 0, 0, [], rfl, Nat.le_refl _, by omega, ⟨Reads.none_, ⟨rfl, by omega⟩, by simp⟩, by rw [hp]; exact Nrm.nil _, Below.refl _ _⟩, fun _ h => ?_⟩
    rw [hp] at h
    have := one_lt_big
    exact absurd (Nat.lt_of_lt_of_le this h) (by omega)
  have hbz : ((b : Int) == 0) = false := by simp; omega
  have hb2 : 2 ≤ b := by omega
  obtain ⟨g1, g2⟩ : 2 ^ (b - 1) ≤ N ∧ N < 2 ^ b := by
    rcases HB.out with ⟨_, h⟩ | ⟨_, h2, h3⟩
    · omega
    · exact ⟨h2, h3⟩
  have hN2 : 2 ≤ N := by
    have := two_pow_le (show 1 ≤ b - 1 by omega)
    omega
  have HG := Lib.hid (And.intro g1 (And.intro g2 hN2)); clear g1 g2 hN2 h1 hb0
  by_cases hov : 65536 ≤ m ∨ 65536 < b ∨ 65536 ≤ (b - 1) * m
  · have HOV := Lib.hid (pow_great HG.out.1 HG.out.2.2 hm1 hov)
    have fin : RetPow w N (m : Int) (.returned (.tuple #[.slice none 0 0, .int .i64 20])) w :=
      ⟨fun h => by omega, fun _ h => absurd (Nat.lt_of_lt_of_le h (by rw [Int.toNat_natCast]; exact HOV.out)) (Nat.lt_irrefl _), fun _ _ => ⟨rfl, Below.refl _ _⟩⟩
    have FIN := Lib.hid fin; clear fin
    have hb32' : b ≤ 32000000 := by omega
    clear hb32
    by_cases o1 : 65536 ≤ m
    · clear hov
      have t1 : decide ((65536 : Int) ≤ (m : Int)) = true := by simp; omega
      clear o1
      go_wp2_with fail
      go_ret2
      exact FIN.out
    · have t1 : decide ((65536 : Int) ≤ (m : Int)) = false := by simp; omega
      by_cases o2 : 65536 < b
      · clear hov
        have t2 : decide ((65536 : Int) < (b : Int)) = true := by simp; omega
        have hm6 : m < 65537 := by omega
        clear o1 o2 hm6
        go_wp2_with fail
        go_ret2
        exact FIN.out
      · have t2 : decide ((65536 : Int) < (b : Int)) = false := by simp; omega
        have o3 : 65536 ≤ (b - 1) * m := by omega
        have e1 : (((b - 1) * m : Nat) : Int) = ((b : Int) - 1) * (m : Int) := by rw [Int.natCast_mul, Int.natCast_sub (by omega)]; simp
        have t3 : decide ((65536 : Int) ≤ ((b : Int) - 1) * (m : Int)) = true := by rw [← e1]; simp; omega
        have o4 : (0 : Int) ≤ ((b : Int) - 1) * (m : Int) := by omega
        have o5 : ((b : Int) - 1) * (m : Int) ≤ 4294967296 := by
          have h1 : (b - 1) * m ≤ 65536 * 65536 := Nat.mul_le_mul (by omega) (by omega)
          omega
        clear hov o3 o1 o2 e1
        go_wp2_with fail
        go_ret2
        exact FIN.out
  have t1 : decide ((65536 : Int) ≤ (m : Int)) = false := by simp; omega
  have t2 : decide ((65536 : Int) < (b : Int)) = false := by simp; omega
  have e1 : (((b - 1) * m : Nat) : Int) = ((b : Int) - 1) * (m : Int) := by rw [Int.natCast_mul, Int.natCast_sub (by omega)]; simp
  have t3 : decide ((65536 : Int) ≤ ((b : Int) - 1) * (m : Int)) = false := by rw [← e1]; simp; omega
  have o4 : (0 : Int) ≤ ((b : Int) - 1) * (m : Int) := by omega
  have o5 : ((b : Int) - 1) * (m : Int) ≤ 4294967296 := by omega
  have hbm : b * m ≤ 131072 := by
    obtain ⟨b', rfl⟩ : ∃ b', b = b' + 1 := ⟨b - 1, by omega⟩
    rw [Nat.add_sub_cancel] at hov
    rw [Nat.add_mul, Nat.one_mul]
    omega
  have hbm0 : 0 < b * m := Nat.mul_pos (by omega) (by omega)
  have HBD := Lib.hid (fun (a : Nat) (ha : a ≤ m) => pow_bound HG.out.2.1 hbm ha (by have := HG.out.2.2; omega) hbm0)
  have hm6 : m < 70000 := by omega
  clear hov e1 hbm hbm0
  go_wp2_with fail
  refine (nof_any 1 (by omega) _).mono ?_
  rintro e w3 ⟨A3, k3, c3, l3, rfl, q1, q2, q3, q4⟩
  have HQ := Lib.hid (And.intro q1 (And.intro q2 (And.intro q3 q4))); clear q1 q2 q3 q4
  clear t1 t2 t3 o4 o5
  go_wp2_with fail
  refine (Try.bits_Len (m : Int) _ (by omega) (by omega)).mono ?_
  rintro e w3 ⟨rfl, rfl⟩
  rw [Int.toNat_natCast]
  obtain ⟨s1, s2, s3⟩ := bitLen_spec 17 m (by omega) (by omega) (by omega)
  have s4 : Lib.bitLen m ≤ 17 := by
    rcases Nat.lt_or_ge 17 (Lib.bitLen m) with h | h
    · have := two_pow_le (show 17 ≤ Lib.bitLen m - 1 by omega); omega
    · exact h
  have HS3 := Lib.hid s3
  generalize Lib.bitLen m = t at *
  clear s2 s3
  go_wp2_with fail
  go_loopw [7, 8] (fun ov iv wr => ∃ (i k' c' : Nat) (A' : Option Addr), i ≤ t ∧ ov = .slice A' k' c' ∧ iv = .int .i64 ((i : Int) - 1) ∧ Hid (k' ≤ c' ∧ Below w.heap.size w wr ∧ ∃ l', Es wr wr.heap.size A' k' l' ∧ Nrm 4294967296 l' (N ^ (m / 2 ^ i)))) (fun _ iv _ => (intOf iv + 1).toNat)
  case atStart =>
    refine ⟨t, k3, c3, A3, Nat.le_refl _, rfl, rfl, Lib.hid ⟨HQ.out.1, HQ.out.2.2.2, l3, HQ.out.2.1, ?_⟩⟩
    rw [Nat.div_eq_of_lt HS3.out, Nat.pow_zero]; exact HQ.out.2.2.1
  case round =>
    obtain ⟨i, k', c', A', hi, rfl, rfl, HJ⟩ := hrel
    by_cases hi0 : 0 < i
    · obtain ⟨i, rfl⟩ : ∃ j, i = j + 1 := ⟨i - 1, by omega⟩
      have i0 : ((i + 1 : Nat) : Int) - 1 = (i : Int) := by omega
      rw [i0]
      obtain ⟨hkc, hBl, l', hE, hN'⟩ := HJ.out
      have hk4 : k' ≤ 4096 := by
        rw [hE.len, ← capE_eq]
        exact len_of_pow (e := 32) rfl hN' (HBD.out _ (Nat.div_le_self _ _))
      have HE := Lib.hid (And.intro hE (And.intro hN' hBl)); clear hE hN' hBl HJ
      go_wp2_with fail
      refine (mul_any A' l' k' c' hkc A' l' k' c' hkc _ HE.out.1 HE.out.1 (by omega) (by omega)).mono ?_
      rintro e w4 ⟨A4, k4, c4, l4, rfl, hk4c, hE4, hN4, hb4⟩
      rw [HE.out.2.1.1, pow_sq] at hN4
      have hB4 := bthen HE.out.2.2 hb4 HE.out.2.2.size
      have hA4 := (H1.out.new HE.out.2.2).new hb4
      have hst := half_step m i
      have hk44 : k4 ≤ 4096 := by
        rw [hE4.len, ← capE_eq]
        exact len_of_pow (e := 32) rfl hN4 (HBD.out _ (by have := Nat.div_le_self m (2 ^ i); omega))
      have hmi : m / 2 ^ i ≤ m := Nat.div_le_self _ _
      have ht := and_one_i64 (m / 2 ^ i) (by omega)
      rw [Int.natCast_ediv, cast_pow2] at ht
      have H4 := Lib.hid (And.intro hE4 (And.intro hN4 (And.intro hB4 (And.intro hA4 hst)))); clear hE4 hN4 hB4 hA4 hst hb4 hmi
      by_cases hodd : m / 2 ^ i % 2 = 1
      · have tb : (bits .and .i64 ((m : Int) / 2 ^ i) 1 == 1) = true := by rw [ht, hodd]; rfl
        have HODD := Lib.hid hodd; clear hodd ht
        go_wp2_with fail
        refine (mul_any A4 l4 k4 c4 hk4c A l k k (Nat.le_refl _) _ H4.out.1 H4.out.2.2.2.1 (by omega) (by omega)).mono ?_
        rintro e w5 ⟨A5, k5, c5, l5, rfl, hk5c, hE5, hN5, hb5⟩
        rw [H4.out.2.1.1, N1.out.1, ← Nat.pow_succ] at hN5
        have H5 := Lib.hid (And.intro hk5c (And.intro hE5 (And.intro hN5 (bthen H4.out.2.2.1 hb5 H4.out.2.2.1.size)))); clear hk5c hE5 hN5 hb5
        go_wp2_with fail
        refine ⟨⟨i, k5, c5, A5, by omega, rfl, rfl, Lib.hid ⟨H5.out.1, H5.out.2.2.2, l5, H5.out.2.1, ?_⟩⟩, by simp [intOf]⟩
        have h1 := H4.out.2.2.2.2
        rw [HODD.out] at h1
        rw [h1]; exact H5.out.2.2.1
      · have hz : m / 2 ^ i % 2 = 0 := by omega
        have tb : (bits .and .i64 ((m : Int) / 2 ^ i) 1 == 1) = false := by rw [ht, hz]; rfl
        have HODD := Lib.hid hz; clear hodd hz ht
        go_wp2_with fail
        refine ⟨⟨i, k4, c4, A4, by omega, rfl, rfl, Lib.hid ⟨hk4c, H4.out.2.2.1, l4, H4.out.1, ?_⟩⟩, by simp [intOf]⟩
        have h1 := H4.out.2.2.2.2
        rw [HODD.out, Nat.add_zero] at h1
        rw [h1]; exact H4.out.2.1
    · obtain rfl : i = 0 := by omega
      obtain ⟨hkc, hBl, l', hE, hN'⟩ := HJ.out
      rw [Nat.pow_zero, Nat.div_one] at hN'
      have hk4 : k' ≤ 4096 := by
        rw [hE.len, ← capE_eq]
        exact len_of_pow (e := 32) rfl hN' (HBD.out _ (Nat.le_refl _))
      have HE := Lib.hid (And.intro hE (And.intro hN' hBl)); clear hE hN' hBl HJ
      go_wp2_with fail
      refine (bits_any A' l' k' c' hkc _ HE.out.1 (by omega)).mono ?_
      rintro e w4 ⟨b4, rfl, hb4, hb4l, rfl⟩
      rw [HE.out.2.1.1] at hb4
      have HB4 := Lib.hid (bits_big hb4); clear hb4
      by_cases hbig : 65536 < b4
      · have t1 : decide ((65536 : Int) < (b4 : Int)) = true := by simp; omega
        have HBIG := Lib.hid (HB4.out.1 hbig); clear hbig
        go_wp2_with fail
        go_ret2
        exact ⟨fun h => by omega, fun _ h => absurd (Nat.lt_of_lt_of_le h (by rw [Int.toNat_natCast]; exact HBIG.out)) (Nat.lt_irrefl _), fun _ _ => ⟨rfl, HE.out.2.2⟩⟩
      · have t1 : decide ((65536 : Int) < (b4 : Int)) = false := by simp; omega
        have HBIG := Lib.hid (fun h => hbig (HB4.out.2 h)); clear hbig
        go_wp2_with fail
        go_ret2
        refine ⟨fun h => by omega, fun _ _ => ⟨A', k', c', l', rfl, hkc, hk4, HE.out.1, ?_, HE.out.2.2⟩, fun _ h => ?_⟩
        · rw [Int.toNat_natCast]; exact HE.out.2.1
        · rw [Int.toNat_natCast] at h; exact absurd h HBIG.out

end Go.Proofs.Ytpnklmgfdihjfaa
namespace Go.Proofs.Ytpnklmgfdihjfaa
open Go.RowKit
section
variable {w : World} {A B : Option Addr} {n c m d a b N M : Nat}
def RetPowN (w : World) (N : Nat) (n : Int) (e : Ending) (w' : World) : Prop :=
  (n < 0 → e = .returned (.tuple #[.slice none 0 0, .int .i64 3]) ∧ Below w.heap.size w w') ∧
  (0 ≤ n → N ^ n.toNat < bigP → ∃ A k c, e = .returned (.tuple #[.slice A k c, .int .i64 0]) ∧ Num w' A k c 4096 (N ^ n.toNat) ∧ Norm w' A k (N ^ n.toNat) ∧ Below w.heap.size w w') ∧
  (0 ≤ n → bigP ≤ N ^ n.toNat → e = .returned (.tuple #[.slice none 0 0, .int .i64 20]) ∧ Below w.heap.size w w')
theorem pow_n (ha : Num w A n c a N) (x : Int) (hx : -9223372036854775808 ≤ x ∧ x ≤ 9223372036854775807) : Calls Try.prog 78 #[.slice A n c, .int .i64 x] w (RetPowN w N x) := by
  obtain ⟨a1, a2, a3, a4, l, a5, rfl⟩ := ha
  refine (pow_any A l n c a1 w a5 (by omega) x hx).mono fun _ _ h => ⟨h.1, fun h0 hlt => ?_, h.2.2⟩
  obtain ⟨A', k', c', l', h1, h2, h2', h3, h4, h5⟩ := h.2.1 h0 hlt
  have hk := h3.len
  refine ⟨A', k', c', h1, ⟨h2, by omega, by omega, ?_, l', h3, h4.1⟩, ⟨l', h3, h4⟩, h5⟩
  have := h4.lt
  exact Nat.lt_of_lt_of_le this (PB_mono (by omega))
end
end Go.Proofs.Ytpnklmgfdihjfaa
namespace Go.Proofs.Ytpnklmgfdihjfaa
open Go.RowKit

end Go.Proofs.Ytpnklmgfdihjfaa
namespace Go.Proofs.Ytpnklmgfdihjfaa
open Go.RowKit

section
variable (A B C : Option Addr) (n m k c d f : Nat) (w : World)
end

end Go.Proofs.Ytpnklmgfdihjfaa
namespace Go.Proofs.Ytpnklmgfdihjfaa
open Go.RowKit

def RetPN (w : World) (N : Nat) (e : Ending) (w' : World) : Prop := ∃ A k c, e = .returned (.tuple #[.slice A k c, .int .i64 0]) ∧ Num w' A k c 4096 N ∧ Below w.heap.size w w'
section
variable {w : World} {A : Option Addr} {n c N b : Nat}
theorem pow_fits (ha : Num w A n c b N) (x : Nat) (hx : x ≤ 100000) (h : N ^ x < bigP) (X : Int) (hX : X = x) : Calls Try.prog 78 #[.slice A n c, .int .i64 X] w (RetPN w (N ^ x)) := by
  refine (pow_n ha X (by omega)).mono fun e w' hp => ?_
  have hX' : X.toNat = x := by omega
  obtain ⟨A', k', c', h1, h2, -, h3⟩ := hp.2.1 (by omega) (by rw [hX']; exact h)
  rw [hX'] at h2
  exact ⟨A', k', c', h1, h2, h3⟩
end

section
variable (A : Option Addr) (n c : Nat) (w : World)
end

end Go.Proofs.Ytpnklmgfdihjfaa
namespace Go.Proofs.Ytpnklmgfdihjfaa
open Go.RowKit
set_option linter.unusedVariables false
set_option linter.unusedSimpArgs false

theorem fldR2 (x y z : Value) (W : World) : (Instr.field 31 (.agg #[x, y, z]) 2).run Try.prog W = .ok z W := by kernel_rfl
theorem fldR1 (x y z : Value) (W : World) : (Instr.field 31 (.agg #[x, y, z]) 1).run Try.prog W = .ok y W := by kernel_rfl
theorem Xs.grownX {w w' : World} {B n : Nat} {A : Option Addr} {xs : List Int} (h : Xs w B A n xs) {row : Option Nat} (hg : w.grownBy w' row) (hB : B ≤ w.heap.size) (hr : ∀ g, row = some g → B ≤ g) : Xs w' B A n xs := ⟨h.1.grown hg hB hr, h.2⟩
/-- DivMod's answer with the quotient N. -/
def DmV (b N : Nat) (v : Value) (w : World) : Prop := ∃ (A : Option Addr) (k c : Nat) (u : Value), v = .tuple #[.slice A k c, u, .int .i64 0] ∧ Num w A k c b N
theorem DmV.new {b N : Nat} {v : Value} {w w' : World} (h : DmV b N v w) (hb : Below w.heap.size w w') : DmV b N v w' := by
  obtain ⟨A, k, c, u, h1, h2⟩ := h
  exact ⟨A, k, c, u, h1, h2.new hb⟩
/-- An answer of power: a number and no error. -/
def PwV (b N : Nat) (v : Value) (w : World) : Prop := ∃ (A : Option Addr) (k c : Nat), v = .tuple #[.slice A k c, .int .i64 0] ∧ Num w A k c b N
theorem PwV.new {b N : Nat} {v : Value} {w w' : World} (h : PwV b N v w) (hb : Below w.heap.size w w') : PwV b N v w' := by
  obtain ⟨A, k, c, h1, h2⟩ := h
  exact ⟨A, k, c, h1, h2.new hb⟩
section
variable {w : World} {a b N M : Nat} {u v : Value}
theorem quo_nv (h : Nv a N u w) (h' : Nv b M v w) (hM : M ≠ 0) (ha : a ≤ 10000) (hb : b ≤ 10000) : Calls Try.prog 75 #[u, v] w (RV w (DmV a (N / M))) := by
  obtain ⟨A, k, c, rfl, h⟩ := h
  obtain ⟨B, m, d, rfl, h'⟩ := h'
  refine (dm_n h h' ha hb).mono ?_
  rintro e w2 ⟨-, h2⟩
  obtain ⟨A3, k3, c3, A14, k4, c4, rfl, ⟨h3, -⟩, -, hb⟩ := h2 hM
  exact ⟨_, rfl, ⟨A3, k3, c3, _, rfl, h3⟩, hb⟩
theorem gcd_nv (h : Nv a N u w) (h' : Nv b M v w) (hab : a + b ≤ 10000) : Calls Try.prog 77 #[u, v] w (RV w (Nv (a + b) (Nat.gcd N M))) := by
  obtain ⟨A, k, c, rfl, h⟩ := h
  obtain ⟨B, m, d, rfl, h'⟩ := h'
  refine (cvdivisor_any h h' hab).mono ?_
  rintro e w2 ⟨A3, k3, c3, rfl, h3, hb⟩
  exact ⟨_, rfl, ⟨A3, k3, c3, rfl, h3⟩, hb⟩
theorem pow_nv (h : Nv a N u w) (h' : Nv b M v w) (hM : M ≤ 100000) (hf : N ^ M < bigP) : Calls Try.prog 43 #[u, v] w (RV w (PwV 4096 (N ^ M))) := by
  obtain ⟨A, k, c, rfl, h⟩ := h
  obtain ⟨B, m, d, rfl, h'⟩ := h'
  refine power_ok h h' (by omega) _ ((pow_fits h M hM hf _ rfl).mono ?_)
  rintro e w2 ⟨A3, k3, c3, rfl, h3, hb⟩
  exact ⟨_, _, rfl, _, rfl, ⟨A3, k3, c3, rfl, h3⟩, hb⟩
variable {o : Oper} {a' : Act} {t : Tmp} {x : Rat}
theorem load_nv {g : Nat} {A : Option Addr} {k c : Nat} (ho : o.op = .load 29 (.tmp t)) (hx : tv a' t = .pointer (some ⟨g, 0, none⟩)) (hb : Blk w g 29 #[.slice A k c]) (hn : Num w A k c b N) : gives Try.prog o a'.eval w (fun v w' => Nv b N v w' ∧ Below w.heap.size w w') :=
  gives_mono (load_nat ho hx (Blk.at0 hb (Below.refl _ _))) fun v w' ⟨e, hb⟩ => ⟨⟨A, k, c, e, hn.new hb⟩, hb⟩
theorem ext_dm (ho : o.op = .extract (.tmp t) 0) (h : DmV b N (tv a' t) w) : gives Try.prog o a'.eval w (fun v w' => Nv b N v w' ∧ Below w.heap.size w w') := by
  obtain ⟨A, k, c, u, h1, h2⟩ := h
  refine gives_val (.slice A k c) ?_ ⟨⟨A, k, c, rfl, h2⟩, Below.refl _ _⟩
  unfold execOp
  rw [ho]
  simp only [eval_tmp, h1]
  go_simp
theorem ext_dm1 (ho : o.op = .extract (.tmp t) 1) (h : DmV b N (tv a' t) w) : gives Try.prog o a'.eval w (fun v w' => True ∧ Below w.heap.size w w') := by
  obtain ⟨A, k, c, u, h1, h2⟩ := h
  refine gives_val u ?_ ⟨trivial, Below.refl _ _⟩
  unfold execOp
  rw [ho]
  simp only [eval_tmp, h1]
  go_simp
theorem ext_dm2 (ho : o.op = .extract (.tmp t) 2) (h : DmV b N (tv a' t) w) : gives Try.prog o a'.eval w (fun v w' => True ∧ Below w.heap.size w w') := by
  obtain ⟨A, k, c, u, h1, h2⟩ := h
  refine gives_val (.int .i64 0) ?_ ⟨trivial, Below.refl _ _⟩
  unfold execOp
  rw [ho]
  simp only [eval_tmp, h1]
  go_simp
theorem ext_pw (ho : o.op = .extract (.tmp t) 0) (h : PwV b N (tv a' t) w) : gives Try.prog o a'.eval w (fun v w' => Nv b N v w' ∧ Below w.heap.size w w') := by
  obtain ⟨A, k, c, h1, h2⟩ := h
  refine gives_val (.slice A k c) ?_ ⟨⟨A, k, c, rfl, h2⟩, Below.refl _ _⟩
  unfold execOp
  rw [ho]
  simp only [eval_tmp, h1]
  go_simp
theorem ext_pw1 (ho : o.op = .extract (.tmp t) 1) (h : PwV b N (tv a' t) w) : gives Try.prog o a'.eval w (fun v w' => v = .int .i64 0 ∧ Below w.heap.size w w') := by
  obtain ⟨A, k, c, h1, h2⟩ := h
  refine gives_val (.int .i64 0) ?_ ⟨rfl, Below.refl _ _⟩
  unfold execOp
  rw [ho]
  simp only [eval_tmp, h1]
  go_simp
theorem fld_num (ho : o.op = .field 31 (.tmp t) 1) (h : Rv b x (tv a' t) w) : gives Try.prog o a'.eval w (fun v w' => Nv b x.num.natAbs v w' ∧ Below w.heap.size w w') := by
  obtain ⟨s, A, n, c, B, m, d, h1, h2⟩ := h
  refine gives_val (.slice A n c) ?_ ⟨⟨A, n, c, rfl, h2.2.1.1⟩, Below.refl _ _⟩
  unfold execOp
  rw [ho]
  simp only [eval_tmp, h1, Sem.run_bind, fldR1, Result.andThen_ok]
  rfl
end

end Go.Proofs.Ytpnklmgfdihjfaa
namespace Go.Proofs.Ytpnklmgfdihjfaa
open Go.RowKit
set_option linter.unusedVariables false
set_option linter.unusedSimpArgs false

theorem sign_eq9 {x : Rat} : (x.num.sign == 0) = decide (x = 0) := by
  have e : x.num = 0 ↔ x = 0 := ⟨fun h => Rat.num_eq_zero.1 h, fun h => by rw [h]; rfl⟩
  by_cases h : x = 0
  · rw [decide_eq_true h, e.2 h]; rfl
  · have h2 : x.num ≠ 0 := fun h3 => h (e.1 h3)
    rw [decide_eq_false h]
    simpa [Int.sign_eq_zero_iff_zero] using h2
theorem rcq_eq9 {x y : Rat} : (rcq x y == 0) = decide (x = y) := by
  by_cases h : x = y
  · rw [decide_eq_true h, rcq_eq h]; rfl
  · rw [decide_eq_false h]; unfold rcq
    split
    · rfl
    · rename_i h1
      split
      · rfl
      · rename_i h2; exact absurd (Rat.le_antisymm (Rat.not_lt.1 h2) (Rat.not_lt.1 h1)) h
end Go.Proofs.Ytpnklmgfdihjfaa
namespace Go.Proofs.Ytpnklmgfdihjfaa
open Go.RowKit
set_option linter.unusedVariables false
set_option linter.unusedSimpArgs false

theorem wp_app_int9 {o : Oper} {a : Act} {w : World} {K : Act → World → Prop} {Q : Exit → Act → World → Prop} (s x : Operand) (ho : o.op = .call { callee := .builtin .append, args := #[s, x], argTypes := #[45, 45] })
    (base : Nat) (v : Value) (n : Nat) (xs : List Value) (hs : a.eval s = v) (hown : OwnC w base 3 1 v n xs) (g : Nat) (y : Int) (hx : a.eval x = .slice (some ⟨g, 0, none⟩) 1 1) (hb : Blk w g 3 #[.int .i64 y])
    (hk : n ≤ 1100000) (hbase : base ≤ w.heap.size)
    (h : ∀ v' w', OwnC w' base 3 1 v' (n + 1) (xs ++ [.int .i64 y]) → w.grownBy w' v.ownBlock → (v'.ownBlock = v.ownBlock ∨ v'.ownBlock = some w.heap.size) → KeepsN w w' → K (a.put o.dst v') w') : o.wp Try.prog a w K Q := by
  obtain ⟨i, hi, hz, hs1, hby⟩ := info_parts info_int
  have hr : Reads w w.heap.size 1 (some ⟨g, 0, none⟩) 1 [.int .i64 y] := ⟨rfl, fun _ => ⟨_, rfl, hb.lt, fun j u hu => by
    rw [addr_zero, hb.cell]; simpa using hu⟩⟩
  refine wp_append_clean s x 45 ho base 3 i _ 1 8 Try.underlying45 hi hz hs1 hby rfl (by omega) (by intro u hu z hz'; simp [Value.cells] at hu; subst hu; cases hz') v n xs hs hown w.heap.size _ 1 1 _ hx hr (by simp; rfl) (by intro u hu z hz'; simp at hu; subst hu; cases hz') (by simp only [maxLen]; omega) (by omega) hbase h
theorem wp_push_rat9 {o : Oper} {a : Act} {w : World} {K : Act → World → Prop} {Q : Exit → Act → World → Prop} (s x : Operand) (ho : o.op = .call { callee := .builtin .append, args := #[s, x], argTypes := #[28, 28] })
    (base : Nat) (v : Value) (n : Nat) (P : Nat → Value → Prop) (hs : a.eval s = v) (hown : OR w base v n P) (B : Nat) (A : Option Addr) (c : Nat) (P1 : Nat → Value → Prop) (hx : a.eval x = .slice A 1 c) (hr : Rs w B A 1 P1)
    (hk : n ≤ 1100000) (hbase : base ≤ w.heap.size)
    (h : ∀ v' w', (∀ R : Nat → Value → Prop, (∀ j u, j < n → P j u → R j u) → (∀ u, P1 0 u → R n u) → OR w' base v' (n + 1) R) → w.grownBy w' v.ownBlock → (v'.ownBlock = v.ownBlock ∨ v'.ownBlock = some w.heap.size) → KeepsN w w' → K (a.put o.dst v') w') : o.wp Try.prog a w K Q := by
  obtain ⟨i, hi, hz, hs1, hby⟩ := info_parts info_rat
  obtain ⟨xs, h1, h2⟩ := hown
  obtain ⟨ys, hr, hl⟩ := hr
  refine wp_append_clean s x 28 ho base 31 i _ 3 56 Try.underlying28 hi hz hs1 hby rfl (by omega) (by intro u hu z hz'; simp [Value.cells] at hu; rcases hu with rfl | rfl <;> cases hz') v n xs hs h1 B A 1 c ys hx hr (fun u hu => (hl.cl u hu).2) (fun u hu => (hl.cl u hu).1) (by simp only [maxLen]; omega) (by omega) hbase ?_
  intro v' w' g1 g2 g3 g4
  refine h v' w' (fun R hR hn => ⟨_, g1, ?_⟩) g2 g3 g4
  obtain ⟨s, A, k, c, B, m, d, q0, q1, q2, q3⟩ := hl.2 0 (by omega)
  have hlen := hl.1
  match ys, hlen, q0, q1, q2 with
  | [y0, y1, y2], _, q0, q1, q2 =>
    simp at q0 q1 q2
    subst q0; subst q1; subst q2
    exact (h2.mono hR).app (hn _ q3)
/-- A slice of small integers. -/
def Ks (k : IntKind) (m : Int) (w : World) (B : Nat) (A : Option Addr) (n : Nat) (xs : List Int) : Prop := Reads w B 1 A n (xs.map (Value.int k)) ∧ (n = xs.length ∧ n ≤ 9223372036854775807) ∧ ∀ x ∈ xs, -m ≤ x ∧ x < m
section
variable {k : IntKind} {m : Int} {w w' : World} {B B' n i : Nat} {A : Option Addr} {xs : List Int}
theorem Ks.lt (h : Ks k m w B A n xs) (hi : i < n) : -m ≤ inth xs i ∧ inth xs i < m := h.2.2 _ (inth_mem (by rw [← h.2.1.1]; exact hi))
theorem Ks.at_ (h : Ks k m w B A n xs) (hi : i < n) : ∃ ad, A = some ad ∧ ad.block < B ∧ w.cell? (ad.add i) = some (.int k (inth xs i)) := by
  obtain ⟨ad, h1, h2, h3⟩ := h.1.2 (by omega)
  have hl : i < xs.length := by rw [← h.2.1.1]; exact hi
  exact ⟨ad, h1, h2, h3 i _ (by rw [List.getElem?_map, List.getElem?_eq_getElem hl]; simp [inth, List.getD, hl])⟩
theorem Ks.below (h : Ks k m w B A n xs) (hb : Below B w w') : Ks k m w' B A n xs := ⟨h.1.below hb, h.2⟩
theorem Ks.more (h : Ks k m w B A n xs) (hB : B ≤ B') : Ks k m w B' A n xs := ⟨h.1.more hB, h.2⟩
end
theorem I64_take {xs : List Int} {i : Nat} (h : i < xs.length) : I64 (xs.take (i + 1)) = I64 (xs.take i) ++ [.int .i64 (inth xs i)] := by
  rw [List.take_add_one]
  unfold I64 inth
  rw [List.map_append]
  simp [List.getD, h]
theorem conv_i8n {o : Oper} {a : Act} {w : World} {t : Tmp} {z : Int} (hz : -128 ≤ z ∧ z < 128) (ho : o.op = .convert 41 3 (.tmp t)) (hx : tv a t = .int .i8 z) : gives Try.prog o a.eval w (fun v w' => v = .int .i64 z ∧ Below w.heap.size w w') := by
  have e : IntKind.i64.wrap z = z := IntWalk.i64_in _ (by omega)
  refine gives_val (.int .i64 z) ?_ ⟨rfl, Below.refl _ _⟩
  unfold execOp; rw [ho]; simp only [eval_tmp, hx]
  go_simp
theorem conv_i8l {o : Oper} {a : Act} {w : World} {t : Tmp} {z : Int} (hz : -128 ≤ z ∧ z < 128) (ho : o.op = .convert 41 2 (.tmp t)) (hx : tv a t = .int .i8 z) : gives Try.prog o a.eval w (fun v w' => v = .int .i64 z ∧ Below w.heap.size w w') := by
  have e : IntKind.i64.wrap z = z := IntWalk.i64_in _ (by omega)
  refine gives_val (.int .i64 z) ?_ ⟨rfl, Below.refl _ _⟩
  unfold execOp; rw [ho]; simp only [eval_tmp, hx]
  go_simp
theorem load_i8n {o : Oper} {a : Act} {w : World} {t : Tmp} {p : Addr} {v : Value} (ho : o.op = .load 41 (.tmp t)) (hx : tv a t = .pointer (some p)) (hc : w.cell? p = some v) : gives Try.prog o a.eval w (fun z w' => z = v ∧ Below w.heap.size w w') := by
  refine gives_val v ?_ ⟨rfl, Below.refl _ _⟩
  unfold execOp; rw [ho]; simp only [eval_tmp, hx]; go_simp
theorem fld_gus {o : Oper} {a : Act} {w : World} {t : Tmp} {g k : Nat} (ho : o.op = .fieldAddr 43 (.tmp t) k) (hk : k < 4) (h : tv a t = .pointer (some ⟨g, 0, none⟩)) : gives Try.prog o a.eval w (fun v w' => v = .pointer (some ⟨g, k, none⟩) ∧ Below w.heap.size w w') := by
  refine gives_val (.pointer (some ⟨g, k, none⟩)) ?_ ⟨rfl, Below.refl _ _⟩
  have : k = 0 ∨ k = 1 ∨ k = 2 ∨ k = 3 := by omega
  rcases this with rfl | rfl | rfl | rfl <;> (unfold execOp; rw [ho]; simp only [eval_tmp, h]; go_simp)
theorem store_cv2 {o : Oper} {a : Act} {w : World} {t u : Tmp} {g : Nat} {p0 p1 v0 v1 v2 u0 u1 u2 : Value} {K : Act → World → Prop} {Q : Exit → Act → World → Prop} (ho : o.op = .store 31 (.tmp t) (.tmp u)) (hd : o.dst = none) (ht : a.eval (.tmp t) = .pointer (some ⟨g, 2, none⟩)) (hu : a.eval (.tmp u) = .agg #[u0, u1, u2])
    (hr : Blk w g 33 #[p0, p1, v0, v1, v2]) (hcl : ∀ u ∈ [v0, v1, v2], ∀ x, u ≠ .int .u32 x) (h1 : #[u0, u1, u2].all (·.oneCell') = true)
    (next : ∀ w', KeepsN w w' → w.grownBy w' (some g) → w'.heap.size = w.heap.size → Blk w' g 33 #[p0, p1, u0, u1, u2] → K a w') : o.wp Try.prog a w K Q := by
  refine wp_store_mid 31 (.tmp t) (.tmp u) ho g 2 #[u0, u1, u2] ht hu (fun i hi => ⟨?_, hr.frozen _⟩) (by kernel_rfl) h1 ?_
  · rw [hr.cell]
    have hi7 : 2 + i < 5 := by have : i < 3 := by simpa using hi
                               omega
    rw [Array.getElem?_eq_getElem hi7]; rfl
  · rw [hd]
    have b0 : Blk (w.setCell ⟨g, 2, none⟩ u0) g 33 #[p0, p1, u0, v1, v2] := hr.set_ 2 u0
    have b1 : Blk ((w.setCell ⟨g, 2, none⟩ u0).setCell ⟨g, 3, none⟩ u1) g 33 #[p0, p1, u0, u1, v2] := b0.set_ 3 u1
    have b2 : Blk (((w.setCell ⟨g, 2, none⟩ u0).setCell ⟨g, 3, none⟩ u1).setCell ⟨g, 4, none⟩ u2) g 33 #[p0, p1, u0, u1, u2] := b1.set_ 4 u2
    refine next _ ?_ ?_ ?_ b2
    · refine KeepsN.trans (KeepsN.trans (KeepsN.blk hr (i := 2) (by show 2 < 5; omega) (fun x hx => hcl v0 (by simp) x (by simpa using hx)) u0) (KeepsN.blk b0 (i := 3) (by show 3 < 5; omega) (fun x hx => hcl v1 (by simp) x (by simpa using hx)) u1)) (KeepsN.blk b1 (i := 4) (by show 4 < 5; omega) (fun x hx => hcl v2 (by simp) x (by simpa using hx)) u2)
    · exact only_setCells [u0, u1, u2] w 2 (World.grownBy.refl w (some g))
    · show (w.setCells g 2 [u0, u1, u2]).heap.size = _
      simp [World.setCells, size_setCell]
theorem results_cell_tmp3 {P : Program} {fn : Func} {p t u x : Tmp} {ty : TypeId} (h : fn.results = #[.cell p ty, .tmp t, .tmp u, .tmp x]) (tmps : Array Value) (w : World) (g : Nat) (t' : TypeId) (cs : Array Value) (fr : Nat × Nat) (d : TypeDesc)
    (hp : tmps.getD p undef = .pointer (some ⟨g, 0, none⟩)) (hg : w.heap[g]? = some (.cells cs t' fr))
    (hu : P.underlying ty = some d) (hd : (match d with | .struct _ | .array _ _ => true | _ => false) = true) (hi : (P.info? ty).map (·.size) = some cs.size) :
    (results fn tmps).run P w = .ok (.tuple #[.agg cs, tmps.getD t undef, tmps.getD u undef, tmps.getD x undef]) w := by
  have hp' : tmps[p]?.getD undef = .pointer (some ⟨g, 0, none⟩) := by simpa using hp
  simp [results, h, hp', asAddr, run_loadVar_row w g t' ty cs fr d hg hu hd hi]
theorem apB_push {w : World} {v v' y : Value} (h : apB v.ownBlock y ∧ apB y.ownBlock v) (hor : v'.ownBlock = v.ownBlock ∨ v'.ownBlock = some w.heap.size) (hy : ∀ k, y.ownBlock = some k → k < w.heap.size) : apB v'.ownBlock y ∧ apB y.ownBlock v' := by
  rcases hor with e | e
  · unfold apB at *; rw [e]; exact h
  · unfold apB; rw [e]
    have : y.ownBlock ≠ some w.heap.size := fun h2 => by have := hy _ h2; omega
    exact ⟨.inr this, .inr fun h2 => this h2.symm⟩
/-- The memory while made runs. -/
structure MdS (w0 : World) (b0 g1 g2 g7 : Nat) (gc : Array Value) (u0 u1 : Value) (v1 : Value) (k1 : Nat) (L1 : List Value) (v2 : Value) (k2 : Nat) (F : Nat → Rat) (y1 : Value) (l1 : Nat) (M1 : List Value) (y2 : Value) (l2 : Nat) (G : Nat → Rat) (w : World) : Prop where
  gb : Blk w g1 43 gc
  rs : Blk w g2 33 #[.slice none 0 0, .slice none 0 0, .bool false, .slice none 0 0, .slice none 0 0]
  cu : Blk w g7 33 #[u0, u1, .bool false, .slice none 0 0, .slice none 0 0]
  w1 : OwnC w b0 3 1 v1 k1 L1
  w2 : OR w b0 v2 k2 (PN w 2 F)
  p1 : OwnC w b0 3 1 y1 l1 M1
  p2 : OR w b0 y2 l2 (PN w 2 G)
  n1 : apB v1.ownBlock y1 ∧ apB y1.ownBlock v1
  n2 : apB v2.ownBlock y2 ∧ apB y2.ownBlock v2
  hb : Below w0.heap.size w0 w
  lo : g1 < b0 ∧ g2 < b0 ∧ g7 < b0 ∧ w0.heap.size ≤ g7 ∧ w0.heap.size ≤ b0 ∧ g2 ≠ g7
  sz : b0 ≤ w.heap.size
section
variable {w0 : World} {b0 g1 g2 g7 : Nat} {gc : Array Value} {u0 u1 : Value} {v1 : Value} {k1 : Nat} {L1 : List Value} {v2 : Value} {k2 : Nat} {F : Nat → Rat} {y1 : Value} {l1 : Nat} {M1 : List Value} {y2 : Value} {l2 : Nat} {G : Nat → Rat} {w w' : World} {v' x : Value}
theorem MdS.below (h : MdS w0 b0 g1 g2 g7 gc u0 u1 v1 k1 L1 v2 k2 F y1 l1 M1 y2 l2 G w) (hb : Below w.heap.size w w') : MdS w0 b0 g1 g2 g7 gc u0 u1 v1 k1 L1 v2 k2 F y1 l1 M1 y2 l2 G w' :=
  ⟨h.gb.keep hb, h.rs.keep hb, h.cu.keep hb, h.w1.below hb, h.w2.newN hb, h.p1.below hb, h.p2.newN hb, h.n1, h.n2, bthen h.hb hb h.hb.size, h.lo, Nat.le_trans h.sz hb.size⟩
theorem MdS.pushW (h : MdS w0 b0 g1 g2 g7 gc u0 u1 v1 k1 L1 v2 k2 F y1 l1 M1 y2 l2 G w) (ho : OwnC w' b0 3 1 v' (k1 + 1) (L1 ++ [x])) (hgr : w.grownBy w' v1.ownBlock) (hor : v'.ownBlock = v1.ownBlock ∨ v'.ownBlock = some w.heap.size) (kp : KeepsN w w') : MdS w0 b0 g1 g2 g7 gc u0 u1 v' (k1 + 1) (L1 ++ [x]) v2 k2 F y1 l1 M1 y2 l2 G w' := by
  obtain ⟨xs2, hw2, -⟩ := h.w2
  obtain ⟨xp2, hp2, -⟩ := h.p2
  have lt : ∀ k, v1.ownBlock = some k → b0 ≤ k := fun k e => (h.w1.own.lt k e).1
  have hl := h.lo
  exact ⟨h.gb.grown hgr (fun e => by have := lt _ e.symm; omega), h.rs.grown hgr (fun e => by have := lt _ e.symm; omega), h.cu.grown hgr (fun e => by have := lt _ e.symm; omega), ho, h.w2.kept hgr (own_own_ne hw2.own h.w1.own (by decide)) (fun _ _ _ hv => PN.keep hv kp), h.p1.kept hgr h.n1.1, h.p2.kept hgr (own_own_ne hp2.own h.w1.own (by decide)) (fun _ _ _ hv => PN.keep hv kp), (apB_push h.n1 hor (fun k e => (h.p1.own.lt k e).2)), h.n2, h.hb.grown hgr h.hb.size (fun k e => by have := lt k e; omega), h.lo, Nat.le_trans h.sz hgr.size⟩
theorem MdS.pushX (h : MdS w0 b0 g1 g2 g7 gc u0 u1 v1 k1 L1 v2 k2 F y1 l1 M1 y2 l2 G w) (ho : OR w' b0 v' (k2 + 1) (PN w' 2 F)) (hgr : w.grownBy w' v2.ownBlock) (hor : v'.ownBlock = v2.ownBlock ∨ v'.ownBlock = some w.heap.size) (kp : KeepsN w w') : MdS w0 b0 g1 g2 g7 gc u0 u1 v1 k1 L1 v' (k2 + 1) F y1 l1 M1 y2 l2 G w' := by
  obtain ⟨xs2, hw2, -⟩ := h.w2
  obtain ⟨xp2, hp2, -⟩ := h.p2
  have lt : ∀ k, v2.ownBlock = some k → b0 ≤ k := fun k e => (hw2.own.lt k e).1
  have hl := h.lo
  exact ⟨h.gb.grown hgr (fun e => by have := lt _ e.symm; omega), h.rs.grown hgr (fun e => by have := lt _ e.symm; omega), h.cu.grown hgr (fun e => by have := lt _ e.symm; omega), h.w1.kept hgr (own_own_ne h.w1.own hw2.own (by decide)), ho, h.p1.kept hgr (own_own_ne h.p1.own hw2.own (by decide)), h.p2.kept hgr h.n2.1 (fun _ _ _ hv => PN.keep hv kp), h.n1, (apB_push h.n2 hor (fun k e => (hp2.own.lt k e).2)), h.hb.grown hgr h.hb.size (fun k e => by have := lt k e; omega), h.lo, Nat.le_trans h.sz hgr.size⟩
theorem MdS.pushP (h : MdS w0 b0 g1 g2 g7 gc u0 u1 v1 k1 L1 v2 k2 F y1 l1 M1 y2 l2 G w) (ho : OwnC w' b0 3 1 v' (l1 + 1) (M1 ++ [x])) (hgr : w.grownBy w' y1.ownBlock) (hor : v'.ownBlock = y1.ownBlock ∨ v'.ownBlock = some w.heap.size) (kp : KeepsN w w') : MdS w0 b0 g1 g2 g7 gc u0 u1 v1 k1 L1 v2 k2 F v' (l1 + 1) (M1 ++ [x]) y2 l2 G w' := by
  obtain ⟨xs2, hw2, -⟩ := h.w2
  obtain ⟨xp2, hp2, -⟩ := h.p2
  have lt : ∀ k, y1.ownBlock = some k → b0 ≤ k := fun k e => (h.p1.own.lt k e).1
  have hl := h.lo
  exact ⟨h.gb.grown hgr (fun e => by have := lt _ e.symm; omega), h.rs.grown hgr (fun e => by have := lt _ e.symm; omega), h.cu.grown hgr (fun e => by have := lt _ e.symm; omega), h.w1.kept hgr h.n1.2, h.w2.kept hgr (own_own_ne hw2.own h.p1.own (by decide)) (fun _ _ _ hv => PN.keep hv kp), ho, h.p2.kept hgr (own_own_ne hp2.own h.p1.own (by decide)) (fun _ _ _ hv => PN.keep hv kp), (let q := apB_push ⟨h.n1.2, h.n1.1⟩ hor (fun k e => (h.w1.own.lt k e).2); ⟨q.2, q.1⟩), h.n2, h.hb.grown hgr h.hb.size (fun k e => by have := lt k e; omega), h.lo, Nat.le_trans h.sz hgr.size⟩
theorem MdS.pushY (h : MdS w0 b0 g1 g2 g7 gc u0 u1 v1 k1 L1 v2 k2 F y1 l1 M1 y2 l2 G w) (ho : OR w' b0 v' (l2 + 1) (PN w' 2 G)) (hgr : w.grownBy w' y2.ownBlock) (hor : v'.ownBlock = y2.ownBlock ∨ v'.ownBlock = some w.heap.size) (kp : KeepsN w w') : MdS w0 b0 g1 g2 g7 gc u0 u1 v1 k1 L1 v2 k2 F y1 l1 M1 v' (l2 + 1) G w' := by
  obtain ⟨xs2, hw2, -⟩ := h.w2
  obtain ⟨xp2, hp2, -⟩ := h.p2
  have lt : ∀ k, y2.ownBlock = some k → b0 ≤ k := fun k e => (hp2.own.lt k e).1
  have hl := h.lo
  exact ⟨h.gb.grown hgr (fun e => by have := lt _ e.symm; omega), h.rs.grown hgr (fun e => by have := lt _ e.symm; omega), h.cu.grown hgr (fun e => by have := lt _ e.symm; omega), h.w1.kept hgr (own_own_ne h.w1.own hp2.own (by decide)), h.w2.kept hgr h.n2.2 (fun _ _ _ hv => PN.keep hv kp), h.p1.kept hgr (own_own_ne h.p1.own hp2.own (by decide)), ho, h.n1, (let q := apB_push ⟨h.n2.2, h.n2.1⟩ hor (fun k e => (hw2.own.lt k e).2); ⟨q.2, q.1⟩), h.hb.grown hgr h.hb.size (fun k e => by have := lt k e; omega), h.lo, Nat.le_trans h.sz hgr.size⟩
theorem MdS.set0 (h : MdS w0 b0 g1 g2 g7 gc u0 u1 v1 k1 L1 v2 k2 F y1 l1 M1 y2 l2 G w) (hu : ∀ z, u0 ≠ .int .u32 z) : MdS w0 b0 g1 g2 g7 gc x u1 v1 k1 L1 v2 k2 F y1 l1 M1 y2 l2 G (w.setCell ⟨g7, 0, none⟩ x) := by
  have gr := only_setCell (World.grownBy.refl w (some g7)) (p := ⟨g7, 0, none⟩) (.inl rfl) x
  have kp := KeepsN.blk h.cu (i := 0) (by show 0 < 5; omega) (by intro z hz; exact hu z (by simpa using hz)) x
  have hl := h.lo
  exact ⟨h.gb.grown gr (fun e => by injection e with e; exact Blk.ne_ h.gb h.cu (by decide) e), h.rs.grown gr (fun e => by injection e with e; omega), h.cu.set_ 0 x, h.w1.blk h.cu (by decide) gr, h.w2.blk h.cu (by decide) gr (fun _ _ _ hv => PN.keep hv kp), h.p1.blk h.cu (by decide) gr, h.p2.blk h.cu (by decide) gr (fun _ _ _ hv => PN.keep hv kp), h.n1, h.n2, h.hb.grown gr h.hb.size (fun k e => by cases e; omega), h.lo, Nat.le_trans h.sz gr.size⟩
theorem MdS.set1 (h : MdS w0 b0 g1 g2 g7 gc u0 u1 v1 k1 L1 v2 k2 F y1 l1 M1 y2 l2 G w) (hu : ∀ z, u1 ≠ .int .u32 z) : MdS w0 b0 g1 g2 g7 gc u0 x v1 k1 L1 v2 k2 F y1 l1 M1 y2 l2 G (w.setCell ⟨g7, 1, none⟩ x) := by
  have gr := only_setCell (World.grownBy.refl w (some g7)) (p := ⟨g7, 1, none⟩) (.inl rfl) x
  have kp := KeepsN.blk h.cu (i := 1) (by show 1 < 5; omega) (by intro z hz; exact hu z (by simpa using hz)) x
  have hl := h.lo
  exact ⟨h.gb.grown gr (fun e => by injection e with e; exact Blk.ne_ h.gb h.cu (by decide) e), h.rs.grown gr (fun e => by injection e with e; omega), h.cu.set_ 1 x, h.w1.blk h.cu (by decide) gr, h.w2.blk h.cu (by decide) gr (fun _ _ _ hv => PN.keep hv kp), h.p1.blk h.cu (by decide) gr, h.p2.blk h.cu (by decide) gr (fun _ _ _ hv => PN.keep hv kp), h.n1, h.n2, h.hb.grown gr h.hb.size (fun k e => by cases e; omega), h.lo, Nat.le_trans h.sz gr.size⟩
end

end Go.Proofs.Ytpnklmgfdihjfaa
namespace Go.Proofs.Ytpnklmgfdihjfaa
open Go.RowKit Go.ChangeShapes Go.WideShapes Go.ChangeAt Go.Joins
set_option linter.unusedVariables false

namespace bulk9
theorem one_le {H : Type} (d : DataW H) : 1 ≤ Rows.uptoBulk d := by
  cases d with
  | lit l => cases l <;> simp [Rows.uptoBulk]
  | nil => simp [Rows.uptoBulk]
  | ptr d => simp [Rows.uptoBulk]
  | slice elems spare => simp [Rows.uptoBulk]
  | agg parts => simp [Rows.uptoBulk]
  | iface t d => simp [Rows.uptoBulk]
  | map entries => simp [Rows.uptoBulk]
  | held h => simp [Rows.uptoBulk]
theorem part_le {H : Type} {d : DataW H} : ∀ {l : List (DataW H)}, d ∈ l → Rows.uptoBulk d ≤ Rows.uptoBulkAll l
  | [], h => by cases h
  | x :: r, h => by
    simp only [Rows.uptoBulkAll]
    rcases List.mem_cons.1 h with e | e
    · subst e; omega
    · have := part_le e; omega
theorem length_le {H : Type} : ∀ (l : List (DataW H)), l.length ≤ Rows.uptoBulkAll l
  | [] => by simp
  | x :: r => by have := one_le x; have := length_le r; simp only [Rows.uptoBulkAll, List.length_cons]; omega
theorem agg_at {H : Type} {d : DataW H} {l : List (DataW H)} (h : d ∈ l) : Rows.uptoBulk d ≤ Rows.uptoBulk (.agg l) := by
  have := part_le h
  simp only [Rows.uptoBulk]
  omega
theorem bound {H : Type} {l : List (DataW H)} (hk : Rows.uptoSmall H l = true) : Rows.uptoBulkAll l ≤ 1048576 := by
  simpa [Rows.uptoSmall] using hk
theorem arg {H : Type} {d : DataW H} {l : List (DataW H)} (hk : Rows.uptoSmall H l = true) (h : d ∈ l) : Rows.uptoBulk d ≤ 1048576 := Nat.le_trans (part_le h) (bound hk)
end bulk9
section
variable {H : Type} {enc : TypeId × Value → H} {P : Program} {w : World} {base : Nat} {spare : Nat → Bool} {held : Bool}
theorem open_ks {t e : TypeId} {k : IntKind} {m : Int} {fuel : Nat} {v : Value} {x : DataW H × List MemPlace} (ht : P.underlying t = some (.slice e)) (he : P.underlying e = some (.int k)) (hc : P.cellsOf e = 1) (hk : ∀ z, (Lit.int k z).wf = true → -m ≤ z ∧ z < m)
    (h : DataW.trod enc P w base spare held fuel t [v] = some x) : ∃ (A : Option Addr) (len cap : Nat) (xs : List Int), v = .slice A len cap ∧ Ks k m w w.heap.size A len xs ∧ len ≤ Rows.uptoBulk x.1 := by
  rcases open_ints ht he hc h with ⟨hcs, hx⟩ | ⟨a, len, cap, zs, hcs, _, hl, hm, hz, hx, hcell, hwz⟩
  · cases hcs
    exact ⟨none, 0, 0, [], rfl, ⟨Reads.none_, ⟨rfl, by omega⟩, by simp⟩, Nat.zero_le _⟩
  · cases hcs
    unfold maxLen at hm
    have hlz : len ≤ zs.length := by rw [hz]; split <;> omega
    have hlen : (zs.take len).length = len := by simp; omega
    refine ⟨some a, len, cap, zs.take len, rfl, ⟨⟨by rw [List.length_map, hlen]; omega, fun hn => ⟨a, rfl, ?_, fun j u hu => ?_⟩⟩, ⟨hlen.symm, by omega⟩, fun y hy => hk y (hwz y (List.mem_of_mem_take hy))⟩, ?_⟩
    · have := block_lt_of_cell (hcell 0 (by omega))
      rwa [block_of_add] at this
    · have hj : j < len := by
        have := (List.getElem?_eq_some_iff.1 hu).1
        rw [List.length_map, hlen] at this; exact this
      have hjz : j < zs.length := by omega
      rw [hcell j hjz]
      simp only [List.getElem?_map, List.getElem?_take, hj, if_true, List.getElem?_eq_getElem hjz, Option.map_some] at hu
      rw [← Option.some.inj hu]
      simp only [List.getD, List.getElem?_eq_getElem hjz, Option.getD_some]
    · rw [hx]
      have h1 := bulk9.length_le (H := H) (lits k (zs.take len))
      have h2 : (lits (H := H) k (zs.take len)).length = len := by unfold lits; simp; omega
      simp only [Rows.uptoBulk]
      omega
end
set_option maxRecDepth 100000 in
theorem open_guess {H : Type} {enc : TypeId × Value → H} {w : World} {base : Nat} {spare : Nat → Bool} {held : Bool} {r : Reach} {b0 : Nat} {v : Value} {d : DataW H} {p : List MemPlace} {l : List (DataW H)} (hv : Value.okWide Try.prog w r b0 43 v) (h : DataW.Trod enc Try.prog w base spare held 43 v d p)
    (hk : Rows.uptoSmall H l = true) (hm : d ∈ l) : ∃ (D a bn ca cb : Nat) (AX AY : Option Addr) (xs ys : List Int) (vN : Int), v = .agg #[.int .u8 (D : Int), .slice AX a ca, .slice AY bn cb, .int .i8 vN] ∧ D ≤ 255 ∧ Ks .i8 128 w w.heap.size AX a xs ∧ Ks .i8 128 w w.heap.size AY bn ys ∧ (-128 ≤ vN ∧ vN < 128) ∧ a ≤ 1048576 ∧ bn ≤ 1048576 := by
  obtain ⟨a0, a1, a2, a3, y0, y1, y2, y3, m, rfl, hd, -, e0, e1, e2, e3⟩ := open_agg4 Try.underlying43 (by kernel_rfl) (by kernel_rfl) hv h
  obtain ⟨z, f0, -, w0⟩ := DataW.trod_int Try.underlying5 e0
  obtain ⟨n, f3, -, w3⟩ := DataW.trod_int Try.underlying41 e3
  simp only [List.cons.injEq, and_true] at f0 f3
  subst f0; subst f3
  have b0 := bounds_u8 w0; have b3 := bounds_i8 w3
  obtain ⟨AX, a, ca, xs, rfl, hX, hA⟩ := open_ks (m := 128) Try.underlying40 Try.underlying41 (by kernel_rfl) (fun z hz => by have := bounds_i8 hz; omega) e1
  obtain ⟨AY, bn, cb, ys, rfl, hY, hB⟩ := open_ks (m := 128) Try.underlying40 Try.underlying41 (by kernel_rfl) (fun z hz => by have := bounds_i8 hz; omega) e2
  have hb := bulk9.arg hk hm
  have b1 := bulk9.agg_at (d := y1.1) (l := [y0.1, y1.1, y2.1, y3.1]) (by simp)
  have b2 := bulk9.agg_at (d := y2.1) (l := [y0.1, y1.1, y2.1, y3.1]) (by simp)
  rw [← hd] at b1 b2
  refine ⟨z.toNat, a, bn, ca, cb, AX, AY, xs, ys, n, ?_, by omega, hX, hY, by omega, by omega, by omega⟩
  rw [Int.toNat_of_nonneg b0.1]
end Go.Proofs.Ytpnklmgfdihjfaa
namespace Go.Proofs.Ytpnklmgfdihjfaa
open Go.RowKit
set_option linter.unusedVariables false
set_option linter.unusedSimpArgs false

set_option maxRecDepth 100000 in
set_option maxHeartbeats 8000000 in
theorem cvof_any (n : Int) (s len ce : Nat) (AE : Option Addr) (es : List Nat) (w : World) (hE : Es w w.heap.size AE len es) (hs : s < 4294967296) (hgr : checkCode n es = 0 → n ≤ 6 ∧ len ≤ 7) :
    Calls Try.prog 11 #[.agg #[.int .i64 n, .slice AE len ce], .int .u32 (s : Int)] w (RV w (CvOfR n es len s)) := by
  have HE0 := Lib.hid hE; have HS32 := Lib.hid hs; have HGr := Lib.hid hgr; clear hE hs hgr
  go_enter Try.func11, Try.ntmps11
  go_upto_region 1 with (fail)
  have hbw := bthen (al w (.cells #[.int .i64 n, .slice AE len ce] 24)) (al _ (.cells #[.slice none 0 0, .slice none 0 0, .bool false, .slice none 0 0, .slice none 0 0] 33)) (by simp)
  have HG := Lib.hid ((Blk.new w 24 #[.int .i64 n, .slice AE len ce]).keep (al _ (.cells #[.slice none 0 0, .slice none 0 0, .bool false, .slice none 0 0, .slice none 0 0] 33)))
  have H4 := Lib.hid (Blk.new (w.alloc (.cells #[.int .i64 n, .slice AE len ce] 24)) 33 #[.slice none 0 0, .slice none 0 0, .bool false, .slice none 0 0, .slice none 0 0])
  rw [show (w.alloc (.cells #[.int .i64 n, .slice AE len ce] 24)).heap.size = w.heap.size + 1 from by simp] at H4
  have HB := Lib.hid hbw
  clear hbw
  generalize (w.alloc (.cells #[.int .i64 n, .slice AE len ce] 24)).alloc (.cells #[.slice none 0 0, .slice none 0 0, .bool false, .slice none 0 0, .slice none 0 0] 33) = w1 at *
  obtain ⟨g2, hg2⟩ : ∃ g2, g2 = w.heap.size := ⟨_, rfl⟩
  obtain ⟨g4, hg4⟩ : ∃ g4, g4 = w.heap.size + 1 := ⟨_, rfl⟩
  rw [← hg4] at H4 ⊢
  rw [← hg2] at HG ⊢
  have HGg2 := Lib.hid (show w.heap.size ≤ g2 ∧ w.heap.size ≤ g4 from by omega)
  clear hg2 hg4
  have x0 := Blk.at0 HG.out (Below.refl _ _); have x1 := Blk.at1 HG.out (Below.refl _ _)
  go_wp2_with fail
  refine (check_any n AE es len ce w1 ((HE0.out.below HB.out).more HB.out.size)).mono ?_
  rintro e w2 ⟨rfl, hb⟩
  clear x0 x1
  replace HB := Lib.hid (bthen HB.out hb HB.out.size)
  replace HG := Lib.hid (HG.out.keep hb)
  replace H4 := Lib.hid (H4.out.keep hb)
  clear hb
  by_cases hc : checkCode n es = 0
  rotate_left
  · have t0 : (checkCode n es != 0) = true := by simpa using hc
    go_upto_region 3 with (fail)
    refine wp_region_joins (kss := [[], []]) [(6, .int .i64 ((checkCode n es)))] [EV (.agg #[.slice none 0 0, .slice none 0 0, .bool false, .slice none 0 0, .slice none 0 0]), EV (.int .i64 ((checkCode n es)))] 2 (by kernel_rfl) ⟨rfl, trivial⟩ [false, false] ?_ ?_ ?_
    · exact ⟨eI, eI, trivial⟩
    · refine ⟨?_, ?_, trivial⟩
      · exact fun aa ww hb he hd => ob_plain rfl (gives_built0 rfl built_cov0)
      · exact fun _ _ _ he hd => ob_mv rfl rfl he.1
    intro vs wz hb hR
    have e24 : vs 0 = .agg #[.slice none 0 0, .slice none 0 0, .bool false, .slice none 0 0, .slice none 0 0] := hR 0 (by decide)
    have e25 : vs 1 = .int .i64 ((checkCode n es)) := hR 1 (by decide)
    clear hR
    simp only [putsL, Nat.zero_add, Nat.reduceAdd, List.take_succ_cons, List.take_zero, Act.put, List.setIfInBounds_toArray, List.set_cons_zero, List.set_cons_succ]
    rw [e24, e25]
    clear e24 e25
    show wpOps _ _ _ [2, 3] _ _
    refine wpOps_next rfl rfl (store_cov rfl rfl rfl rfl (H4.out.keep hb) (by simp) (by simp [Value.oneCell']) ?_)
    intro wy kp hg hsz hX
    have HXa := Lib.hid hX
    have HBa := Lib.hid ((bthen HB.out hb HB.out.size).grown hg (bthen HB.out hb HB.out.size).size (fun x hx => by cases hx; exact HGg2.out.2))
    clear kp hg hsz hX hb
    refine wpOps_next rfl rfl (wp_assign 5 (.tmp 25) rfl rfl (.int .i64 (checkCode n es)) rfl ?_)
    simp only [Act.put, List.setIfInBounds_toArray, List.set_cons_zero, List.set_cons_succ]
    unfold wpOps
    go_wp2_with fail
    refine bodyPost_ret (v := .tuple #[.agg #[.slice none 0 0, .slice none 0 0, .bool false, .slice none 0 0, .slice none 0 0], .int .i64 (checkCode n es)]) (results_cell_tmp Try.results11 _ _ _ _ _ (0, 0) _ rfl HXa.out Try.underlying33 rfl rfl) rfl ?_
    exact ⟨_, rfl, ⟨fun _ => rfl, fun h => absurd h hc, fun h => absurd h hc, fun h => absurd h hc⟩, HBa.out⟩
  rw [hc]
  obtain ⟨h0, h32, hl64, hel⟩ := checkCode_zero hc
  obtain ⟨hn6, hl7⟩ := HGr.out hc
  obtain ⟨nn, rfl⟩ : ∃ nn : Nat, n = (nn : Int) := ⟨n.toNat, by omega⟩
  have HC := Lib.hid hc; have HEl := Lib.hid hel; clear hc hel h0 h32 hl64
  have x0 := Blk.at0 HG.out (Below.refl _ _); have x1 := Blk.at1 HG.out (Below.refl _ _)
  go_wp2_with fail
  refine (vertices_any nn len ce AE (by omega) w2).mono ?_
  rintro e w3 ⟨v, rfl, rfl, hb⟩
  clear x0 x1
  replace HB := Lib.hid (bthen HB.out hb HB.out.size)
  replace HG := Lib.hid (HG.out.keep hb)
  replace H4 := Lib.hid (H4.out.keep hb)
  clear hb
  have hpow : 2 ^ nn ≤ 64 := Nat.le_trans (Nat.pow_le_pow_right (by decide) (show nn ≤ 6 by omega)) (by decide)
  obtain ⟨mk, hmk⟩ : ∃ mk, mk = 2 ^ nn - 1 := ⟨_, rfl⟩
  rw [← hmk]
  have HMk := Lib.hid hmk
  have eand := bits_andNot s mk HS32.out (by omega)
  clear hmk hpow
  by_cases hr : andn s mk = 0
  rotate_left
  · have t0 : (((andn s mk : Nat) : Int) != 0) = true := by simp; omega
    go_upto_region 5 with (fail)
    refine wp_region_joins (kss := [[]]) [] [EV (.agg #[.slice none 0 0, .slice none 0 0, .bool false, .slice none 0 0, .slice none 0 0])] 1 (by kernel_rfl) trivial [false] ?_ ?_ ?_
    · exact ⟨eI, trivial⟩
    · refine ⟨?_, trivial⟩
      · exact fun aa ww hb he hd => ob_plain rfl (gives_built0 rfl built_cov0)
    intro vs wz hb hR
    have e31 : vs 0 = .agg #[.slice none 0 0, .slice none 0 0, .bool false, .slice none 0 0, .slice none 0 0] := hR 0 (by decide)
    clear hR
    simp only [putsL, Nat.zero_add, Nat.reduceAdd, List.take_succ_cons, List.take_zero, Act.put, List.setIfInBounds_toArray, List.set_cons_zero, List.set_cons_succ]
    rw [e31]
    clear e31
    show wpOps _ _ _ [1, 2] _ _
    refine wpOps_next rfl rfl (store_cov rfl rfl rfl rfl (H4.out.keep hb) (by simp) (by simp [Value.oneCell']) ?_)
    intro wy kp hg hsz hX
    have HXa := Lib.hid hX
    have HBa := Lib.hid ((bthen HB.out hb HB.out.size).grown hg (bthen HB.out hb HB.out.size).size (fun x hx => by cases hx; exact HGg2.out.2))
    clear kp hg hsz hX hb
    refine wpOps_next rfl rfl (wp_assign 5 (.const (.int .i64 3)) rfl rfl (.int .i64 3) rfl ?_)
    simp only [Act.put, List.setIfInBounds_toArray, List.set_cons_zero, List.set_cons_succ]
    unfold wpOps
    go_wp2_with fail
    refine bodyPost_ret (v := .tuple #[.agg #[.slice none 0 0, .slice none 0 0, .bool false, .slice none 0 0, .slice none 0 0], .int .i64 3]) (results_cell_tmp Try.results11 _ _ _ _ _ (0, 0) _ rfl HXa.out Try.underlying33 rfl rfl) rfl ?_
    exact ⟨_, rfl, ⟨fun h => absurd HC.out h, fun _ _ => rfl, fun _ h => absurd (by rw [HMk.out]; simpa using h) hr, fun _ h => absurd (by rw [HMk.out]; simpa using h) hr⟩, HBa.out⟩
  rw [hr] at eand
  have HR := Lib.hid hr; clear hr
  have x0 := Blk.at0 HG.out (Below.refl _ _); have x1 := Blk.at1 HG.out (Below.refl _ _)
  have hE3 := HE0.out.below HB.out
  go_wp2_with fail
  clear x0 x1 eand hE3
  go_loopg [35, 7] len (fun g iv ov wr => ∃ i : Nat, iv = .int .i64 i ∧ ov = .int .u32 ((orE es i : Nat) : Int) ∧ i + g = len ∧ Hid (Below w3.heap.size w3 wr))
  case atStart => exact ⟨0, rfl, rfl, by omega, Lib.hid (Below.refl _ _)⟩
  case round =>
    obtain ⟨i, rfl, rfl, hil, HBl⟩ := hrel
    have hes : ∀ e ∈ es, e < 4294967296 := HE0.out.2.2
    have hlen := HE0.out.len
    by_cases hi : i < len
    · have i1 : ((i : Int) < (len : Int)) := by omega
      obtain ⟨adE, rfl, -, hcE⟩ := (HE0.out.below (bthen HB.out HBl.out HB.out.size)).at_ hi
      have eor := bits_or (orE es i) (nth es i) (orE_lt hes i (by omega)) (HE0.out.lt hi)
      clear hes hlen
      go_wp2_with fail
      go_roundg (gk - 1)
      case measure => omega
      case rel => exact ⟨i + 1, by go_num, rfl, by omega, HBl⟩
    · obtain rfl : len = i := by omega
      obtain ⟨ors, hors⟩ : ∃ ors, ors = orE es len := ⟨_, rfl⟩
      rw [← hors]
      have eand := bits_andNot s ors HS32.out (by rw [hors]; exact orE_lt hes len (by omega))
      have HOr := Lib.hid (show ors = orE es len ∧ ors < 4294967296 from ⟨hors, by rw [hors]; exact orE_lt hes len (by omega)⟩)
      clear hors hes hlen
      obtain ⟨w4, hw4⟩ : ∃ w4, w4 = wr := ⟨_, rfl⟩
      subst hw4
      have hb := HBl.out; clear HBl
      replace HB := Lib.hid (bthen HB.out hb HB.out.size)
      replace HG := Lib.hid (HG.out.keep hb)
      replace H4 := Lib.hid (H4.out.keep hb)
      clear hb
      by_cases hcv : andn s ors = 0
      rotate_left
      · have t0 : (((andn s ors : Nat) : Int) != 0) = true := by simp; omega
        go_upto_region 13 with (fail)
        refine wp_region_joins (kss := [[]]) [] [EV (.agg #[.slice none 0 0, .slice none 0 0, .bool false, .slice none 0 0, .slice none 0 0])] 1 (by kernel_rfl) trivial [false] ?_ ?_ ?_
        · exact ⟨eI, trivial⟩
        · refine ⟨?_, trivial⟩
          · exact fun aa ww hb he hd => ob_plain rfl (gives_built0 rfl built_cov0)
        intro vs wz hb hR
        have e47 : vs 0 = .agg #[.slice none 0 0, .slice none 0 0, .bool false, .slice none 0 0, .slice none 0 0] := hR 0 (by decide)
        clear hR
        simp only [putsL, Nat.zero_add, Nat.reduceAdd, List.take_succ_cons, List.take_zero, Act.put, List.setIfInBounds_toArray, List.set_cons_zero, List.set_cons_succ]
        rw [e47]
        clear e47
        show wpOps _ _ _ [1, 2] _ _
        refine wpOps_next rfl rfl (store_cov rfl rfl rfl rfl (H4.out.keep hb) (by simp) (by simp [Value.oneCell']) ?_)
        intro wy kp hg hsz hX
        have HXa := Lib.hid hX
        have HBa := Lib.hid ((bthen HB.out hb HB.out.size).grown hg (bthen HB.out hb HB.out.size).size (fun x hx => by cases hx; exact HGg2.out.2))
        clear kp hg hsz hX hb
        refine wpOps_next rfl rfl (wp_assign 5 (.const (.int .i64 9)) rfl rfl (.int .i64 9) rfl ?_)
        simp only [Act.put, List.setIfInBounds_toArray, List.set_cons_zero, List.set_cons_succ]
        unfold wpOps
        go_wp2_with fail
        refine bodyPost_ret (v := .tuple #[.agg #[.slice none 0 0, .slice none 0 0, .bool false, .slice none 0 0, .slice none 0 0], .int .i64 9]) (results_cell_tmp Try.results11 _ _ _ _ _ (0, 0) _ rfl HXa.out Try.underlying33 rfl rfl) rfl ?_
        exact ⟨_, rfl, ⟨fun h => absurd HC.out h, fun _ h => absurd (by rw [← HR.out, HMk.out]; simp) h, fun _ _ _ => rfl, fun _ _ h => absurd (by rw [HOr.out.1]; exact h) hcv⟩, HBa.out⟩
      rw [hcv] at eand
      have HCv := Lib.hid hcv; clear hcv
      have x0 := Blk.at0 HG.out (Below.refl _ _); have x1 := Blk.at1 HG.out (Below.refl _ _)
      go_wp2_with fail
      refine (packing_any nn s len ce AE es w4 ((HE0.out.below HB.out).more HB.out.size) HS32.out (by omega) (by omega)).mono ?_
      rintro e w5 ⟨v, rfl, ⟨A2, c2, DA, da, DB, db, A1, c1, AF, cf, Dr, dp, rfl, hpr, hm, hf⟩, hb⟩
      clear x0 x1 eand
      replace HB := Lib.hid (bthen HB.out hb HB.out.size)
      replace HG := Lib.hid (HG.out.keep hb)
      replace H4 := Lib.hid (H4.out.keep hb)
      clear hb
      obtain ⟨kn, hkn⟩ : ∃ kn, kn = (memL s nn).length := ⟨_, rfl⟩
      obtain ⟨kf, hkf⟩ : ∃ kf, kf = (fstL (nth es) s len).length := ⟨_, rfl⟩
      rw [← hkn, ← hkf] at hpr
      rw [← hkn] at hm
      rw [← hkf] at hf
      rw [← hkn, ← hkf]
      have HKn := Lib.hid hkn; have HKf := Lib.hid hkf
      have hk6 : kn ≤ 6 := by rw [hkn]; exact Nat.le_trans (memL_len s nn) (by omega)
      have hk7 : kf ≤ 7 := by rw [hkf]; exact Nat.le_trans (fstL_len _ _ _) (by omega)
      clear hkn hkf
      have HPr := Lib.hid hpr; have HM := Lib.hid hm; have HFi := Lib.hid hf; clear hpr hm hf
      go_upto_region 15 with (fail)
      have hbw := al w5 (.cells #[.slice A2 kn c2, .slice DA kf da, .slice DB kf db] 75)
      have HPb := Lib.hid (Blk.new w5 75 #[.slice A2 kn c2, .slice DA kf da, .slice DB kf db])
      replace HB := Lib.hid (bthen HB.out hbw HB.out.size)
      replace HG := Lib.hid (HG.out.keep hbw)
      replace H4 := Lib.hid (H4.out.keep hbw)
      replace HPr := Lib.hid (HPr.out.new hbw)
      replace HM := Lib.hid ((HM.out.below hbw).more (Below.size hbw))
      replace HFi := Lib.hid ((HFi.out.below hbw).more (Below.size hbw))
      clear hbw
      generalize w5.alloc (.cells #[.slice A2 kn c2, .slice DA kf da, .slice DB kf db] 75) = w6 at *
      obtain ⟨g10, hg10⟩ : ∃ g10, g10 = w5.heap.size := ⟨_, rfl⟩
      rw [← hg10] at HPb ⊢
      have HGg10 := Lib.hid (show w5.heap.size ≤ g10 from by omega)
      clear hg10
      have y0 := Blk.at0 HPb.out (Below.refl _ _); have y1 := Blk.at1 HPb.out (Below.refl _ _); have y2 := Blk.at2 HPb.out (Below.refl _ _)
      go_wp2_with fail
      refine (Solve_ok kn kf (kn + kf + 2) 60 c2 da db A2 DA DB Dr (fun _ => kn) dp (cvA (nth es) s (memL s nn) (fstL (nth es) s len)) (fun _ => 1) (fun _ => 1) 1 1 w6 (HPr.out.more (by omega)) (fun _ _ => rfl) rfl (by omega) (by omega) (by omega) (by omega) (cv_frac _ _ _ _ _ _) (Nat.lt_of_le_of_lt (bitsT_mono hk7) (by decide))).mono ?_
      rintro e w7 ⟨v, rfl, ⟨u, q, rfl, hsI, hsv⟩, hb⟩
      clear y0 y1 y2
      clear HPr HPb
      replace HB := Lib.hid (bthen HB.out hb HB.out.size)
      replace HG := Lib.hid (HG.out.keep hb)
      replace H4 := Lib.hid (H4.out.keep hb)
      replace HM := Lib.hid ((HM.out.below hb).more (Below.size hb))
      replace HFi := Lib.hid ((HFi.out.below hb).more (Below.size hb))
      clear hb
      obtain ⟨AX, kX, cX, AY, kY, cY, AR, kR, cR, s1, A0, k0, c0, B0, m0, d0, rfl, hln, hX, hY, hR, hV⟩ := hsv
      have hct := hsI.cert
      rw [HKn.out, HKf.out] at hct
      have ho : q.out = 0 := cv_out (n := nn) (m := len) (fun x hx hb => orE_bit (k := len) (by have h := testBit_andn (a := s) (b := ors) (i := x) HOr.out.2 HS32.out; rw [HCv.out, Nat.zero_testBit, hb] at h; rw [← HOr.out.1]; simpa using h)) hct
      rw [ho] at hct
      have HOK := Lib.hid (cv_ok hct)
      obtain ⟨ekX, ekY⟩ : kX = kn ∧ kY = kf := by rcases hln with h | h | h <;> omega
      subst kX
      subst kY
      have HX := Lib.hid hX.toW; have HY := Lib.hid hY.toW; have HV := Lib.hid hV.rw; clear hX hY hR hV hln hsI hct ho
      go_upto_region 16 with (fail)
      have hbw := al w7 (.cells #[.int .i64 (q.out : Int), .slice AX kn cX, .slice AY kf cY, .slice AR kR cR, .bool s1, .slice A0 k0 c0, .slice B0 m0 d0] 79)
      have HZ := Lib.hid (Blk.new w7 79 #[.int .i64 (q.out : Int), .slice AX kn cX, .slice AY kf cY, .slice AR kR cR, .bool s1, .slice A0 k0 c0, .slice B0 m0 d0])
      replace HB := Lib.hid (bthen HB.out hbw HB.out.size)
      replace HG := Lib.hid (HG.out.keep hbw)
      replace H4 := Lib.hid (H4.out.keep hbw)
      replace HM := Lib.hid ((HM.out.below hbw).more (Below.size hbw))
      replace HFi := Lib.hid ((HFi.out.below hbw).more (Below.size hbw))
      replace HX := Lib.hid (Rs.newW HX.out hbw)
      replace HY := Lib.hid (Rs.newW HY.out hbw)
      replace HV := Lib.hid (HV.out.new hbw)
      clear hbw
      generalize w7.alloc (.cells #[.int .i64 (q.out : Int), .slice AX kn cX, .slice AY kf cY, .slice AR kR cR, .bool s1, .slice A0 k0 c0, .slice B0 m0 d0] 79) = w8 at *
      obtain ⟨g13, hg13⟩ : ∃ g13, g13 = w7.heap.size := ⟨_, rfl⟩
      rw [← hg13] at HZ ⊢
      have HGg13 := Lib.hid (show w7.heap.size ≤ g13 from by omega)
      clear hg13
      have HNb := Lib.hid (show g2 < w8.heap.size ∧ g4 < w8.heap.size ∧ g13 < w8.heap.size ∧ w.heap.size ≤ w8.heap.size ∧ w.heap.size ≤ g4 from ⟨HG.out.lt, H4.out.lt, HZ.out.lt, HB.out.size, HGg2.out.2⟩)
      go_upto_region 18 with (fail)
      refine wp_region_joinF (kss := [[], [(0, 64)], [(1, 65)], [(2, 66)], [], [(4, 68)], [(5, 69)], [], [(7, 71)], [(3, 67), (6, 70), (8, 72)], []]) [(2, .pointer (some ⟨g2, 0, none⟩)), (13, .pointer (some ⟨g13, 0, none⟩))] [EV (.pointer (some ⟨g2, 1, none⟩)), EV (.slice AE len ce), EV (.int .i64 ((len : Int))), fun zz w' => ∃ g, zz = .slice (some ⟨g, 0, none⟩) len len ∧ w8.heap.size ≤ g ∧ RB w' g len (PN w' 2 (fun _ => 0)), EV (.pointer (some ⟨g2, 0, none⟩)), EV (.int .i64 ((nn : Int))), fun zz w' => ∃ g, zz = .slice (some ⟨g, 0, none⟩) nn nn ∧ w8.heap.size ≤ g ∧ RB w' g nn (PN w' 2 (fun _ => 0)), EV (.pointer (some ⟨g13, 4, none⟩)), Rw (60) (q.v), fun zz w' => ∃ (gW gP : Nat) (s9 : Bool) (A9 : Option Addr) (k9 c9 : Nat) (B9 : Option Addr) (m9 d9 : Nat), zz = .agg #[.slice (some ⟨gW, 0, none⟩) len len, .slice (some ⟨gP, 0, none⟩) nn nn, .bool s9, .slice A9 k9 c9, .slice B9 m9 d9] ∧ gW ≠ gP ∧ w8.heap.size ≤ gW ∧ w8.heap.size ≤ gP ∧ RB w' gW len (PN w' 2 (fun _ => 0)) ∧ RB w' gP nn (PN w' 2 (fun _ => 0)) ∧ Rw 60 q.v (.agg #[.bool s9, .slice A9 k9 c9, .slice B9 m9 d9]) w', Zc w8.heap.size] 11 [] (by kernel_rfl) (by kernel_rfl) ⟨rfl, rfl, trivial⟩ [false, false, false, true, false, false, true, false, false, false, false] ?_ ?_ ?_ ?_
      · exact fun i hi => absurd hi (by simp)
      · exact ⟨eI, eI, eI, fun _ _ _ ⟨g, h1, h2, h3⟩ hb => ⟨g, h1, h2, h3.newN hb⟩, eI, eI, fun _ _ _ ⟨g, h1, h2, h3⟩ hb => ⟨g, h1, h2, h3.newN hb⟩, eI, fun _ _ _ h hb => h.new hb, fun _ _ _ ⟨gW, gP, s9, A9, k9, c9, B9, m9, d9, h1, h2, h3, h4, h5, h6, h7⟩ hb => ⟨gW, gP, s9, A9, k9, c9, B9, m9, d9, h1, h2, h3, h4, h5.newN hb, h6.newN hb, h7.new hb⟩, fun _ _ _ h hb => h.new hb, trivial⟩
      · refine ⟨?_, ?_, ?_, ?_, ?_, ?_, ?_, ?_, ?_, ?_, ?_, trivial⟩
        · exact fun aa ww hb he hd => ob_plain rfl (fld_hgr (k := 1) rfl (by decide) he.1)
        · exact fun aa ww hb he hd => ob_plain rfl (load_c38 rfl hd.1 (Blk.at1 HG.out hb))
        · exact fun aa ww hb he hd => ob_plain rfl (len_c Try.underlying22 rfl hd.1)
        · exact fun aa ww hb he hd => ⟨by simp [Region.wanted], gives_cvzeros rfl (by omega) hd.1 hb⟩
        · exact fun aa ww hb he hd => ob_plain rfl (fld_hgr (k := 0) rfl (by decide) he.1)
        · exact fun aa ww hb he hd => ob_plain rfl (load_c3 rfl hd.1 (Blk.at0 HG.out hb))
        · exact fun aa ww hb he hd => ⟨by simp [Region.wanted], gives_cvzeros rfl (by omega) hd.1 hb⟩
        · exact fun aa ww hb he hd => ob_plain rfl (fld_sol rfl (by decide) he.2.1)
        · exact fun aa ww hb he hd => ob_plain rfl (load_sv rfl hd.1 (Blk.keep HZ.out hb) (Rw.new HV.out hb))
        · exact fun aa ww hb he hd => ob_plain rfl (by obtain ⟨gW, e1, l1, q1⟩ := hd.1; obtain ⟨gP, e2, l2, q2⟩ := hd.2.1; have hv9 := hd.2.2.1; obtain ⟨s9, A9, k9, c9, B9, m9, d9, e3, -⟩ := hd.2.2.1; rw [e3] at hv9; have hne : gW ≠ gP := fun e => hd.2.2.2 (3, 67) (by simp) (6, 70) (by simp) (by decide) rfl rfl (by show blkOf (tv aa 67) = blkOf (tv aa 70); rw [e1, e2, e]; rfl); exact gives_mono (gives_built3 rfl e1 e2 e3 (built_cov3 _ _ _ _ _ _ _ _ _ _ _ _ _)) (fun v w' ⟨h1, h2⟩ => ⟨⟨gW, gP, s9, A9, k9, c9, B9, m9, d9, h1, hne, l1, l2, q1.newN h2, q2.newN h2, Rw.new hv9 h2⟩, h2⟩))
        · exact fun aa ww hb he hd => ob_plain rfl (alloc_cov rfl hb)
      intro vs w9 hb hR _
      have r15 : Zc w8.heap.size (vs 10) w9 := hR 10 (by decide)
      have r73 := hR 9 (by decide)
      clear hR
      simp only [putsL, Nat.zero_add, Nat.reduceAdd, List.take_succ_cons, List.take_zero, Act.put, List.setIfInBounds_toArray, List.set_cons_zero, List.set_cons_succ]
      obtain ⟨gW, gP, s9, A9, k9, c9, B9, m9, d9, e73, hneq, hlW, hlP, hrW, hrP, hv9⟩ := r73
      rw [e73]
      clear e73
      obtain ⟨g15, e15, hl15, hz15⟩ := r15
      rw [e15]
      clear e15
      show wpAny _ _ _ _ 1 _ _ _
      refine wpAny_next (i := 11) (by kernel_rfl) rfl rfl (store_cov rfl rfl rfl rfl hz15 (by simp) (by simp [Value.oneCell']) ?_)
      intro w10 kp hg hsz hC
      have ne15 : ∀ k, k < w8.heap.size → some k ≠ some g15 := fun k hk e => by injection e with e; omega
      have lt15 : ∀ k, some g15 = some k → w8.heap.size ≤ k := fun k e => by cases e; exact hl15
      obtain ⟨b0, hb0⟩ : ∃ b0, b0 = w8.heap.size := ⟨_, rfl⟩
      have hst : OfS w b0 g4 g13 g15 gW gP len nn kn kf s9 A9 k9 c9 B9 m9 d9 #[.int .i64 (q.out : Int), .slice AX kn cX, .slice AY kf cY, .slice AR kR cR, .bool s1, .slice A0 k0 c0, .slice B0 m0 d0] AX AY A1 AF q.X q.Y (memL s nn) (fstL (nth es) s len) q.v (fun _ => 0) (fun _ => 0) w10 := by
        rw [hb0]
        exact ⟨hC, (HZ.out.keep hb).grown hg (ne15 g13 HNb.out.2.2.1), (H4.out.keep hb).grown hg (ne15 g4 HNb.out.2.1), (Rs.grownB (Rs.grownB HX.out (only_of_below hb none) (Nat.le_refl _) (fun _ e => by cases e) (KeepsN.below hb)) hg hb.size lt15 kp), (Rs.grownB (Rs.grownB HY.out (only_of_below hb none) (Nat.le_refl _) (fun _ e => by cases e) (KeepsN.below hb)) hg hb.size lt15 kp), (HM.out.below hb).grown hg hb.size lt15, (HFi.out.below hb).grown hg hb.size lt15, ((hrW.mono (fun _ _ _ hv => Rw.more (Rv.rw hv) (by omega))).grown hg (RB.ne_ hrW hz15 (by decide)) (fun _ _ _ hv => PW.keep hv kp)), ((hrP.mono (fun _ _ _ hv => Rw.more (Rv.rw hv) (by omega))).grown hg (RB.ne_ hrP hz15 (by decide)) (fun _ _ _ hv => PW.keep hv kp)), hv9.keepN kp, (bthen HB.out hb HB.out.size).grown hg (bthen HB.out hb HB.out.size).size (fun k e => Nat.le_trans HNb.out.2.2.2.1 (lt15 k e)), ⟨hlW, hlP, hneq, HNb.out.2.2.2.1⟩, Nat.le_trans hb.size hg.size⟩
      have HS := Lib.hid hst
      have HG4 := Lib.hid HNb.out.2.2.2.2
      clear hst hb0 ne15 lt15 kp hg hsz hC hz15 hl15 hneq hlW hlP hrW hrP hv9 hb HX HY HV HM HFi HZ H4 HG HB HNb
      refine wpAny_end (by kernel_rfl) (calm_normal ?_) _
      go_wp2_with fail
      go_loopg [76] kn (fun g iv wr => ∃ i : Nat, iv = .int .i64 i ∧ i + g = kn ∧ Hid (OfS w b0 g4 g13 g15 gW gP len nn kn kf s9 A9 k9 c9 B9 m9 d9 #[.int .i64 (q.out : Int), .slice AX kn cX, .slice AY kf cY, .slice AR kR cR, .bool s1, .slice A0 k0 c0, .slice B0 m0 d0] AX AY A1 AF q.X q.Y (memL s nn) (fstL (nth es) s len) q.v (fun _ => 0) (putS (atL (memL s nn)) q.X i) wr))
      case atStart => exact ⟨0, rfl, by omega, Lib.hid HS.out⟩
      case round =>
        obtain ⟨i, rfl, hik, HI⟩ := hrel
        clear HS
        by_cases hi : i < kn
        · have i1 : ((i : Int) < (kn : Int)) := by omega
          obtain ⟨adM, uM, hAM, -, hxM, hcM⟩ := HI.out.m.at_ hi
          subst hAM
          have hiL : i < (memL s nn).length := by rw [← HKn.out]; exact hi
          rw [mints_at hiL] at hxM
          injection hxM with hxM
          subst hxM
          obtain ⟨vv, hvv⟩ : ∃ vv, vv = atL (memL s nn) i := ⟨_, rfl⟩
          rw [← hvv] at hcM
          have hvb : vv < nn := by rw [hvv]; exact (mem_memL.1 (atL_mem hiL)).1
          have HVv := Lib.hid hvv; clear hvv
          obtain ⟨adX, -, -, -, -, -, -, -, hAX, -⟩ := HI.out.x.at_ hi
          subst hAX
          go_upto_region 22 with (fail)
          clear hcM
          refine wp_region_join (kss := [[], [(0, 81)], [], [], [(3, 84)], [], [(4, 85), (5, 86)], [(6, 87)], [(1, 82), (2, 83)]]) [(15, .pointer (some ⟨g15, 0, none⟩)), (17, .int .i64 ((vv : Int))), (13, .pointer (some ⟨g13, 0, none⟩)), (16, .int .i64 ((i : Int)))] [EV (.pointer (some ⟨g15, 1, none⟩)), EV (.slice (some (⟨gP, 0, none⟩)) nn nn), EV (.int .i64 ((vv : Int))), EV (.pointer (some ⟨g13, 1, none⟩)), EV (.slice (some adX) kn cX), EV (.int .i64 ((i : Int))), EV (.pointer (some (Addr.add adX (i * 3)))), Rw (60) ((q.X) i), EV (.pointer (some (Addr.add (⟨gP, 0, none⟩) (vv * 3))))] 9 [] (by kernel_rfl) (by kernel_rfl) ⟨rfl, rfl, rfl, rfl, trivial⟩ [false, false, false, false, false, false, false, false, false] ?_ ?_ ?_ ?_
          · exact fun i hi => absurd hi (by simp)
          · exact ⟨eI, eI, eI, eI, eI, eI, eI, fun _ _ _ h hb => h.new hb, eI, trivial⟩
          · refine ⟨?_, ?_, ?_, ?_, ?_, ?_, ?_, ?_, ?_, trivial⟩
            · exact fun aa ww hb he hd => ob_plain rfl (fld_cov (k := 1) rfl (by decide) he.1)
            · exact fun aa ww hb he hd => ob_plain rfl (load_c28 rfl hd.1 (Blk.at1 HI.out.c hb))
            · exact fun _ _ _ he hd => ob_mv rfl rfl he.2.1
            · exact fun aa ww hb he hd => ob_plain rfl (fld_sol rfl (by decide) he.2.2.1)
            · exact fun aa ww hb he hd => ob_plain rfl (load_c28 rfl hd.1 (Blk.at1 HI.out.z hb))
            · exact fun _ _ _ he hd => ob_mv rfl rfl he.2.2.2.1
            · exact fun aa ww hb he hd => ob_plain rfl (idx_rs (by omega) rfl hd.1 hd.2.1)
            · exact fun aa ww hb he hd => ob_plain rfl (load_rw rfl hd.1 ((Rs.grownB HI.out.x (only_of_below hb none) HI.out.sz (fun _ e => by cases e) (KeepsN.below hb))) (by omega))
            · exact fun aa ww hb he hd => ob_plain rfl (idx_rs (by omega) rfl hd.1 hd.2.1)
          intro vs w11 hb hR _
          have r88 : Rw (60) ((q.X) i) (vs 7) w11 := hR 7 (by decide)
          have e89 : vs 8 = .pointer (some (Addr.add (⟨gP, 0, none⟩) (vv * 3))) := hR 8 (by decide)
          clear hR
          simp only [putsL, Nat.zero_add, Nat.reduceAdd, List.take_succ_cons, List.take_zero, Act.put, List.setIfInBounds_toArray, List.set_cons_zero, List.set_cons_succ]
          rw [e89]
          clear e89
          have HI2 := Lib.hid (HI.out.below hb)
          clear hb HI
          show wpAny _ _ _ _ 1 _ _ _
          refine wpAny_next (i := 9) (by kernel_rfl) rfl rfl (store_row rfl rfl rfl rfl HI2.out.P hvb r88 ?_)
          intro w12 kp hg hsz hR
          have e := putS_at (atL (memL s nn)) q.X (k := i) (fun j hj => atL_inj (memL_nodup s nn) hiL hj)
          have hN := hR (PW w12 60 (putS (atL (memL s nn)) q.X (i + 1))) (fun l u hl hne hv => by rw [← e]; show Rw 60 (if l = atL (memL s nn) i then q.X i else putS (atL (memL s nn)) q.X i l) u w12; rw [if_neg (by rw [← HVv.out]; exact hne)]; exact PW.keep hv kp) (by rw [← e]; show Rw 60 (if vv = atL (memL s nn) i then q.X i else putS (atL (memL s nn)) q.X i vv) _ w12; rw [if_pos HVv.out]; exact Rw.keepN r88 kp)
          have HI3 := Lib.hid (HI2.out.setP hg kp hN)
          clear e hN hR hg kp hsz HI2 r88
          refine wpAny_end (by kernel_rfl) (calm_normal ?_) _
          go_wp2_with fail
          go_roundg (gk - 1)
          case measure => omega
          case rel => exact ⟨i + 1, by go_num, by omega, HI3⟩
        · obtain rfl : kn = i := by omega
          have HS := Lib.hid HI.out
          clear HI
          go_wp2_with fail
          go_loopg [93] kf (fun g iv wr => ∃ i : Nat, iv = .int .i64 i ∧ i + g = kf ∧ Hid (OfS w b0 g4 g13 g15 gW gP len nn kn kf s9 A9 k9 c9 B9 m9 d9 #[.int .i64 (q.out : Int), .slice AX kn cX, .slice AY kf cY, .slice AR kR cR, .bool s1, .slice A0 k0 c0, .slice B0 m0 d0] AX AY A1 AF q.X q.Y (memL s nn) (fstL (nth es) s len) q.v (putS (atL (fstL (nth es) s len)) q.Y i) (putS (atL (memL s nn)) q.X kn) wr))
          case atStart => exact ⟨0, rfl, by omega, Lib.hid HS.out⟩
          case round =>
            obtain ⟨i, rfl, hik, HI⟩ := hrel
            clear HS
            by_cases hi : i < kf
            · have i1 : ((i : Int) < (kf : Int)) := by omega
              obtain ⟨adM, uM, hAM, -, hxM, hcM⟩ := HI.out.f.at_ hi
              subst hAM
              have hiL : i < (fstL (nth es) s len).length := by rw [← HKf.out]; exact hi
              rw [mints_at hiL] at hxM
              injection hxM with hxM
              subst hxM
              obtain ⟨vv, hvv⟩ : ∃ vv, vv = atL (fstL (nth es) s len) i := ⟨_, rfl⟩
              rw [← hvv] at hcM
              have hvb : vv < len := by rw [hvv]; exact fstL_lt (atL_mem hiL)
              have HVv := Lib.hid hvv; clear hvv
              obtain ⟨adX, -, -, -, -, -, -, -, hAX, -⟩ := HI.out.y.at_ hi
              subst hAX
              go_upto_region 27 with (fail)
              clear hcM
              refine wp_region_join (kss := [[], [(0, 98)], [], [], [(3, 101)], [], [(4, 102), (5, 103)], [(6, 104)], [(1, 99), (2, 100)]]) [(15, .pointer (some ⟨g15, 0, none⟩)), (19, .int .i64 ((vv : Int))), (13, .pointer (some ⟨g13, 0, none⟩)), (18, .int .i64 ((i : Int)))] [EV (.pointer (some ⟨g15, 0, none⟩)), EV (.slice (some (⟨gW, 0, none⟩)) len len), EV (.int .i64 ((vv : Int))), EV (.pointer (some ⟨g13, 2, none⟩)), EV (.slice (some adX) kf cY), EV (.int .i64 ((i : Int))), EV (.pointer (some (Addr.add adX (i * 3)))), Rw (60) ((q.Y) i), EV (.pointer (some (Addr.add (⟨gW, 0, none⟩) (vv * 3))))] 9 [] (by kernel_rfl) (by kernel_rfl) ⟨rfl, rfl, rfl, rfl, trivial⟩ [false, false, false, false, false, false, false, false, false] ?_ ?_ ?_ ?_
              · exact fun i hi => absurd hi (by simp)
              · exact ⟨eI, eI, eI, eI, eI, eI, eI, fun _ _ _ h hb => h.new hb, eI, trivial⟩
              · refine ⟨?_, ?_, ?_, ?_, ?_, ?_, ?_, ?_, ?_, trivial⟩
                · exact fun aa ww hb he hd => ob_plain rfl (fld_cov (k := 0) rfl (by decide) he.1)
                · exact fun aa ww hb he hd => ob_plain rfl (load_c28 rfl hd.1 (Blk.at0 HI.out.c hb))
                · exact fun _ _ _ he hd => ob_mv rfl rfl he.2.1
                · exact fun aa ww hb he hd => ob_plain rfl (fld_sol rfl (by decide) he.2.2.1)
                · exact fun aa ww hb he hd => ob_plain rfl (load_c28 rfl hd.1 (Blk.at2 HI.out.z hb))
                · exact fun _ _ _ he hd => ob_mv rfl rfl he.2.2.2.1
                · exact fun aa ww hb he hd => ob_plain rfl (idx_rs (by omega) rfl hd.1 hd.2.1)
                · exact fun aa ww hb he hd => ob_plain rfl (load_rw rfl hd.1 ((Rs.grownB HI.out.y (only_of_below hb none) HI.out.sz (fun _ e => by cases e) (KeepsN.below hb))) (by omega))
                · exact fun aa ww hb he hd => ob_plain rfl (idx_rs (by omega) rfl hd.1 hd.2.1)
              intro vs w11 hb hR _
              have r105 : Rw (60) ((q.Y) i) (vs 7) w11 := hR 7 (by decide)
              have e106 : vs 8 = .pointer (some (Addr.add (⟨gW, 0, none⟩) (vv * 3))) := hR 8 (by decide)
              clear hR
              simp only [putsL, Nat.zero_add, Nat.reduceAdd, List.take_succ_cons, List.take_zero, Act.put, List.setIfInBounds_toArray, List.set_cons_zero, List.set_cons_succ]
              rw [e106]
              clear e106
              have HI2 := Lib.hid (HI.out.below hb)
              clear hb HI
              show wpAny _ _ _ _ 1 _ _ _
              refine wpAny_next (i := 9) (by kernel_rfl) rfl rfl (store_row rfl rfl rfl rfl HI2.out.W hvb r105 ?_)
              intro w12 kp hg hsz hR
              have e := putS_at (atL (fstL (nth es) s len)) q.Y (k := i) (fun j hj => atL_inj (fstL_nodup _ _ _) hiL hj)
              have hN := hR (PW w12 60 (putS (atL (fstL (nth es) s len)) q.Y (i + 1))) (fun l u hl hne hv => by rw [← e]; show Rw 60 (if l = atL (fstL (nth es) s len) i then q.Y i else putS (atL (fstL (nth es) s len)) q.Y i l) u w12; rw [if_neg (by rw [← HVv.out]; exact hne)]; exact PW.keep hv kp) (by rw [← e]; show Rw 60 (if vv = atL (fstL (nth es) s len) i then q.Y i else putS (atL (fstL (nth es) s len)) q.Y i vv) _ w12; rw [if_pos HVv.out]; exact Rw.keepN r105 kp)
              have HI3 := Lib.hid (HI2.out.setW hg kp hN)
              clear e hN hR hg kp hsz HI2 r105
              refine wpAny_end (by kernel_rfl) (calm_normal ?_) _
              go_wp2_with fail
              go_roundg (gk - 1)
              case measure => omega
              case rel => exact ⟨i + 1, by go_num, by omega, HI3⟩
            · obtain rfl : kf = i := by omega
              go_upto_region 29 with (fail)
              refine wp_region_joins (kss := [[]]) [(15, .pointer (some ⟨g15, 0, none⟩))] [EV (.agg #[.slice (some ⟨gW, 0, none⟩) len len, .slice (some ⟨gP, 0, none⟩) nn nn, .bool s9, .slice A9 k9 c9, .slice B9 m9 d9])] 1 (by kernel_rfl) ⟨rfl, trivial⟩ [false] ?_ ?_ ?_
              · exact ⟨eI, trivial⟩
              · refine ⟨?_, trivial⟩
                · exact fun aa ww hb he hd => ob_plain rfl (load_cov rfl he.1 (Blk.keep HI.out.c hb))
              intro vs w13 hb hR
              have e108 : vs 0 = .agg #[.slice (some ⟨gW, 0, none⟩) len len, .slice (some ⟨gP, 0, none⟩) nn nn, .bool s9, .slice A9 k9 c9, .slice B9 m9 d9] := hR 0 (by decide)
              clear hR
              simp only [putsL, Nat.zero_add, Nat.reduceAdd, List.take_succ_cons, List.take_zero, Act.put, List.setIfInBounds_toArray, List.set_cons_zero, List.set_cons_succ]
              rw [e108]
              clear e108
              have HI2 := Lib.hid (HI.out.below hb)
              clear hb HI
              show wpOps _ _ _ [1, 2] _ _
              refine wpOps_next rfl rfl (store_cov rfl rfl rfl rfl HI2.out.h4 (by simp) (by simp [Value.oneCell']) ?_)
              intro w14 kp hg hsz hX
              have HXa := Lib.hid hX
              have HEnd := Lib.hid (HI2.out.fin hg kp HG4.out)
              clear kp hg hsz hX HI2
              refine wpOps_next rfl rfl (wp_assign 5 (.const (.int .i64 0)) rfl rfl (.int .i64 0) rfl ?_)
              simp only [Act.put, List.setIfInBounds_toArray, List.set_cons_zero, List.set_cons_succ]
              unfold wpOps
              go_wp2_with fail
              refine bodyPost_ret (v := .tuple #[.agg #[.slice (some ⟨gW, 0, none⟩) len len, .slice (some ⟨gP, 0, none⟩) nn nn, .bool s9, .slice A9 k9 c9, .slice B9 m9 d9], .int .i64 0]) (results_cell_tmp Try.results11 _ _ _ _ _ (0, 0) _ rfl HXa.out Try.underlying33 rfl rfl) rfl ?_
              have hOK := HOK.out
              rw [← HKn.out, ← HKf.out] at hOK
              exact ⟨_, rfl, ⟨fun h => absurd HC.out h, fun _ h => absurd (by rw [← HR.out, HMk.out]; simp) h, fun _ _ h => absurd (by rw [← HOr.out.1]; exact HCv.out) h, fun _ _ _ => ⟨_, rfl, _, _, _, hOK, HEnd.out.1⟩⟩, HEnd.out.2⟩
end Go.Proofs.Ytpnklmgfdihjfaa
namespace Go.Proofs.Ytpnklmgfdihjfaa
open Go.RowKit
set_option linter.unusedVariables false
set_option linter.unusedSimpArgs false

/-- What great's answer says. -/
def Grt (n : Int) (es : List Nat) (len : Nat) (t : Bool) : Prop := t = false → (checkCode n es = 0 → n ≤ 6 ∧ len ≤ 7) ∧ len ≤ 70
def GrV (n : Int) (es : List Nat) (len : Nat) (v : Value) : Prop := ∃ t, v = .bool t ∧ Grt n es len t
set_option maxRecDepth 100000 in
set_option maxHeartbeats 8000000 in
theorem great29_any (n : Int) (len ce : Nat) (AE : Option Addr) (es : List Nat) (w : World) (hE : Es w w.heap.size AE len es) :
    Calls Try.prog 9 #[.agg #[.int .i64 n, .slice AE len ce]] w (RV w (fun v _ => GrV n es len v)) := by
  have HE0 := Lib.hid hE; clear hE
  go_enter Try.func9, Try.ntmps9
  go_upto_region 1 with (fail)
  have hbw := al w (.cells #[.int .i64 n, .slice AE len ce] 24)
  have HG := Lib.hid (Blk.new w 24 #[.int .i64 n, .slice AE len ce])
  have HB := Lib.hid hbw
  clear hbw
  generalize w.alloc (.cells #[.int .i64 n, .slice AE len ce] 24) = w1 at *
  obtain ⟨g1, hg1⟩ : ∃ g1, g1 = w.heap.size := ⟨_, rfl⟩
  rw [← hg1] at HG ⊢
  have HGg1 := Lib.hid (show w.heap.size ≤ g1 from by omega)
  clear hg1
  have x0 := Blk.at0 HG.out (Below.refl _ _); have x1 := Blk.at1 HG.out (Below.refl _ _)
  go_wp2_with fail
  refine (check_any n AE es len ce w1 ((HE0.out.below HB.out).more HB.out.size)).mono ?_
  rintro e w2 ⟨rfl, hb⟩
  clear x0 x1
  replace HB := Lib.hid (bthen HB.out hb HB.out.size)
  replace HG := Lib.hid (HG.out.keep hb)
  clear hb
  have x0 := Blk.at0 HG.out (Below.refl _ _); have x1 := Blk.at1 HG.out (Below.refl _ _)
  by_cases hc : checkCode n es = 0
  · rw [hc]
    go_wp2_with fail
    all_goals go_ret
    all_goals refine ⟨_, rfl, ⟨_, rfl, ?_⟩, HB.out⟩
    all_goals (intro h; first | (cases h; done) | (simp at h; first | exact ⟨fun _ => ⟨by omega, by omega⟩, by omega⟩ | exact ⟨fun h => absurd h hc, by omega⟩) | exact ⟨fun _ => ⟨by omega, by omega⟩, by omega⟩ | exact ⟨fun h => absurd h hc, by omega⟩)
  · have t0 : (checkCode n es == 0) = false := by simpa using hc
    go_wp2_with fail
    all_goals go_ret
    all_goals refine ⟨_, rfl, ⟨_, rfl, ?_⟩, HB.out⟩
    all_goals (intro h; first | (cases h; done) | (simp at h; first | exact ⟨fun _ => ⟨by omega, by omega⟩, by omega⟩ | exact ⟨fun h => absurd h hc, by omega⟩) | exact ⟨fun _ => ⟨by omega, by omega⟩, by omega⟩ | exact ⟨fun h => absurd h hc, by omega⟩)
set_option maxRecDepth 100000 in
set_option maxHeartbeats 8000000 in
theorem of29_any (n d : Int) (hn : -1000000000 ≤ n ∧ n ≤ 1000000000) (hd : -1000000000 ≤ d ∧ d ≤ 1000000000) (hd0 : d ≠ 0) (w : World) : Calls Try.prog 23 #[.int .i64 n, .int .i64 d] w (RV w (Rv 2 ((n : Rat) / (d : Rat)))) := by
  have hq := qof_any n d (by omega) (by omega) (by omega) (by omega) (w := w.alloc (.cells #[.bool false, .slice none 0 0, .slice none 0 0] 31))
  go_enter Try.func23, Try.ntmps23
  go_upto_region 1 with (fail)
  have hbw := al w (.cells #[.bool false, .slice none 0 0, .slice none 0 0] 31)
  have H4 := Lib.hid (Blk.new w 31 #[.bool false, .slice none 0 0, .slice none 0 0])
  have HB := Lib.hid hbw
  clear hbw
  generalize w.alloc (.cells #[.bool false, .slice none 0 0, .slice none 0 0] 31) = w1 at *
  obtain ⟨g4, hg4⟩ : ∃ g4, g4 = w.heap.size := ⟨_, rfl⟩
  rw [← hg4] at H4 ⊢
  have HGg4 := Lib.hid (show w.heap.size ≤ g4 from by omega)
  clear hg4
  go_wp2_with fail
  refine (hq).mono ?_
  rintro e w2 ⟨-, h2⟩
  obtain ⟨s1, A1, k1, c1, B1, m1, d1, rfl, hr1, hb⟩ := h2 hd0
  clear hq h2
  have HR1 := Lib.hid (show Rv 2 ((n : Rat) / (d : Rat)) (.agg #[.bool s1, .slice A1 k1 c1, .slice B1 m1 d1]) w2 from ⟨_, _, _, _, _, _, _, rfl, hr1⟩)
  clear hr1
  replace HB := Lib.hid (bthen HB.out hb HB.out.size)
  replace H4 := Lib.hid (H4.out.keep hb)
  clear hb
  go_upto_region 2 with (fail)
  have hbw := al w2 (.cells #[.bool s1, .slice A1 k1 c1, .slice B1 m1 d1] 31)
  have HX := Lib.hid (Blk.new w2 31 #[.bool s1, .slice A1 k1 c1, .slice B1 m1 d1])
  replace HB := Lib.hid (bthen HB.out hbw HB.out.size)
  replace H4 := Lib.hid (H4.out.keep hbw)
  replace HR1 := Lib.hid (HR1.out.new hbw)
  clear hbw
  generalize w2.alloc (.cells #[.bool s1, .slice A1 k1 c1, .slice B1 m1 d1] 31) = w3 at *
  obtain ⟨g5, hg5⟩ : ∃ g5, g5 = w2.heap.size := ⟨_, rfl⟩
  rw [← hg5] at HX ⊢
  have HGg5 := Lib.hid (show w2.heap.size ≤ g5 from by omega)
  clear hg5
  have HXn := Lib.hid (show Bn 2 ((n : Rat) / (d : Rat)) g5 w3 from by obtain ⟨a1, a2, a3, a4, a5, a6, a7, e, h⟩ := HR1.out; cases e; exact ⟨_, _, _, _, _, _, _, HX.out, h⟩)
  refine wp_region_joins (kss := [[]]) [(5, .pointer (some ⟨g5, 0, none⟩))] [Rv (2) ((n : Rat) / (d : Rat))] 1 (by kernel_rfl) ⟨rfl, trivial⟩ [false] ?_ ?_ ?_
  · exact ⟨fun _ _ _ h hb => h.new hb, trivial⟩
  · refine ⟨?_, trivial⟩
    · exact fun aa ww hb he hd => ob_plain rfl (load_bn rfl he.1 (Bn.new HXn.out hb))
  intro vs w5 hb hR
  have r13 : Rv (2) ((n : Rat) / (d : Rat)) (vs 0) w5 := hR 0 (by decide)
  clear hR
  simp only [putsL, Nat.zero_add, Nat.reduceAdd, List.take_succ_cons, List.take_zero, Act.put, List.setIfInBounds_toArray, List.set_cons_zero, List.set_cons_succ]
  have R13 := Lib.hid r13
  obtain ⟨s2, A2, k2, c2, B2, m2, d2, e13, -⟩ := r13
  rw [e13] at R13 ⊢
  clear e13
  show wpOps _ _ _ [1] _ _
  refine wpOps_next rfl rfl (store_ratk rfl rfl rfl rfl (H4.out.keep hb) (by simp) (by simp [Value.oneCell']) (by simp) ?_)
  intro w6 kp hg hsz hB
  have HBb := Lib.hid hB; have HV := Lib.hid (R13.out.keepN kp)
  have HBf := Lib.hid ((bthen HB.out hb HB.out.size).grown hg (bthen HB.out hb HB.out.size).size (fun x hx => by cases hx; exact HGg4.out))
  clear kp hg hsz hB hb R13
  unfold wpOps
  go_wp2_with fail
  refine bodyPost_ret (v := .agg #[.bool s2, .slice A2 k2 c2, .slice B2 m2 d2]) (results_cell_row Try.results23 _ _ _ _ _ (0, 0) _ rfl HBb.out Try.underlying31 rfl rfl) rfl ?_
  exact ⟨_, rfl, HV.out, HBf.out⟩
end Go.Proofs.Ytpnklmgfdihjfaa
