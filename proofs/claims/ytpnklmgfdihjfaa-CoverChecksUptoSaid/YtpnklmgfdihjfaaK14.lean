/-
Plain: Newton's iteration for roots of natural numbers.
Plain: the least common denominator of weights; the product of sizes.
Contract of nat.Pow.
Pow of a number with its value.
awake of layer 4 returns true.
The walk of NatRing.
The walk of NatPowers.
Numbers as values of operations: lemmas. Printed by gen/scv.py.
Closures of cover.Check. Printed by gen/scv.py.
Lemmas for law29.made. Printed by gen/scv.py.
Opens a Guess and slices of small integers; what the bound on the bulk of the arguments gives.
-/
import Derived.Test.YtpnklmgfdihjfaaK1
import Derived.Test.YtpnklmgfdihjfaaK13
import Derived.Test.YtpnklmgfdihjfaaK3
import Derived.BigQuiet
import Derived.Test.YtpnklmgfdihjfaaRows
import Derived.Lib.SmallJoins
namespace Go.Proofs.Ytpnklmgfdihjfaa
set_option linter.unusedVariables false

/-- The tangent lies below the power. -/
theorem tangent (x y : Int) (hx : 0 ≤ x) (hy : 0 ≤ y) : ∀ n : Nat, x ^ (n + 1) + ((n : Int) + 1) * x ^ n * (y - x) ≤ y ^ (n + 1)
  | 0 => by simp only [Nat.zero_add, Int.pow_succ, Int.pow_zero]; omega
  | n + 1 => by
    have ih := tangent x y hx hy n
    have h1 := Int.mul_le_mul_of_nonneg_left ih hy
    have hp : 0 ≤ x ^ n := Int.pow_nonneg hx
    have h2 : 0 ≤ ((n : Int) + 1) * x ^ n * ((y - x) * (y - x)) := by
      refine Int.mul_nonneg (Int.mul_nonneg (by omega) hp) ?_
      rcases Int.le_total 0 (y - x) with h | h
      · exact Int.mul_nonneg h h
      · exact Int.mul_nonneg_of_nonpos_of_nonpos h h
    have e1 : y * (x ^ (n + 1) + ((n : Int) + 1) * x ^ n * (y - x)) = x ^ (n + 1 + 1) + (((n + 1 : Nat) : Int) + 1) * x ^ (n + 1) * (y - x) + ((n : Int) + 1) * x ^ n * ((y - x) * (y - x)) := by
      push_cast
      rw [Int.pow_succ x (n + 1), Int.pow_succ x n]
      grind
    have e2 : y * y ^ (n + 1) = y ^ (n + 1 + 1) := by rw [Int.pow_succ y (n + 1), Int.mul_comm]
    rw [e1, e2] at h1
    omega
/-- One step of Newton's iteration for the root with the exponent k + 1. -/
def nstep (p k x : Nat) : Nat := (k * x + p / x ^ k) / (k + 1)
/-- It does not fall below the root. -/
theorem nstep_ge {p k x y : Nat} (hx : 0 < x) (hy : y ^ (k + 1) ≤ p) : y ≤ nstep p k x := by
  unfold nstep
  rw [Nat.le_div_iff_mul_le (by omega)]
  have hp : 0 < x ^ k := Nat.pow_pos hx
  by_cases h : y * (k + 1) ≤ k * x
  · exact Nat.le_trans h (Nat.le_add_right _ _)
  · have hd : y * (k + 1) - k * x ≤ p / x ^ k := by
      rw [Nat.le_div_iff_mul_le hp]
      have ht := tangent (x : Int) (y : Int) (by omega) (by omega) k
      have hyi : ((y : Int)) ^ (k + 1) ≤ (p : Int) := by have := Int.ofNat_le.2 hy; simpa using this
      have e : (((y * (k + 1) - k * x) * x ^ k : Nat) : Int) = (x : Int) ^ (k + 1) + ((k : Int) + 1) * (x : Int) ^ k * ((y : Int) - x) := by
        rw [Int.natCast_mul, Int.natCast_sub (by omega)]
        push_cast
        rw [Int.pow_succ]
        grind
      have h3 : (((y * (k + 1) - k * x) * x ^ k : Nat) : Int) ≤ (p : Int) := by rw [e]; omega
      exact Int.ofNat_le.1 h3
    omega
/-- When it no longer falls, the root is met. -/
theorem nstep_stop {p k x : Nat} (hx : 0 < x) (h : x ≤ nstep p k x) : x ^ (k + 1) ≤ p := by
  unfold nstep at h
  rw [Nat.le_div_iff_mul_le (by omega)] at h
  have hp : 0 < x ^ k := Nat.pow_pos hx
  have h1 : x ≤ p / x ^ k := by
    have : x * (k + 1) = k * x + x := by rw [Nat.mul_add, Nat.mul_comm x k, Nat.mul_one]
    omega
  rw [Nat.le_div_iff_mul_le hp] at h1
  rw [Nat.pow_succ, Nat.mul_comm]; exact h1
/-- r is the root of p with the exponent n. -/
def IsRoot (p n r : Nat) : Prop := r ^ n ≤ p ∧ p < (r + 1) ^ n
theorem IsRoot.max {p n r y : Nat} (h : IsRoot p n r) (hn : 0 < n) (hy : y ^ n ≤ p) : y ≤ r := by
  refine Classical.byContradiction fun hc => ?_
  have h1 : (r + 1) ^ n ≤ y ^ n := Nat.pow_le_pow_left (by omega) n
  have := h.2
  omega
theorem IsRoot.of_max {p n r : Nat} (h : r ^ n ≤ p) (hm : ∀ y, y ^ n ≤ p → y ≤ r) : IsRoot p n r :=
  ⟨h, Classical.byContradiction fun hc => by have := hm (r + 1) (by omega); omega⟩
theorem IsRoot.unique {p n r r' : Nat} (h : IsRoot p n r) (h' : IsRoot p n r') (hn : 0 < n) : r = r' :=
  Nat.le_antisymm (h'.max hn h.1) (h.max hn h'.1)
theorem root_one {p n : Nat} (h1 : 1 ≤ p) (h2 : p < 2 ^ n) : IsRoot p n 1 := ⟨by rw [Nat.one_pow]; exact h1, h2⟩
theorem root_small {p n : Nat} (hn : 0 < n) (h : p ≤ 1) : IsRoot p n p := by
  have : p = 0 ∨ p = 1 := by omega
  rcases this with rfl | rfl
  · refine ⟨by rw [Nat.zero_pow hn]; exact Nat.le_refl _, by rw [Nat.zero_add, Nat.one_pow]; decide⟩
  · exact ⟨by rw [Nat.one_pow]; exact Nat.le_refl _, Nat.one_lt_two_pow (by omega)⟩
theorem root_exp1 (p : Nat) : IsRoot p 1 p := ⟨by rw [Nat.pow_one]; exact Nat.le_refl _, by rw [Nat.pow_one]; omega⟩
end Go.Proofs.Ytpnklmgfdihjfaa
namespace Go.Proofs.Ytpnklmgfdihjfaa
set_option linter.unusedVariables false

/-- The least common denominator of the first n weights. -/
def dlcm (W : Nat → Rat) : Nat → Nat
  | 0 => 1
  | i + 1 => Nat.lcm (dlcm W i) (W i).den
theorem lcm_div (D d : Nat) : D / Nat.gcd D d * d = Nat.lcm D d := by
  unfold Nat.lcm
  rw [Nat.div_mul_right_comm (Nat.gcd_dvd_left D d)]
theorem lcm_le (D d : Nat) : Nat.lcm D d ≤ D * d := Nat.div_le_self _ _
theorem dlcm_ne (W : Nat → Rat) : ∀ n, dlcm W n ≠ 0
  | 0 => Nat.one_ne_zero
  | n + 1 => by
    have := Nat.lcm_ne_zero (dlcm_ne W n) (W n).den_nz
    exact this
theorem dlcm_dvd {W : Nat → Rat} : ∀ {i n : Nat}, i ≤ n → dlcm W i ∣ dlcm W n
  | i, 0, h => by obtain rfl : i = 0 := by omega
                  exact Nat.dvd_refl _
  | i, n + 1, h => by
    by_cases e : i = n + 1
    · subst e; exact Nat.dvd_refl _
    · exact Nat.dvd_trans (dlcm_dvd (i := i) (n := n) (by omega)) (Nat.dvd_lcm_left _ _)
theorem dlcm_le {W : Nat → Rat} {i n : Nat} (h : i ≤ n) : dlcm W i ≤ dlcm W n := Nat.le_of_dvd (Nat.pos_of_ne_zero (dlcm_ne W n)) (dlcm_dvd h)
/-- The exponent of a size. -/
def expW (x : Rat) (D : Nat) : Nat := (x * (D : Rat)).num.natAbs
/-- The product of the first n sizes with their exponents. -/
def prodP (xs : List Int) (W : Nat → Rat) (D : Nat) : Nat → Nat
  | 0 => 1
  | i + 1 => prodP xs W D i * (inth xs i).toNat ^ expW (W i) D
end Go.Proofs.Ytpnklmgfdihjfaa
namespace Go.Proofs.Ytpnklmgfdihjfaa
open Go.RowKit

/-- 65536 and 4096, kept closed. -/
def bigE : Nat := 65536
theorem bigE_eq : bigE = 65536 := rfl
def capE : Nat := 4096
theorem capE_eq : capE = 4096 := rfl
/-- 2^65536. -/
def bigP : Nat := 2 ^ bigE
theorem bigP_eq : 2 ^ bigE = bigP := rfl
theorem len_of_pow {p e : Nat} (hp : p = 2 ^ e) {l : List Nat} {V b : Nat} (h : Nrm p l V) (hV : V < 2 ^ (e * b)) : l.length ≤ b := by
  rcases Nat.lt_or_ge b l.length with h1 | h1
  · have h2 := h.pos (by omega)
    have h3 : p ^ b ≤ p ^ (l.length - 1) := Nat.pow_le_pow_right (by rw [hp]; exact pow2_pos e) (by omega)
    rw [hp, ← Nat.pow_mul] at h3
    rw [hp] at h2
    omega
  · exact h1
theorem pow_bound {N n size m : Nat} (hN : N < 2 ^ size) (h : size * n ≤ 131072) (hm : m ≤ n) (hN1 : 1 ≤ N) (hsn : 0 < size * n) : N ^ m < 2 ^ (32 * capE) := by
  have h1 : N ^ m ≤ N ^ n := Nat.pow_le_pow_right hN1 hm
  have hn : n ≠ 0 := by rintro rfl; simp at hsn
  have h2 : N ^ n < (2 ^ size) ^ n := Nat.pow_lt_pow_left hN hn
  rw [← Nat.pow_mul] at h2
  have h3 : 2 ^ (size * n) ≤ 2 ^ (32 * capE) := two_pow_le (by have := capE_eq; omega)
  exact Nat.lt_of_le_of_lt h1 (Nat.lt_of_lt_of_le h2 h3)
/-- Where Pow says overflow by the sizes, the power is great. -/
theorem pow_great {N n size : Nat} (hN : 2 ^ (size - 1) ≤ N) (h2 : 2 ≤ N) (hn : 1 ≤ n) (h : 65536 ≤ n ∨ 65536 < size ∨ 65536 ≤ (size - 1) * n) : bigP ≤ N ^ n := by
  have hE := bigE_eq
  have key : ∀ k, bigE ≤ k → 2 ^ k ≤ N ^ n → bigP ≤ N ^ n := fun k hk h => by
    rw [← bigP_eq]; exact Nat.le_trans (two_pow_le hk) h
  have h3 : 2 ^ ((size - 1) * n) ≤ N ^ n := by rw [Nat.pow_mul]; exact Nat.pow_le_pow_left hN n
  rcases h with h | h | h
  · exact key n (by omega) (Nat.pow_le_pow_left h2 n)
  · refine key (size - 1) (by omega) (Nat.le_trans ?_ h3)
    apply two_pow_le
    have : (size - 1) * 1 ≤ (size - 1) * n := Nat.mul_le_mul_left _ hn
    omega
  · exact key _ (by omega) h3

theorem ofInt_i64 (a : Nat) (ha : a < 9223372036854775808) : (BitVec.ofInt 64 (a : Int)).toNat = a := by
  rw [BitVec.ofInt_natCast, BitVec.toNat_ofNat]; exact Nat.mod_eq_of_lt (by omega)
theorem i64_and_nat (a b : Nat) (ha : a < 9223372036854775808) (hb : b < 9223372036854775808) : bits .and .i64 (a : Int) (b : Int) = ((a &&& b : Nat) : Int) := by
  have hx : a &&& b < 2 ^ 63 := Nat.and_lt_two_pow _ (by omega)
  show IntKind.i64.wrap ((BitVec.ofInt 64 (a : Int) &&& BitVec.ofInt 64 (b : Int)).toNat : Int) = _
  rw [BitVec.toNat_and, ofInt_i64 a ha, ofInt_i64 b hb, IntKind.wrap_i64]
  omega
theorem and_one_i64 (y : Nat) (hy : y < 9223372036854775808) : bits .and .i64 (y : Int) 1 = ((y % 2 : Nat) : Int) := by
  rw [show (1 : Int) = ((1 : Nat) : Int) from rfl, i64_and_nat _ _ hy (by omega), nat_mask1]
theorem half_step (m i : Nat) : m / 2 ^ i = 2 * (m / 2 ^ (i + 1)) + m / 2 ^ i % 2 := by
  rw [Nat.pow_succ, ← Nat.div_div_eq_div_mul]; omega
theorem pow_sq {N a : Nat} : N ^ a * N ^ a = N ^ (2 * a) := by rw [← Nat.pow_add]; congr 1; omega

def RetPow (w : World) (N : Nat) (n : Int) (e : Ending) (w' : World) : Prop :=
  (n < 0 → e = .returned (.tuple #[.slice none 0 0, .int .i64 3]) ∧ Below w.heap.size w w') ∧
  (0 ≤ n → N ^ n.toNat < bigP → ∃ A k c l, e = .returned (.tuple #[.slice A k c, .int .i64 0]) ∧ k ≤ c ∧ k ≤ 4096 ∧ Es w' w'.heap.size A k l ∧ Nrm 4294967296 l (N ^ n.toNat) ∧ Below w.heap.size w w') ∧
  (0 ≤ n → bigP ≤ N ^ n.toNat → e = .returned (.tuple #[.slice none 0 0, .int .i64 20]) ∧ Below w.heap.size w w')
theorem bits_big {N b : Nat} (h : BitsIs N b) : 65536 < b ↔ bigP ≤ N := by
  have hE := bigE_eq
  rw [← bigP_eq]
  rcases h with ⟨h1, h2⟩ | ⟨h1, h2, h3⟩
  · subst h1 h2
    constructor
    · intro h; omega
    · intro h; have := pow2_pos bigE; omega
  · constructor
    · intro h; exact Nat.le_trans (two_pow_le (by omega)) h2
    · intro h
      rcases Nat.lt_or_ge 65536 b with h4 | h4
      · exact h4
      · have := Nat.lt_of_lt_of_le h3 (two_pow_le (show b ≤ bigE by omega))
        exact absurd (Nat.lt_of_le_of_lt h this) (Nat.lt_irrefl _)
theorem one_lt_big : 1 < bigP := by
  rw [← bigP_eq]
  exact Nat.one_lt_two_pow (by rw [bigE_eq]; omega)
theorem Nrm.one : ∀ {l : List Nat}, Nrm 4294967296 l 1 → l.length ≤ 4096 := fun h => by
  rcases Nat.lt_or_ge 1 _ with h1 | h1
  · exact absurd (Nrm.len_lt (l := [1]) (x := 1) ⟨by simp [valB], by simp, by simp [nth, List.getD]⟩ h (by omega) (by simpa using h1)) (Nat.lt_irrefl _)
  · omega

set_option maxHeartbeats 8000000 in
theorem pow_any (A : Option Addr) (ds : List Nat) (n c : Nat) (hc : n ≤ c) (w : World) (hr : Es w w.heap.size A n ds) (hn : n ≤ 1000000) (x : Int) (hx : -9223372036854775808 ≤ x ∧ x ≤ 9223372036854775807) :
    Calls Try.prog 78 #[.slice A n c, .int .i64 x] w (RetPow w (valB 4294967296 ds) x) := by
  have HR := Lib.hid hr; clear hr
  go_enter Try.func78, Try.ntmps78
  go_wp2_with fail
  refine (trim_any A ds n c hc _ HR.out).mono ?_
  rintro e w1 ⟨k, l, rfl, hk, hl, hN, rfl⟩
  generalize valB 4294967296 ds = N at *
  have H1 := Lib.hid hl; clear hl
  have N1 := Lib.hid hN; clear hN
  by_cases hx0 : x < 0
  · go_wp2_with fail
    go_ret2
    exact ⟨fun _ => ⟨rfl, Below.refl _ _⟩, fun h => by omega, fun h => by omega⟩
  obtain ⟨m, rfl⟩ := Int.eq_ofNat_of_zero_le (show 0 ≤ x by omega)
  go_wp2_with fail
  refine (bits_any A l k k (Nat.le_refl _) _ H1.out (by omega)).mono ?_
  rintro e w2 ⟨b, rfl, hb, hb32, rfl⟩
  rw [N1.out.1] at hb
  have HB := Lib.hid hb; clear hb
  by_cases h1 : m = 0 ∨ b = 1
  · have hpow : N ^ m = 1 := by
      rcases h1 with h | h
      · rw [h, Nat.pow_zero]
      · have : N = 1 := by
          rcases HB.out with ⟨_, h2⟩ | ⟨_, h2, h3⟩
          · omega
          · rw [h] at h2 h3; simp at h2 h3; omega
        rw [this, Nat.one_pow]
    have HP := Lib.hid hpow; clear hpow
    have fin : ∀ (w3 : World) (A3 : Option Addr) (k3 c3 : Nat) (l3 : List Nat), k3 ≤ c3 → Es w3 w3.heap.size A3 k3 l3 → Nrm 4294967296 l3 1 → Below w.heap.size w w3 → RetPow w N (m : Int) (.returned (.tuple #[.slice A3 k3 c3, .int .i64 0])) w3 := by
      intro w3 A3 k3 c3 l3 q1 q2 q3 q4
      refine ⟨fun h => by omega, fun _ _ => ⟨A3, k3, c3, l3, rfl, q1, by rw [q2.len]; exact q3.one, q2, ?_, q4⟩, fun _ h => ?_⟩
      · rw [Int.toNat_natCast, HP.out]; exact q3
      · rw [Int.toNat_natCast, HP.out] at h
        exact absurd (Nat.lt_of_lt_of_le one_lt_big h) (Nat.lt_irrefl _)
    have FIN := Lib.hid fin; clear fin
    by_cases hm0 : m = 0
    · subst hm0
      go_wp2_with fail
      refine (nof_any 1 (by omega) _).mono ?_
      rintro e w3 ⟨A3, k3, c3, l3, rfl, q1, q2, q3, q4⟩
      have HQ := Lib.hid (And.intro q2 (And.intro q3 q4)); clear q2 q3 q4
      go_wp2_with fail
      go_ret2
      exact FIN.out w3 A3 k3 c3 l3 q1 HQ.out.1 HQ.out.2.1 HQ.out.2.2
    · have hb1 : b = 1 := by omega
      subst hb1
      have hmb : ((m : Int) == 0) = false := by simp; omega
      go_wp2_with fail
      refine (nof_any 1 (by omega) _).mono ?_
      rintro e w3 ⟨A3, k3, c3, l3, rfl, q1, q2, q3, q4⟩
      have HQ := Lib.hid (And.intro q2 (And.intro q3 q4)); clear q2 q3 q4
      go_wp2_with fail
      go_ret2
      exact FIN.out w3 A3 k3 c3 l3 q1 HQ.out.1 HQ.out.2.1 HQ.out.2.2
  have hm1 : 1 ≤ m := by omega
  have hmb : ((m : Int) == 0) = false := by simp; omega
  have hbb : ((b : Int) == 1) = false := by simp; omega
  by_cases hb0 : b = 0
  · have HN0 := Lib.hid (show N = 0 by rcases HB.out with ⟨h, _⟩ | ⟨h, _⟩ <;> omega)
    subst hb0
    go_wp2_with fail
    go_ret2
    have hp : N ^ (m : Int).toNat = 0 := by rw [HN0.out, Int.toNat_natCast]; exact Nat.zero_pow (by omega)
    refine ⟨fun h => by omega, fun _ _ => ⟨none, 0, 0, [], rfl, Nat.le_refl _, by omega, ⟨Reads.none_, ⟨rfl, by omega⟩, by simp⟩, by rw [hp]; exact Nrm.nil _, Below.refl _ _⟩, fun _ h => ?_⟩
    rw [hp] at h
    have := one_lt_big
    exact absurd (Nat.lt_of_lt_of_le this h) (by omega)
  have hbz : ((b : Int) == 0) = false := by simp; omega
  have hb2 : 2 ≤ b := by omega
  obtain ⟨g1, g2⟩ : 2 ^ (b - 1) ≤ N ∧ N < 2 ^ b := by
    rcases HB.out with ⟨_, h⟩ | ⟨_, h2, h3⟩
    · omega
    · exact ⟨h2, h3⟩
  have hN2 : 2 ≤ N := by
    have := two_pow_le (show 1 ≤ b - 1 by omega)
    omega
  have HG := Lib.hid (And.intro g1 (And.intro g2 hN2)); clear g1 g2 hN2 h1 hb0
  by_cases hov : 65536 ≤ m ∨ 65536 < b ∨ 65536 ≤ (b - 1) * m
  · have HOV := Lib.hid (pow_great HG.out.1 HG.out.2.2 hm1 hov)
    have fin : RetPow w N (m : Int) (.returned (.tuple #[.slice none 0 0, .int .i64 20])) w :=
      ⟨fun h => by omega, fun _ h => absurd (Nat.lt_of_lt_of_le h (by rw [Int.toNat_natCast]; exact HOV.out)) (Nat.lt_irrefl _), fun _ _ => ⟨rfl, Below.refl _ _⟩⟩
    have FIN := Lib.hid fin; clear fin
    have hb32' : b ≤ 32000000 := by omega
    clear hb32
    by_cases o1 : 65536 ≤ m
    · clear hov
      have t1 : decide ((65536 : Int) ≤ (m : Int)) = true := by simp; omega
      clear o1
      go_wp2_with fail
      go_ret2
      exact FIN.out
    · have t1 : decide ((65536 : Int) ≤ (m : Int)) = false := by simp; omega
      by_cases o2 : 65536 < b
      · clear hov
        have t2 : decide ((65536 : Int) < (b : Int)) = true := by simp; omega
        have hm6 : m < 65537 := by omega
        clear o1 o2 hm6
        go_wp2_with fail
        go_ret2
        exact FIN.out
      · have t2 : decide ((65536 : Int) < (b : Int)) = false := by simp; omega
        have o3 : 65536 ≤ (b - 1) * m := by omega
        have e1 : (((b - 1) * m : Nat) : Int) = ((b : Int) - 1) * (m : Int) := by rw [Int.natCast_mul, Int.natCast_sub (by omega)]; simp
        have t3 : decide ((65536 : Int) ≤ ((b : Int) - 1) * (m : Int)) = true := by rw [← e1]; simp; omega
        have o4 : (0 : Int) ≤ ((b : Int) - 1) * (m : Int) := by omega
        have o5 : ((b : Int) - 1) * (m : Int) ≤ 4294967296 := by
          have h1 : (b - 1) * m ≤ 65536 * 65536 := Nat.mul_le_mul (by omega) (by omega)
          omega
        clear hov o3 o1 o2 e1
        go_wp2_with fail
        go_ret2
        exact FIN.out
  have t1 : decide ((65536 : Int) ≤ (m : Int)) = false := by simp; omega
  have t2 : decide ((65536 : Int) < (b : Int)) = false := by simp; omega
  have e1 : (((b - 1) * m : Nat) : Int) = ((b : Int) - 1) * (m : Int) := by rw [Int.natCast_mul, Int.natCast_sub (by omega)]; simp
  have t3 : decide ((65536 : Int) ≤ ((b : Int) - 1) * (m : Int)) = false := by rw [← e1]; simp; omega
  have o4 : (0 : Int) ≤ ((b : Int) - 1) * (m : Int) := by omega
  have o5 : ((b : Int) - 1) * (m : Int) ≤ 4294967296 := by omega
  have hbm : b * m ≤ 131072 := by
    obtain ⟨b', rfl⟩ : ∃ b', b = b' + 1 := ⟨b - 1, by omega⟩
    rw [Nat.add_sub_cancel] at hov
    rw [Nat.add_mul, Nat.one_mul]
    omega
  have hbm0 : 0 < b * m := Nat.mul_pos (by omega) (by omega)
  have HBD := Lib.hid (fun (a : Nat) (ha : a ≤ m) => pow_bound HG.out.2.1 hbm ha (by have := HG.out.2.2; omega) hbm0)
  have hm6 : m < 70000 := by omega
  clear hov e1 hbm hbm0
  go_wp2_with fail
  refine (nof_any 1 (by omega) _).mono ?_
  rintro e w3 ⟨A3, k3, c3, l3, rfl, q1, q2, q3, q4⟩
  have HQ := Lib.hid (And.intro q1 (And.intro q2 (And.intro q3 q4))); clear q1 q2 q3 q4
  clear t1 t2 t3 o4 o5
  go_wp2_with fail
  refine (Try.bits_Len (m : Int) _ (by omega) (by omega)).mono ?_
  rintro e w3 ⟨rfl, rfl⟩
  rw [Int.toNat_natCast]
  obtain ⟨s1, s2, s3⟩ := bitLen_spec 17 m (by omega) (by omega) (by omega)
  have s4 : Lib.bitLen m ≤ 17 := by
    rcases Nat.lt_or_ge 17 (Lib.bitLen m) with h | h
    · have := two_pow_le (show 17 ≤ Lib.bitLen m - 1 by omega); omega
    · exact h
  have HS3 := Lib.hid s3
  generalize Lib.bitLen m = t at *
  clear s2 s3
  go_wp2_with fail
  go_loopw [7, 8] (fun ov iv wr => ∃ (i k' c' : Nat) (A' : Option Addr), i ≤ t ∧ ov = .slice A' k' c' ∧ iv = .int .i64 ((i : Int) - 1) ∧ Hid (k' ≤ c' ∧ Below w.heap.size w wr ∧ ∃ l', Es wr wr.heap.size A' k' l' ∧ Nrm 4294967296 l' (N ^ (m / 2 ^ i)))) (fun _ iv _ => (intOf iv + 1).toNat)
  case atStart =>
    refine ⟨t, k3, c3, A3, Nat.le_refl _, rfl, rfl, Lib.hid ⟨HQ.out.1, HQ.out.2.2.2, l3, HQ.out.2.1, ?_⟩⟩
    rw [Nat.div_eq_of_lt HS3.out, Nat.pow_zero]; exact HQ.out.2.2.1
  case round =>
    obtain ⟨i, k', c', A', hi, rfl, rfl, HJ⟩ := hrel
    by_cases hi0 : 0 < i
    · obtain ⟨i, rfl⟩ : ∃ j, i = j + 1 := ⟨i - 1, by omega⟩
      have i0 : ((i + 1 : Nat) : Int) - 1 = (i : Int) := by omega
      rw [i0]
      obtain ⟨hkc, hBl, l', hE, hN'⟩ := HJ.out
      have hk4 : k' ≤ 4096 := by
        rw [hE.len, ← capE_eq]
        exact len_of_pow (e := 32) rfl hN' (HBD.out _ (Nat.div_le_self _ _))
      have HE := Lib.hid (And.intro hE (And.intro hN' hBl)); clear hE hN' hBl HJ
      go_wp2_with fail
      refine (mul_any A' l' k' c' hkc A' l' k' c' hkc _ HE.out.1 HE.out.1 (by omega) (by omega)).mono ?_
      rintro e w4 ⟨A4, k4, c4, l4, rfl, hk4c, hE4, hN4, hb4⟩
      rw [HE.out.2.1.1, pow_sq] at hN4
      have hB4 := bthen HE.out.2.2 hb4 HE.out.2.2.size
      have hA4 := (H1.out.new HE.out.2.2).new hb4
      have hst := half_step m i
      have hk44 : k4 ≤ 4096 := by
        rw [hE4.len, ← capE_eq]
        exact len_of_pow (e := 32) rfl hN4 (HBD.out _ (by have := Nat.div_le_self m (2 ^ i); omega))
      have hmi : m / 2 ^ i ≤ m := Nat.div_le_self _ _
      have ht := and_one_i64 (m / 2 ^ i) (by omega)
      rw [Int.natCast_ediv, cast_pow2] at ht
      have H4 := Lib.hid (And.intro hE4 (And.intro hN4 (And.intro hB4 (And.intro hA4 hst)))); clear hE4 hN4 hB4 hA4 hst hb4 hmi
      by_cases hodd : m / 2 ^ i % 2 = 1
      · have tb : (bits .and .i64 ((m : Int) / 2 ^ i) 1 == 1) = true := by rw [ht, hodd]; rfl
        have HODD := Lib.hid hodd; clear hodd ht
        go_wp2_with fail
        refine (mul_any A4 l4 k4 c4 hk4c A l k k (Nat.le_refl _) _ H4.out.1 H4.out.2.2.2.1 (by omega) (by omega)).mono ?_
        rintro e w5 ⟨A5, k5, c5, l5, rfl, hk5c, hE5, hN5, hb5⟩
        rw [H4.out.2.1.1, N1.out.1, ← Nat.pow_succ] at hN5
        have H5 := Lib.hid (And.intro hk5c (And.intro hE5 (And.intro hN5 (bthen H4.out.2.2.1 hb5 H4.out.2.2.1.size)))); clear hk5c hE5 hN5 hb5
        go_wp2_with fail
        refine ⟨⟨i, k5, c5, A5, by omega, rfl, rfl, Lib.hid ⟨H5.out.1, H5.out.2.2.2, l5, H5.out.2.1, ?_⟩⟩, by simp [intOf]⟩
        have h1 := H4.out.2.2.2.2
        rw [HODD.out] at h1
        rw [h1]; exact H5.out.2.2.1
      · have hz : m / 2 ^ i % 2 = 0 := by omega
        have tb : (bits .and .i64 ((m : Int) / 2 ^ i) 1 == 1) = false := by rw [ht, hz]; rfl
        have HODD := Lib.hid hz; clear hodd hz ht
        go_wp2_with fail
        refine ⟨⟨i, k4, c4, A4, by omega, rfl, rfl, Lib.hid ⟨hk4c, H4.out.2.2.1, l4, H4.out.1, ?_⟩⟩, by simp [intOf]⟩
        have h1 := H4.out.2.2.2.2
        rw [HODD.out, Nat.add_zero] at h1
        rw [h1]; exact H4.out.2.1
    · obtain rfl : i = 0 := by omega
      obtain ⟨hkc, hBl, l', hE, hN'⟩ := HJ.out
      rw [Nat.pow_zero, Nat.div_one] at hN'
      have hk4 : k' ≤ 4096 := by
        rw [hE.len, ← capE_eq]
        exact len_of_pow (e := 32) rfl hN' (HBD.out _ (Nat.le_refl _))
      have HE := Lib.hid (And.intro hE (And.intro hN' hBl)); clear hE hN' hBl HJ
      go_wp2_with fail
      refine (bits_any A' l' k' c' hkc _ HE.out.1 (by omega)).mono ?_
      rintro e w4 ⟨b4, rfl, hb4, hb4l, rfl⟩
      rw [HE.out.2.1.1] at hb4
      have HB4 := Lib.hid (bits_big hb4); clear hb4
      by_cases hbig : 65536 < b4
      · have t1 : decide ((65536 : Int) < (b4 : Int)) = true := by simp; omega
        have HBIG := Lib.hid (HB4.out.1 hbig); clear hbig
        go_wp2_with fail
        go_ret2
        exact ⟨fun h => by omega, fun _ h => absurd (Nat.lt_of_lt_of_le h (by rw [Int.toNat_natCast]; exact HBIG.out)) (Nat.lt_irrefl _), fun _ _ => ⟨rfl, HE.out.2.2⟩⟩
      · have t1 : decide ((65536 : Int) < (b4 : Int)) = false := by simp; omega
        have HBIG := Lib.hid (fun h => hbig (HB4.out.2 h)); clear hbig
        go_wp2_with fail
        go_ret2
        refine ⟨fun h => by omega, fun _ _ => ⟨A', k', c', l', rfl, hkc, hk4, HE.out.1, ?_, HE.out.2.2⟩, fun _ h => ?_⟩
        · rw [Int.toNat_natCast]; exact HE.out.2.1
        · rw [Int.toNat_natCast] at h; exact absurd h HBIG.out

end Go.Proofs.Ytpnklmgfdihjfaa
namespace Go.Proofs.Ytpnklmgfdihjfaa
open Go.RowKit
section
variable {w : World} {A B : Option Addr} {n c m d a b N M : Nat}
def RetPowN (w : World) (N : Nat) (n : Int) (e : Ending) (w' : World) : Prop :=
  (n < 0 → e = .returned (.tuple #[.slice none 0 0, .int .i64 3]) ∧ Below w.heap.size w w') ∧
  (0 ≤ n → N ^ n.toNat < bigP → ∃ A k c, e = .returned (.tuple #[.slice A k c, .int .i64 0]) ∧ Num w' A k c 4096 (N ^ n.toNat) ∧ Norm w' A k (N ^ n.toNat) ∧ Below w.heap.size w w') ∧
  (0 ≤ n → bigP ≤ N ^ n.toNat → e = .returned (.tuple #[.slice none 0 0, .int .i64 20]) ∧ Below w.heap.size w w')
theorem pow_n (ha : Num w A n c a N) (x : Int) (hx : -9223372036854775808 ≤ x ∧ x ≤ 9223372036854775807) : Calls Try.prog 78 #[.slice A n c, .int .i64 x] w (RetPowN w N x) := by
  obtain ⟨a1, a2, a3, a4, l, a5, rfl⟩ := ha
  refine (pow_any A l n c a1 w a5 (by omega) x hx).mono fun _ _ h => ⟨h.1, fun h0 hlt => ?_, h.2.2⟩
  obtain ⟨A', k', c', l', h1, h2, h2', h3, h4, h5⟩ := h.2.1 h0 hlt
  have hk := h3.len
  refine ⟨A', k', c', h1, ⟨h2, by omega, by omega, ?_, l', h3, h4.1⟩, ⟨l', h3, h4⟩, h5⟩
  have := h4.lt
  exact Nat.lt_of_lt_of_le this (PB_mono (by omega))
end
end Go.Proofs.Ytpnklmgfdihjfaa
namespace Go.Proofs.Ytpnklmgfdihjfaa
open Go.RowKit

end Go.Proofs.Ytpnklmgfdihjfaa
namespace Go.Proofs.Ytpnklmgfdihjfaa
open Go.RowKit

section
variable (A B C : Option Addr) (n m k c d f : Nat) (w : World)
end

end Go.Proofs.Ytpnklmgfdihjfaa
namespace Go.Proofs.Ytpnklmgfdihjfaa
open Go.RowKit

def RetPN (w : World) (N : Nat) (e : Ending) (w' : World) : Prop := ∃ A k c, e = .returned (.tuple #[.slice A k c, .int .i64 0]) ∧ Num w' A k c 4096 N ∧ Below w.heap.size w w'
section
variable {w : World} {A : Option Addr} {n c N b : Nat}
theorem pow_fits (ha : Num w A n c b N) (x : Nat) (hx : x ≤ 100000) (h : N ^ x < bigP) (X : Int) (hX : X = x) : Calls Try.prog 78 #[.slice A n c, .int .i64 X] w (RetPN w (N ^ x)) := by
  refine (pow_n ha X (by omega)).mono fun e w' hp => ?_
  have hX' : X.toNat = x := by omega
  obtain ⟨A', k', c', h1, h2, -, h3⟩ := hp.2.1 (by omega) (by rw [hX']; exact h)
  rw [hX'] at h2
  exact ⟨A', k', c', h1, h2, h3⟩
end

section
variable (A : Option Addr) (n c : Nat) (w : World)
end

end Go.Proofs.Ytpnklmgfdihjfaa
namespace Go.Proofs.Ytpnklmgfdihjfaa
open Go.RowKit
set_option linter.unusedVariables false
set_option linter.unusedSimpArgs false

theorem fldR2 (x y z : Value) (W : World) : (Instr.field 31 (.agg #[x, y, z]) 2).run Try.prog W = .ok z W := by kernel_rfl
theorem fldR1 (x y z : Value) (W : World) : (Instr.field 31 (.agg #[x, y, z]) 1).run Try.prog W = .ok y W := by kernel_rfl
theorem Xs.grownX {w w' : World} {B n : Nat} {A : Option Addr} {xs : List Int} (h : Xs w B A n xs) {row : Option Nat} (hg : w.grownBy w' row) (hB : B ≤ w.heap.size) (hr : ∀ g, row = some g → B ≤ g) : Xs w' B A n xs := ⟨h.1.grown hg hB hr, h.2⟩
/-- DivMod's answer with the quotient N. -/
def DmV (b N : Nat) (v : Value) (w : World) : Prop := ∃ (A : Option Addr) (k c : Nat) (u : Value), v = .tuple #[.slice A k c, u, .int .i64 0] ∧ Num w A k c b N
theorem DmV.new {b N : Nat} {v : Value} {w w' : World} (h : DmV b N v w) (hb : Below w.heap.size w w') : DmV b N v w' := by
  obtain ⟨A, k, c, u, h1, h2⟩ := h
  exact ⟨A, k, c, u, h1, h2.new hb⟩
/-- An answer of power: a number and no error. -/
def PwV (b N : Nat) (v : Value) (w : World) : Prop := ∃ (A : Option Addr) (k c : Nat), v = .tuple #[.slice A k c, .int .i64 0] ∧ Num w A k c b N
theorem PwV.new {b N : Nat} {v : Value} {w w' : World} (h : PwV b N v w) (hb : Below w.heap.size w w') : PwV b N v w' := by
  obtain ⟨A, k, c, h1, h2⟩ := h
  exact ⟨A, k, c, h1, h2.new hb⟩
section
variable {w : World} {a b N M : Nat} {u v : Value}
theorem quo_nv (h : Nv a N u w) (h' : Nv b M v w) (hM : M ≠ 0) (ha : a ≤ 10000) (hb : b ≤ 10000) : Calls Try.prog 75 #[u, v] w (RV w (DmV a (N / M))) := by
  obtain ⟨A, k, c, rfl, h⟩ := h
  obtain ⟨B, m, d, rfl, h'⟩ := h'
  refine (dm_n h h' ha hb).mono ?_
  rintro e w2 ⟨-, h2⟩
  obtain ⟨A3, k3, c3, A14, k4, c4, rfl, ⟨h3, -⟩, -, hb⟩ := h2 hM
  exact ⟨_, rfl, ⟨A3, k3, c3, _, rfl, h3⟩, hb⟩
theorem gcd_nv (h : Nv a N u w) (h' : Nv b M v w) (hab : a + b ≤ 10000) : Calls Try.prog 77 #[u, v] w (RV w (Nv (a + b) (Nat.gcd N M))) := by
  obtain ⟨A, k, c, rfl, h⟩ := h
  obtain ⟨B, m, d, rfl, h'⟩ := h'
  refine (cvdivisor_any h h' hab).mono ?_
  rintro e w2 ⟨A3, k3, c3, rfl, h3, hb⟩
  exact ⟨_, rfl, ⟨A3, k3, c3, rfl, h3⟩, hb⟩
theorem pow_nv (h : Nv a N u w) (h' : Nv b M v w) (hM : M ≤ 100000) (hf : N ^ M < bigP) : Calls Try.prog 43 #[u, v] w (RV w (PwV 4096 (N ^ M))) := by
  obtain ⟨A, k, c, rfl, h⟩ := h
  obtain ⟨B, m, d, rfl, h'⟩ := h'
  refine power_ok h h' (by omega) _ ((pow_fits h M hM hf _ rfl).mono ?_)
  rintro e w2 ⟨A3, k3, c3, rfl, h3, hb⟩
  exact ⟨_, _, rfl, _, rfl, ⟨A3, k3, c3, rfl, h3⟩, hb⟩
variable {o : Oper} {a' : Act} {t : Tmp} {x : Rat}
theorem load_nv {g : Nat} {A : Option Addr} {k c : Nat} (ho : o.op = .load 29 (.tmp t)) (hx : tv a' t = .pointer (some ⟨g, 0, none⟩)) (hb : Blk w g 29 #[.slice A k c]) (hn : Num w A k c b N) : gives Try.prog o a'.eval w (fun v w' => Nv b N v w' ∧ Below w.heap.size w w') :=
  gives_mono (load_nat ho hx (Blk.at0 hb (Below.refl _ _))) fun v w' ⟨e, hb⟩ => ⟨⟨A, k, c, e, hn.new hb⟩, hb⟩
theorem ext_dm (ho : o.op = .extract (.tmp t) 0) (h : DmV b N (tv a' t) w) : gives Try.prog o a'.eval w (fun v w' => Nv b N v w' ∧ Below w.heap.size w w') := by
  obtain ⟨A, k, c, u, h1, h2⟩ := h
  refine gives_val (.slice A k c) ?_ ⟨⟨A, k, c, rfl, h2⟩, Below.refl _ _⟩
  unfold execOp
  rw [ho]
  simp only [eval_tmp, h1]
  go_simp
theorem ext_dm1 (ho : o.op = .extract (.tmp t) 1) (h : DmV b N (tv a' t) w) : gives Try.prog o a'.eval w (fun v w' => True ∧ Below w.heap.size w w') := by
  obtain ⟨A, k, c, u, h1, h2⟩ := h
  refine gives_val u ?_ ⟨trivial, Below.refl _ _⟩
  unfold execOp
  rw [ho]
  simp only [eval_tmp, h1]
  go_simp
theorem ext_dm2 (ho : o.op = .extract (.tmp t) 2) (h : DmV b N (tv a' t) w) : gives Try.prog o a'.eval w (fun v w' => True ∧ Below w.heap.size w w') := by
  obtain ⟨A, k, c, u, h1, h2⟩ := h
  refine gives_val (.int .i64 0) ?_ ⟨trivial, Below.refl _ _⟩
  unfold execOp
  rw [ho]
  simp only [eval_tmp, h1]
  go_simp
theorem ext_pw (ho : o.op = .extract (.tmp t) 0) (h : PwV b N (tv a' t) w) : gives Try.prog o a'.eval w (fun v w' => Nv b N v w' ∧ Below w.heap.size w w') := by
  obtain ⟨A, k, c, h1, h2⟩ := h
  refine gives_val (.slice A k c) ?_ ⟨⟨A, k, c, rfl, h2⟩, Below.refl _ _⟩
  unfold execOp
  rw [ho]
  simp only [eval_tmp, h1]
  go_simp
theorem ext_pw1 (ho : o.op = .extract (.tmp t) 1) (h : PwV b N (tv a' t) w) : gives Try.prog o a'.eval w (fun v w' => v = .int .i64 0 ∧ Below w.heap.size w w') := by
  obtain ⟨A, k, c, h1, h2⟩ := h
  refine gives_val (.int .i64 0) ?_ ⟨rfl, Below.refl _ _⟩
  unfold execOp
  rw [ho]
  simp only [eval_tmp, h1]
  go_simp
theorem fld_num (ho : o.op = .field 31 (.tmp t) 1) (h : Rv b x (tv a' t) w) : gives Try.prog o a'.eval w (fun v w' => Nv b x.num.natAbs v w' ∧ Below w.heap.size w w') := by
  obtain ⟨s, A, n, c, B, m, d, h1, h2⟩ := h
  refine gives_val (.slice A n c) ?_ ⟨⟨A, n, c, rfl, h2.2.1.1⟩, Below.refl _ _⟩
  unfold execOp
  rw [ho]
  simp only [eval_tmp, h1, Sem.run_bind, fldR1, Result.andThen_ok]
  rfl
end

end Go.Proofs.Ytpnklmgfdihjfaa
namespace Go.Proofs.Ytpnklmgfdihjfaa
open Go.RowKit
set_option linter.unusedVariables false
set_option linter.unusedSimpArgs false

theorem gives_dyn {P : Program} {o : Oper} {a : Act} {w : World} {Kp : Value → World → Prop} (K : FuncId) (caps : Array Value) (t : Tmp) (x : Operand) (ts : Array TypeId) (ho : o.op = .call { callee := .value (.tmp t), args := #[x], argTypes := ts }) (ht : tv a t = .func (.func K) #[] caps) (hf : callsB P K = true)
    (h : Calls P K (#[a.eval x] ++ caps) w (fun e w'' => ∃ v, e = .returned v ∧ Kp v w'')) : gives P o a.eval w Kp := by
  have hr : (execOp a.eval o).run P w = .ok (.enter K (#[a.eval x] ++ caps)) w := by
    have hh : a.eval (.tmp t) = .func (.func K) #[] caps := ht
    unfold execOp
    rw [ho]
    simp [resolve, Deferred.ofValue, invoke, hh, run_callFunc hf]
  unfold gives; rw [hr]; exact h
theorem load_fnb {o : Oper} {a : Act} {w : World} {t : Tmp} {p : Addr} {v : Value} (ho : o.op = .load 103 (.tmp t)) (hx : tv a t = .pointer (some p)) (hc : w.cell? p = some v) : gives Try.prog o a.eval w (fun z w' => z = v ∧ Below w.heap.size w w') := by
  refine gives_val v ?_ ⟨rfl, Below.refl _ _⟩
  unfold execOp; rw [ho]; simp only [eval_tmp, hx]; go_simp
theorem load_u9 {o : Oper} {a : Act} {w : World} {t : Tmp} {p : Addr} {v : Value} (ho : o.op = .load 25 (.tmp t)) (hx : tv a t = .pointer (some p)) (hc : w.cell? p = some v) : gives Try.prog o a.eval w (fun z w' => z = v ∧ Below w.heap.size w w') := by
  refine gives_val v ?_ ⟨rfl, Below.refl _ _⟩
  unfold execOp; rw [ho]; simp only [eval_tmp, hx]; go_simp
theorem andnot_u9 {o : Oper} {a : Act} {w : World} {t u : Tmp} {x y : Nat} {T T2 : TypeId} (hx : x < 4294967296) (hy : y < 4294967296) (ho : o.op = .binOp .andNot T (.tmp t) (.tmp u) T2) (h : tv a t = .int .u32 (x : Int)) (h2 : tv a u = .int .u32 (y : Int)) : gives Try.prog o a.eval w (fun v w' => v = .int .u32 ((andn x y : Nat) : Int) ∧ Below w.heap.size w w') := by
  have e := bits_andNot x y hx hy
  refine gives_val (.int .u32 ((andn x y : Nat) : Int)) ?_ ⟨rfl, Below.refl _ _⟩
  unfold execOp; rw [ho]; simp only [eval_tmp, h, h2]
  go_simp
theorem and1_b9 {o : Oper} {a : Act} {w : World} {t : Tmp} {x k : Nat} {T T2 : TypeId} (hx : x < 4294967296) (ho : o.op = .binOp .and T (.tmp t) (.const (.int .u32 1)) T2) (h : tv a t = .int .u32 ((x : Int) / 2 ^ k)) : gives Try.prog o a.eval w (fun v w' => v = .int .u32 ((bt9 x k : Nat) : Int) ∧ Below w.heap.size w w') := and1_u32 hx ho h
theorem bt9_eq (x k : Nat) : ((((bt9 x k : Nat) : Int)) == 1) = x.testBit k := by
  unfold bt9; cases x.testBit k <;> rfl
theorem sign_ge9 {x : Rat} : decide (x.num.sign ≥ 0) = decide (0 ≤ x) := by
  rw [decide_eq_decide, ← Rat.num_nonneg]
  constructor
  · intro h; by_cases h0 : 0 ≤ x.num
    · exact h0
    · have := Int.sign_eq_neg_one_of_neg (by omega : x.num < 0); omega
  · intro h; exact Int.sign_nonneg_iff.2 h
theorem sign_eq9 {x : Rat} : (x.num.sign == 0) = decide (x = 0) := by
  have e : x.num = 0 ↔ x = 0 := ⟨fun h => Rat.num_eq_zero.1 h, fun h => by rw [h]; rfl⟩
  by_cases h : x = 0
  · rw [decide_eq_true h, e.2 h]; rfl
  · have h2 : x.num ≠ 0 := fun h3 => h (e.1 h3)
    rw [decide_eq_false h]
    simpa [Int.sign_eq_zero_iff_zero] using h2
theorem sign_gt9 {x : Rat} : decide (x.num.sign > 0) = decide (0 < x) := by
  rw [decide_eq_decide]
  have e : 0 < x.num ↔ 0 < x := num_pos
  rw [← e]
  constructor
  · intro h; exact Int.sign_eq_one_iff_pos.1 (by have := Int.sign_trichotomy x.num; omega)
  · intro h; rw [Int.sign_eq_one_iff_pos.2 h]; decide
theorem rcq_ge9 {x y : Rat} : decide (rcq x y ≥ 0) = decide (y ≤ x) := by
  rw [decide_eq_decide]; unfold rcq
  split
  · rename_i h; exact ⟨fun h2 => by omega, fun h2 => absurd h (Rat.not_lt.2 h2)⟩
  · rename_i h
    exact ⟨fun _ => Rat.not_lt.1 h, fun _ => by split <;> omega⟩
theorem rcq_le9 {x y : Rat} : decide (rcq x y ≤ 0) = decide (x ≤ y) := by
  rw [decide_eq_decide]; unfold rcq
  split
  · rename_i h; exact ⟨fun _ => Rat.le_of_lt h, fun _ => by omega⟩
  · split
    · rename_i h; exact ⟨fun h2 => by omega, fun h2 => absurd h (Rat.not_lt.2 h2)⟩
    · rename_i h1 h2; exact ⟨fun _ => Rat.not_lt.1 h2, fun _ => by omega⟩
theorem rcq_eq9 {x y : Rat} : (rcq x y == 0) = decide (x = y) := by
  by_cases h : x = y
  · rw [decide_eq_true h, rcq_eq h]; rfl
  · rw [decide_eq_false h]; unfold rcq
    split
    · rfl
    · rename_i h1
      split
      · rfl
      · rename_i h2; exact absurd (Rat.le_antisymm (Rat.not_lt.1 h2) (Rat.not_lt.1 h1)) h
/-- What a call of require leaves. -/
def RqE (g : Nat) (B : Bool) (w w' : World) : Prop := Blk w' g 4 #[.bool B] ∧ w.grownBy w' (some g) ∧ KeepsN w w'
theorem RqE.after {g : Nat} {B : Bool} {w w1 w2 : World} (hb : Below w.heap.size w w1) (h : RqE g B w1 w2) : RqE g B w w2 := ⟨h.1, grown_after hb h.2.1, (KeepsN.below hb).trans h.2.2⟩
theorem Bn.grown9 {b g row : Nat} {x : Rat} {w w' : World} (h : Bn b x g w) (hg : w.grownBy w' (some row)) (hne : g ≠ row) (kp : KeepsN w w') : Bn b x g w' := by
  obtain ⟨s, A, n, c, B, m, d, h1, h2⟩ := h
  obtain ⟨s', A', n', c', B', m', d', e, h3⟩ := Rv.keepN (⟨s, A, n, c, B, m, d, rfl, h2⟩ : Rv b x (.agg #[.bool s, .slice A n c, .slice B m d]) w) kp
  cases e
  exact ⟨s, A, n, c, B, m, d, Blk.grown h1.blk3 hg (fun e => by injection e with e; exact hne e), h3⟩
/-- All of the first n. -/
def allB (f : Nat → Bool) : Nat → Bool
  | 0 => true
  | i + 1 => allB f i && f i
theorem allB_iff {f : Nat → Bool} : ∀ {n : Nat}, allB f n = true ↔ ∀ i, i < n → f i = true
  | 0 => ⟨fun _ _ h => absurd h (by omega), fun _ => rfl⟩
  | n + 1 => by
    rw [allB, Bool.and_eq_true, allB_iff]
    constructor
    · rintro ⟨h1, h2⟩ i hi
      by_cases e : i = n
      · rw [e]; exact h2
      · exact h1 i (by omega)
    · intro h; exact ⟨fun i hi => h i (by omega), h n (by omega)⟩
/-- What Check looks at. -/
def ckB (n m : Nat) (es : Nat → Nat) (s : Nat) (W P : Nat → Rat) (x : Rat) : Bool :=
  allB (fun i => decide (0 ≤ W i)) m && allB (fun v => decide (P v = 0) || (decide (0 < P v) && s.testBit v)) n && allB (fun v => !s.testBit v || decide (1 ≤ tsm (fun i => (es i).testBit v) W m)) n
    && allB (fun i => decide (tsm (fun v => (es i).testBit v) P n ≤ 1)) m && decide (tsm (fun _ => true) W m = x) && decide (tsm (fun _ => true) P n = x)
theorem tsm_all (W : Nat → Rat) (m : Nat) : tsm (fun _ => true) W m = sm W m := rfl
theorem ckB_iff {n m : Nat} {es : Nat → Nat} {s : Nat} {W P : Nat → Rat} {x : Rat} : ckB n m es s W P x = true ↔ CovOK n m es s W P x := by
  unfold ckB
  simp only [Bool.and_eq_true, allB_iff, decide_eq_true_eq, Bool.or_eq_true, Bool.not_eq_true', tsm_all]
  constructor
  · rintro ⟨⟨⟨⟨⟨h1, h2⟩, h3⟩, h4⟩, h5⟩, h6⟩
    refine ⟨h1, fun v hv => ?_, fun v hv hb => ?_, fun v hv hb => ?_, h4, of_decide_eq_true h5, of_decide_eq_true h6⟩
    · rcases h2 v hv with h | h
      · rw [h]; exact Rat.le_refl
      · exact Rat.le_of_lt h.1
    · rcases h2 v hv with h | h
      · exact h
      · rw [hb] at h; exact absurd h.2 (by decide)
    · rcases h3 v hv with h | h
      · rw [hb] at h; exact absurd h (by decide)
      · exact h
  · intro h
    refine ⟨⟨⟨⟨⟨h.w0, fun v hv => ?_⟩, fun v hv => ?_⟩, h.pac⟩, decide_eq_true h.ws⟩, decide_eq_true h.ps⟩
    · by_cases e : P v = 0
      · exact .inl e
      · refine .inr ⟨by have := h.p0 v hv; grind, ?_⟩
        cases hb : s.testBit v with
        | true => rfl
        | false => exact absurd (h.pz v hv hb) e
    · cases hb : s.testBit v with
      | false => exact .inl rfl
      | true => exact .inr (h.cov v hv hb)
set_option maxRecDepth 100000 in
set_option maxHeartbeats 8000000 in
theorem ck1_any (g7 : Nat) (B c : Bool) (w : World) (hB : Blk w g7 4 #[.bool B]) : Calls Try.prog 55 (#[.bool c] ++ #[.pointer (some ⟨g7, 0, none⟩)]) w (fun e w' => e = .returned (.tuple #[]) ∧ RqE g7 (B && c) w w') := by
  have HB := Lib.hid hB; clear hB
  show Calls Try.prog 55 #[.bool c, .pointer (some ⟨g7, 0, none⟩)] w _
  have x0 := Blk.at0 HB.out (Below.refl _ _)
  have f0 := HB.out.frozen 0
  have kn := fun u => KeepsN.blk HB.out (i := 0) (by show 0 < 1; omega) (by intro x; simp) u
  have gn := fun u => only_setCell (World.grownBy.refl w (some g7)) (p := ⟨g7, 0, none⟩) (.inl rfl) u
  have HK := Lib.hid kn; have HGn := Lib.hid gn; clear kn gn
  go_enter Try.func55, Try.ntmps55
  cases B with
  | false =>
    go_wp2_with fail
    exact bodyPost_end (results_none rfl _ _ _) rfl ⟨rfl, HB.out.set_ 0 _, HGn.out _, HK.out _⟩
  | true =>
    go_wp2_with fail
    exact bodyPost_end (results_none rfl _ _ _) rfl ⟨rfl, by cases c <;> exact HB.out.set_ 0 _, HGn.out _, HK.out _⟩
set_option maxRecDepth 100000 in
set_option maxHeartbeats 8000000 in
theorem ck2_any (i g7 g9 b : Nat) (B : Bool) (x : Rat) (v : Value) (w : World) (hF : Blk w g9 103 #[.func (.func 55) #[] #[.pointer (some ⟨g7, 0, none⟩)]]) (hB : Blk w g7 4 #[.bool B]) (hv : Rw b x v w) :
    Calls Try.prog 57 (#[.int .i64 (i : Int), v] ++ #[.pointer (some ⟨g9, 0, none⟩)]) w (fun e w' => e = .returned (.tuple #[]) ∧ RqE g7 (B && decide (0 ≤ x)) w w') := by
  have HF := Lib.hid hF; have HB7 := Lib.hid hB; have HV := Lib.hid hv; clear hF hB
  obtain ⟨s0, A0, k0, c0, B0, m0, d0, rfl, -⟩ := hv
  show Calls Try.prog 57 #[.int .i64 (i : Int), .agg #[.bool s0, .slice A0 k0 c0, .slice B0 m0 d0], .pointer (some ⟨g9, 0, none⟩)] w _
  have HL := Lib.hid (show g9 < w.heap.size ∧ g7 < w.heap.size from ⟨HF.out.lt, HB7.out.lt⟩)
  go_enter Try.func57, Try.ntmps57
  go_upto_region 1 with (fail)
  have hbw := al w (.cells #[.bool s0, .slice A0 k0 c0, .slice B0 m0 d0] 31)
  have HY := Lib.hid (Blk.new w 31 #[.bool s0, .slice A0 k0 c0, .slice B0 m0 d0])
  have HB := Lib.hid hbw
  replace HF := Lib.hid (HF.out.keep hbw)
  replace HB7 := Lib.hid (HB7.out.keep hbw)
  replace HV := Lib.hid (HV.out.new hbw)
  clear hbw
  generalize w.alloc (.cells #[.bool s0, .slice A0 k0 c0, .slice B0 m0 d0] 31) = w1 at *
  obtain ⟨g6, hg6⟩ : ∃ g6, g6 = w.heap.size := ⟨_, rfl⟩
  rw [← hg6] at HY ⊢
  have HGg6 := Lib.hid (show w.heap.size ≤ g6 from by omega)
  clear hg6
  have HYb := Lib.hid (show Bx b x g6 w1 from by obtain ⟨s1, A1, n1, c1, B1, m1, d1, e, h⟩ := HV.out; cases e; exact ⟨_, _, _, _, _, _, _, HY.out, h⟩)
  refine wp_region_join (kss := [[], [], [(1, 6)], [(2, 7)]]) [(2, .pointer (some ⟨g9, 0, none⟩)), (4, .pointer (some ⟨g6, 0, none⟩))] [EV (.func (.func 55) #[] #[.pointer (some ⟨g7, 0, none⟩)]), Rw (b) (x), EV (.int .i64 ((x).num.sign)), EV (.bool (decide (0 ≤ x)))] 4 [] (by kernel_rfl) (by kernel_rfl) ⟨rfl, rfl, trivial⟩ [false, false, false, false] ?_ ?_ ?_ ?_
  · exact fun i hi => absurd hi (by simp)
  · exact ⟨eI, fun _ _ _ h hb => h.new hb, eI, eI, trivial⟩
  · refine ⟨?_, ?_, ?_, ?_, trivial⟩
    · exact fun aa ww hb he hd => ob_plain rfl (load_fnb rfl he.1 (Blk.at0 HF.out hb))
    · exact fun aa ww hb he hd => ob_plain rfl (load_bx rfl he.2.1 (Bx.new HYb.out hb))
    · exact fun aa ww hb he hd => ob_plain rfl (gives_call1 _ _ _ rfl (by kernel_rfl) (sign_v (hd.1)))
    · exact fun aa ww hb he hd => ob_plain rfl (gives_ge_int ((x).num.sign) 0 .i64 _ _ _ _ rfl hd.1 rfl ⟨congrArg Value.bool (sign_ge9), Below.refl _ _⟩)
  intro vs w3 hb hR _
  have e5 : vs 0 = .func (.func 55) #[] #[.pointer (some ⟨g7, 0, none⟩)] := hR 0 (by decide)
  have e8 : vs 3 = .bool (decide (0 ≤ x)) := hR 3 (by decide)
  clear hR
  simp only [putsL, Nat.zero_add, Nat.reduceAdd, List.take_succ_cons, List.take_zero, Act.put, List.setIfInBounds_toArray, List.set_cons_zero, List.set_cons_succ]
  rw [e5, e8]
  clear e5 e8
  replace HF := Lib.hid (HF.out.keep hb)
  replace HB7 := Lib.hid (HB7.out.keep hb)
  replace HV := Lib.hid (HV.out.new hb)
  replace HB := Lib.hid (bthen HB.out hb HB.out.size)
  replace HY := Lib.hid (HY.out.keep hb)
  clear hb
  show wpAny _ _ _ _ 1 _ _ _
  refine wpAny_next (i := 4) (by kernel_rfl) rfl rfl (wp_of_gives (gives_dyn _ _ 5 _ _ rfl rfl (by kernel_rfl) ((ck1_any g7 B (decide (0 ≤ x)) _ HB7.out).mono (fun (e : Ending) w9 hq => (⟨.tuple #[], hq.1, rfl, hq.2⟩ : ∃ v, e = .returned v ∧ (v = .tuple #[] ∧ RqE g7 (B && decide (0 ≤ x)) _ w9))))) ?_)
  rintro _ w4 ⟨rfl, hq⟩
  show wpAny _ _ _ _ _ _ (Act.put _ (some 9) _) _
  simp only [Act.put, List.setIfInBounds_toArray, List.set_cons_zero, List.set_cons_succ]
  refine wpAny_end (by kernel_rfl) (calm_normal ?_) _
  go_wp2_with fail
  exact bodyPost_end (results_none rfl _ _ _) rfl ⟨rfl, RqE.after HB.out hq⟩
/-- Whether a vertex's weight is allowed. -/
def ckP (s i : Nat) (x : Rat) : Bool := decide (x = 0) || (decide (0 < x) && s.testBit i)
set_option maxRecDepth 100000 in
set_option maxHeartbeats 8000000 in
theorem ck3_any (i g4 g7 g9 b s : Nat) (B : Bool) (x : Rat) (v : Value) (w : World) (hF : Blk w g9 103 #[.func (.func 55) #[] #[.pointer (some ⟨g7, 0, none⟩)]]) (hB : Blk w g7 4 #[.bool B]) (hS : Blk w g4 25 #[.int .u32 (s : Int)]) (hs : s < 4294967296) (hi : i < 32) (hv : Rw b x v w) :
    Calls Try.prog 58 (#[.int .i64 (i : Int), v] ++ #[.pointer (some ⟨g9, 0, none⟩), .pointer (some ⟨g4, 0, none⟩)]) w (fun e w' => e = .returned (.tuple #[]) ∧ RqE g7 (B && ckP s i x) w w') := by
  have HF := Lib.hid hF; have HB7 := Lib.hid hB; have HV := Lib.hid hv; clear hF hB; have HS := Lib.hid hS; have HS32 := Lib.hid hs; have HI := Lib.hid hi; clear hS hs hi
  obtain ⟨s0, A0, k0, c0, B0, m0, d0, rfl, -⟩ := hv
  show Calls Try.prog 58 #[.int .i64 (i : Int), .agg #[.bool s0, .slice A0 k0 c0, .slice B0 m0 d0], .pointer (some ⟨g9, 0, none⟩), .pointer (some ⟨g4, 0, none⟩)] w _
  have HL := Lib.hid (show g9 < w.heap.size ∧ g7 < w.heap.size from ⟨HF.out.lt, HB7.out.lt⟩)
  go_enter Try.func58, Try.ntmps58
  go_upto_region 1 with (fail)
  have hbw := al w (.cells #[.bool s0, .slice A0 k0 c0, .slice B0 m0 d0] 31)
  have HY := Lib.hid (Blk.new w 31 #[.bool s0, .slice A0 k0 c0, .slice B0 m0 d0])
  have HB := Lib.hid hbw
  replace HF := Lib.hid (HF.out.keep hbw)
  replace HB7 := Lib.hid (HB7.out.keep hbw)
  replace HV := Lib.hid (HV.out.new hbw)
  replace HS := Lib.hid (HS.out.keep hbw)
  clear hbw
  generalize w.alloc (.cells #[.bool s0, .slice A0 k0 c0, .slice B0 m0 d0] 31) = w1 at *
  obtain ⟨g6, hg6⟩ : ∃ g6, g6 = w.heap.size := ⟨_, rfl⟩
  rw [← hg6] at HY ⊢
  have HGg6 := Lib.hid (show w.heap.size ≤ g6 from by omega)
  clear hg6
  have HYb := Lib.hid (show Bx b x g6 w1 from by obtain ⟨s1, A1, n1, c1, B1, m1, d1, e, h⟩ := HV.out; cases e; exact ⟨_, _, _, _, _, _, _, HY.out, h⟩)
  by_cases h0 : x = 0
  · skip
    refine wp_region_join (kss := [[], [], [(1, 7)], [(2, 8)], [(3, 9)], [(4, 10)], [(4, 10), (5, 11)], [(4, 10), (6, 12)], [(4, 10), (7, 13)], [(8, 14)], [(8, 14)], [(8, 14), (9, 15), (10, 16)], [(8, 14), (11, 17)], [(8, 14), (12, 18)], [(4, 10), (8, 14), (13, 19)], [(4, 10), (14, 20)]]) [(2, .pointer (some ⟨g9, 0, none⟩)), (5, .pointer (some ⟨g6, 0, none⟩)), (3, .pointer (some ⟨g4, 0, none⟩)), (0, .int .i64 ((i : Int)))] [EV (.func (.func 55) #[] #[.pointer (some ⟨g7, 0, none⟩)]), Rw (b) (x), EV (.int .i64 ((x).num.sign)), EV (.bool true), EV (.bool true), EV (undef), EV (undef), EV (undef), EV (undef), EV (undef), EV (undef), EV (undef), EV (undef), EV (undef), EV (undef), EV (.bool true)] 16 [] (by kernel_rfl) (by kernel_rfl) ⟨rfl, rfl, rfl, rfl, trivial⟩ [false, false, false, false, false, false, false, false, false, false, false, false, false, false, false, false] ?_ ?_ ?_ ?_
    · exact fun i hi => absurd hi (by simp)
    · exact ⟨eI, fun _ _ _ h hb => h.new hb, eI, eI, eI, eI, eI, eI, eI, eI, eI, eI, eI, eI, eI, eI, trivial⟩
    · refine ⟨?_, ?_, ?_, ?_, ?_, ?_, ?_, ?_, ?_, ?_, ?_, ?_, ?_, ?_, ?_, ?_, trivial⟩
      · exact fun aa ww hb he hd => ob_plain rfl (load_fnb rfl he.1 (Blk.at0 HF.out hb))
      · exact fun aa ww hb he hd => ob_plain rfl (load_bx rfl he.2.1 (Bx.new HYb.out hb))
      · exact fun aa ww hb he hd => ob_plain rfl (gives_call1 _ _ _ rfl (by kernel_rfl) (sign_v (hd.1)))
      · exact fun aa ww hb he hd => ob_plain rfl (gives_eq_int ((x).num.sign) 0 .i64 _ _ _ _ rfl hd.1 rfl ⟨congrArg Value.bool (sign_eq9.trans (decide_eq_true h0)), Below.refl _ _⟩)
      · exact fun _ _ _ he hd => ob_mv rfl rfl hd.1
      · exact fun aa ww hb he hd => ob_off 10 rfl (by kernel_rfl) hd.1 rfl
      · exact fun aa ww hb he hd => ob_off 10 rfl (by kernel_rfl) hd.1 rfl
      · exact fun aa ww hb he hd => ob_off 10 rfl (by kernel_rfl) hd.1 rfl
      · exact fun aa ww hb he hd => ob_off 10 rfl (by kernel_rfl) hd.1 rfl
      · exact fun aa ww hb he hd => ob_undef 14 rfl (by kernel_rfl) hd.1 rfl
      · exact fun aa ww hb he hd => ob_undef 14 rfl (by kernel_rfl) hd.1 rfl
      · exact fun aa ww hb he hd => ob_undef 14 rfl (by kernel_rfl) hd.1 rfl
      · exact fun aa ww hb he hd => ob_undef 14 rfl (by kernel_rfl) hd.1 rfl
      · exact fun aa ww hb he hd => ob_undef 14 rfl (by kernel_rfl) hd.1 rfl
      · exact fun aa ww hb he hd => ob_off 10 rfl (by kernel_rfl) hd.1 rfl
      · exact fun aa ww hb he hd => ob_plain rfl (gives_pick true _ _ _ rfl hd.1 ⟨rfl, Below.refl _ _⟩)
    intro vs w3 hb hR _
    have e6 : vs 0 = .func (.func 55) #[] #[.pointer (some ⟨g7, 0, none⟩)] := hR 0 (by decide)
    have e21 : vs 15 = .bool true := hR 15 (by decide)
    clear hR
    simp only [putsL, Nat.zero_add, Nat.reduceAdd, List.take_succ_cons, List.take_zero, Act.put, List.setIfInBounds_toArray, List.set_cons_zero, List.set_cons_succ]
    rw [e6, e21]
    clear e6 e21
    replace HF := Lib.hid (HF.out.keep hb)
    replace HB7 := Lib.hid (HB7.out.keep hb)
    replace HV := Lib.hid (HV.out.new hb)
    replace HS := Lib.hid (HS.out.keep hb)
    replace HB := Lib.hid (bthen HB.out hb HB.out.size)
    replace HY := Lib.hid (HY.out.keep hb)
    clear hb
    show wpAny _ _ _ _ 1 _ _ _
    refine wpAny_next (i := 16) (by kernel_rfl) rfl rfl (wp_of_gives (gives_dyn _ _ 6 _ _ rfl rfl (by kernel_rfl) ((ck1_any g7 B true _ HB7.out).mono (fun (e : Ending) w9 hq => (⟨.tuple #[], hq.1, rfl, hq.2⟩ : ∃ v, e = .returned v ∧ (v = .tuple #[] ∧ RqE g7 (B && true) _ w9))))) ?_)
    rintro _ w4 ⟨rfl, hq⟩
    show wpAny _ _ _ _ _ _ (Act.put _ (some 22) _) _
    simp only [Act.put, List.setIfInBounds_toArray, List.set_cons_zero, List.set_cons_succ]
    refine wpAny_end (by kernel_rfl) (calm_normal ?_) _
    go_wp2_with fail
    exact bodyPost_end (results_none rfl _ _ _) rfl ⟨rfl, by rw [show ckP s i x = true from by unfold ckP; rw [decide_eq_true h0]; rfl]; exact RqE.after HB.out hq⟩
  by_cases hp : 0 < x
  rotate_left
  · skip
    refine wp_region_join (kss := [[], [], [(1, 7)], [(2, 8)], [(3, 9)], [(4, 10)], [(4, 10), (5, 11)], [(4, 10), (6, 12)], [(4, 10), (7, 13)], [(8, 14)], [(8, 14)], [(8, 14), (9, 15), (10, 16)], [(8, 14), (11, 17)], [(8, 14), (12, 18)], [(4, 10), (8, 14), (13, 19)], [(4, 10), (14, 20)]]) [(2, .pointer (some ⟨g9, 0, none⟩)), (5, .pointer (some ⟨g6, 0, none⟩)), (3, .pointer (some ⟨g4, 0, none⟩)), (0, .int .i64 ((i : Int)))] [EV (.func (.func 55) #[] #[.pointer (some ⟨g7, 0, none⟩)]), Rw (b) (x), EV (.int .i64 ((x).num.sign)), EV (.bool false), EV (.bool false), Rw (b) (x), EV (.int .i64 ((x).num.sign)), EV (.bool false), EV (.bool false), EV (undef), EV (undef), EV (undef), EV (undef), EV (undef), EV (.bool false), EV (.bool false)] 16 [] (by kernel_rfl) (by kernel_rfl) ⟨rfl, rfl, rfl, rfl, trivial⟩ [false, false, false, false, false, false, false, false, false, false, false, false, false, false, false, false] ?_ ?_ ?_ ?_
    · exact fun i hi => absurd hi (by simp)
    · exact ⟨eI, fun _ _ _ h hb => h.new hb, eI, eI, eI, fun _ _ _ h hb => h.new hb, eI, eI, eI, eI, eI, eI, eI, eI, eI, eI, trivial⟩
    · refine ⟨?_, ?_, ?_, ?_, ?_, ?_, ?_, ?_, ?_, ?_, ?_, ?_, ?_, ?_, ?_, ?_, trivial⟩
      · exact fun aa ww hb he hd => ob_plain rfl (load_fnb rfl he.1 (Blk.at0 HF.out hb))
      · exact fun aa ww hb he hd => ob_plain rfl (load_bx rfl he.2.1 (Bx.new HYb.out hb))
      · exact fun aa ww hb he hd => ob_plain rfl (gives_call1 _ _ _ rfl (by kernel_rfl) (sign_v (hd.1)))
      · exact fun aa ww hb he hd => ob_plain rfl (gives_eq_int ((x).num.sign) 0 .i64 _ _ _ _ rfl hd.1 rfl ⟨congrArg Value.bool (sign_eq9.trans (decide_eq_false h0)), Below.refl _ _⟩)
      · exact fun _ _ _ he hd => ob_mv rfl rfl hd.1
      · exact fun aa ww hb he hd => ob_on 10 rfl (by kernel_rfl) hd.1 (load_bx rfl he.2.1 (Bx.new HYb.out hb))
      · exact fun aa ww hb he hd => ob_on 10 rfl (by kernel_rfl) hd.1 (gives_call1 _ _ _ rfl (by kernel_rfl) (sign_v (hd.2.1)))
      · exact fun aa ww hb he hd => ob_on 10 rfl (by kernel_rfl) hd.1 (gives_gt_int ((x).num.sign) 0 .i64 _ _ _ _ rfl hd.2.1 rfl ⟨congrArg Value.bool (sign_gt9.trans (decide_eq_false hp)), Below.refl _ _⟩)
      · exact fun aa ww hb he hd => ob_on 10 rfl (by kernel_rfl) hd.1 (gives_move _ rfl ⟨hd.2.1, Below.refl _ _⟩)
      · exact fun aa ww hb he hd => ob_off 14 rfl (by kernel_rfl) hd.1 rfl
      · exact fun aa ww hb he hd => ob_off 14 rfl (by kernel_rfl) hd.1 rfl
      · exact fun aa ww hb he hd => ob_off 14 rfl (by kernel_rfl) hd.1 rfl
      · exact fun aa ww hb he hd => ob_off 14 rfl (by kernel_rfl) hd.1 rfl
      · exact fun aa ww hb he hd => ob_off 14 rfl (by kernel_rfl) hd.1 rfl
      · exact fun aa ww hb he hd => ob_on 10 rfl (by kernel_rfl) hd.1 (gives_pick false _ _ _ rfl hd.2.1 ⟨rfl, Below.refl _ _⟩)
      · exact fun aa ww hb he hd => ob_plain rfl (gives_pick false _ _ _ rfl hd.1 ⟨hd.2.1, Below.refl _ _⟩)
    intro vs w3 hb hR _
    have e6 : vs 0 = .func (.func 55) #[] #[.pointer (some ⟨g7, 0, none⟩)] := hR 0 (by decide)
    have e21 : vs 15 = .bool false := hR 15 (by decide)
    clear hR
    simp only [putsL, Nat.zero_add, Nat.reduceAdd, List.take_succ_cons, List.take_zero, Act.put, List.setIfInBounds_toArray, List.set_cons_zero, List.set_cons_succ]
    rw [e6, e21]
    clear e6 e21
    replace HF := Lib.hid (HF.out.keep hb)
    replace HB7 := Lib.hid (HB7.out.keep hb)
    replace HV := Lib.hid (HV.out.new hb)
    replace HS := Lib.hid (HS.out.keep hb)
    replace HB := Lib.hid (bthen HB.out hb HB.out.size)
    replace HY := Lib.hid (HY.out.keep hb)
    clear hb
    show wpAny _ _ _ _ 1 _ _ _
    refine wpAny_next (i := 16) (by kernel_rfl) rfl rfl (wp_of_gives (gives_dyn _ _ 6 _ _ rfl rfl (by kernel_rfl) ((ck1_any g7 B false _ HB7.out).mono (fun (e : Ending) w9 hq => (⟨.tuple #[], hq.1, rfl, hq.2⟩ : ∃ v, e = .returned v ∧ (v = .tuple #[] ∧ RqE g7 (B && false) _ w9))))) ?_)
    rintro _ w4 ⟨rfl, hq⟩
    show wpAny _ _ _ _ _ _ (Act.put _ (some 22) _) _
    simp only [Act.put, List.setIfInBounds_toArray, List.set_cons_zero, List.set_cons_succ]
    refine wpAny_end (by kernel_rfl) (calm_normal ?_) _
    go_wp2_with fail
    exact bodyPost_end (results_none rfl _ _ _) rfl ⟨rfl, by rw [show ckP s i x = false from by unfold ckP; rw [decide_eq_false h0, decide_eq_false hp]; rfl]; exact RqE.after HB.out hq⟩
  · skip
    refine wp_region_join (kss := [[], [], [(1, 7)], [(2, 8)], [(3, 9)], [(4, 10)], [(4, 10), (5, 11)], [(4, 10), (6, 12)], [(4, 10), (7, 13)], [(8, 14)], [(8, 14)], [(8, 14), (9, 15), (10, 16)], [(8, 14), (11, 17)], [(8, 14), (12, 18)], [(4, 10), (8, 14), (13, 19)], [(4, 10), (14, 20)]]) [(2, .pointer (some ⟨g9, 0, none⟩)), (5, .pointer (some ⟨g6, 0, none⟩)), (3, .pointer (some ⟨g4, 0, none⟩)), (0, .int .i64 ((i : Int)))] [EV (.func (.func 55) #[] #[.pointer (some ⟨g7, 0, none⟩)]), Rw (b) (x), EV (.int .i64 ((x).num.sign)), EV (.bool false), EV (.bool false), Rw (b) (x), EV (.int .i64 ((x).num.sign)), EV (.bool true), EV (.bool true), EV (.int .u32 ((s : Int))), EV (.int .i64 ((i : Int))), EV (.int .u32 (((s : Int) / 2 ^ i))), EV (.int .u32 (((bt9 s i : Nat) : Int))), EV (.bool (s.testBit i)), EV (.bool (s.testBit i)), EV (.bool (s.testBit i))] 16 [] (by kernel_rfl) (by kernel_rfl) ⟨rfl, rfl, rfl, rfl, trivial⟩ [false, false, false, false, false, false, false, false, false, false, false, false, false, false, false, false] ?_ ?_ ?_ ?_
    · exact fun i hi => absurd hi (by simp)
    · exact ⟨eI, fun _ _ _ h hb => h.new hb, eI, eI, eI, fun _ _ _ h hb => h.new hb, eI, eI, eI, eI, eI, eI, eI, eI, eI, eI, trivial⟩
    · refine ⟨?_, ?_, ?_, ?_, ?_, ?_, ?_, ?_, ?_, ?_, ?_, ?_, ?_, ?_, ?_, ?_, trivial⟩
      · exact fun aa ww hb he hd => ob_plain rfl (load_fnb rfl he.1 (Blk.at0 HF.out hb))
      · exact fun aa ww hb he hd => ob_plain rfl (load_bx rfl he.2.1 (Bx.new HYb.out hb))
      · exact fun aa ww hb he hd => ob_plain rfl (gives_call1 _ _ _ rfl (by kernel_rfl) (sign_v (hd.1)))
      · exact fun aa ww hb he hd => ob_plain rfl (gives_eq_int ((x).num.sign) 0 .i64 _ _ _ _ rfl hd.1 rfl ⟨congrArg Value.bool (sign_eq9.trans (decide_eq_false h0)), Below.refl _ _⟩)
      · exact fun _ _ _ he hd => ob_mv rfl rfl hd.1
      · exact fun aa ww hb he hd => ob_on 10 rfl (by kernel_rfl) hd.1 (load_bx rfl he.2.1 (Bx.new HYb.out hb))
      · exact fun aa ww hb he hd => ob_on 10 rfl (by kernel_rfl) hd.1 (gives_call1 _ _ _ rfl (by kernel_rfl) (sign_v (hd.2.1)))
      · exact fun aa ww hb he hd => ob_on 10 rfl (by kernel_rfl) hd.1 (gives_gt_int ((x).num.sign) 0 .i64 _ _ _ _ rfl hd.2.1 rfl ⟨congrArg Value.bool (sign_gt9.trans (decide_eq_true hp)), Below.refl _ _⟩)
      · exact fun aa ww hb he hd => ob_on 10 rfl (by kernel_rfl) hd.1 (gives_move _ rfl ⟨hd.2.1, Below.refl _ _⟩)
      · exact fun aa ww hb he hd => ob_on 14 rfl (by kernel_rfl) hd.1 (load_u9 rfl he.2.2.1 (Blk.at0 HS.out hb))
      · exact fun aa ww hb he hd => ob_on 14 rfl (by kernel_rfl) hd.1 (gives_move _ rfl ⟨he.2.2.2.1, Below.refl _ _⟩)
      · exact fun aa ww hb he hd => ob_on 14 rfl (by kernel_rfl) hd.1 (shr_u32 HI.out rfl hd.2.1 hd.2.2.1)
      · exact fun aa ww hb he hd => ob_on 14 rfl (by kernel_rfl) hd.1 (and1_b9 HS32.out rfl hd.2.1)
      · exact fun aa ww hb he hd => ob_on 14 rfl (by kernel_rfl) hd.1 (gives_eq_int (((bt9 s i : Nat) : Int)) 1 .u32 _ _ _ _ rfl hd.2.1 rfl ⟨congrArg Value.bool (bt9_eq s i), Below.refl _ _⟩)
      · exact fun aa ww hb he hd => ob_on 10 rfl (by kernel_rfl) hd.1 (gives_pick true _ _ _ rfl hd.2.1 ⟨hd.2.2.1, Below.refl _ _⟩)
      · exact fun aa ww hb he hd => ob_plain rfl (gives_pick false _ _ _ rfl hd.1 ⟨hd.2.1, Below.refl _ _⟩)
    intro vs w3 hb hR _
    have e6 : vs 0 = .func (.func 55) #[] #[.pointer (some ⟨g7, 0, none⟩)] := hR 0 (by decide)
    have e21 : vs 15 = .bool (s.testBit i) := hR 15 (by decide)
    clear hR
    simp only [putsL, Nat.zero_add, Nat.reduceAdd, List.take_succ_cons, List.take_zero, Act.put, List.setIfInBounds_toArray, List.set_cons_zero, List.set_cons_succ]
    rw [e6, e21]
    clear e6 e21
    replace HF := Lib.hid (HF.out.keep hb)
    replace HB7 := Lib.hid (HB7.out.keep hb)
    replace HV := Lib.hid (HV.out.new hb)
    replace HS := Lib.hid (HS.out.keep hb)
    replace HB := Lib.hid (bthen HB.out hb HB.out.size)
    replace HY := Lib.hid (HY.out.keep hb)
    clear hb
    show wpAny _ _ _ _ 1 _ _ _
    refine wpAny_next (i := 16) (by kernel_rfl) rfl rfl (wp_of_gives (gives_dyn _ _ 6 _ _ rfl rfl (by kernel_rfl) ((ck1_any g7 B (s.testBit i) _ HB7.out).mono (fun (e : Ending) w9 hq => (⟨.tuple #[], hq.1, rfl, hq.2⟩ : ∃ v, e = .returned v ∧ (v = .tuple #[] ∧ RqE g7 (B && (s.testBit i)) _ w9))))) ?_)
    rintro _ w4 ⟨rfl, hq⟩
    show wpAny _ _ _ _ _ _ (Act.put _ (some 22) _) _
    simp only [Act.put, List.setIfInBounds_toArray, List.set_cons_zero, List.set_cons_succ]
    refine wpAny_end (by kernel_rfl) (calm_normal ?_) _
    go_wp2_with fail
    exact bodyPost_end (results_none rfl _ _ _) rfl ⟨rfl, by rw [show ckP s i x = (s.testBit i) from by unfold ckP; rw [decide_eq_false h0, decide_eq_true hp]; rfl]; exact RqE.after HB.out hq⟩
set_option maxRecDepth 100000 in
set_option maxHeartbeats 8000000 in
theorem ck4_any (i v g3 g10 len ce : Nat) (n : Int) (AE : Option Addr) (es : List Nat) (w : World) (hG : Blk w g3 24 #[.int .i64 n, .slice AE len ce]) (hE : Es w w.heap.size AE len es) (hV : Blk w g10 3 #[.int .i64 (v : Int)]) (hi : i < len) (hv : v < 32) :
    Calls Try.prog 60 (#[.int .i64 (i : Int)] ++ #[.pointer (some ⟨g3, 0, none⟩), .pointer (some ⟨g10, 0, none⟩)]) w (fun e w' => e = .returned (.bool ((nth es i).testBit v)) ∧ Below w.heap.size w w') := by
  have HE := Lib.hid hE; clear hE
  show Calls Try.prog 60 #[.int .i64 (i : Int), .pointer (some ⟨g3, 0, none⟩), .pointer (some ⟨g10, 0, none⟩)] w _
  obtain ⟨ad, rfl, -, hc⟩ := HE.out.at_ hi
  have he := HE.out.lt hi
  obtain ⟨e, hee⟩ : ∃ e, e = nth es i := ⟨_, rfl⟩
  rw [← hee] at hc he ⊢
  have hbit := bit_one9 e v he
  have x1 := Blk.at1 hG (Below.refl _ _); have x0 := Blk.at0 hV (Below.refl _ _)
  have i0 : (0 : Int) ≤ (i : Int) := by omega
  have i1 : (i : Int) < (len : Int) := by omega
  have v0 : (0 : Int) ≤ (v : Int) := by omega
  have v1 : (v : Int) < 32 := by omega
  clear hG hV HE hee
  go_enter Try.func60, Try.ntmps60
  go_wp2_with fail
  go_quiet (fail)
  go_wp2_with fail
  go_ret
  exact ⟨rfl, below_drewN (Below.refl _ _) _⟩
set_option maxRecDepth 100000 in
set_option maxHeartbeats 8000000 in
theorem ck5_any (i e g13 : Nat) (w : World) (hE : Blk w g13 25 #[.int .u32 (e : Int)]) (he : e < 4294967296) (hi : i < 32) :
    Calls Try.prog 61 (#[.int .i64 (i : Int)] ++ #[.pointer (some ⟨g13, 0, none⟩)]) w (fun z w' => z = .returned (.bool (e.testBit i)) ∧ Below w.heap.size w w') := by
  show Calls Try.prog 61 #[.int .i64 (i : Int), .pointer (some ⟨g13, 0, none⟩)] w _
  have hbit := bit_one9 e i he
  have x0 := Blk.at0 hE (Below.refl _ _)
  have v0 : (0 : Int) ≤ (i : Int) := by omega
  have v1 : (i : Int) < 32 := by omega
  clear hE
  go_enter Try.func61, Try.ntmps61
  go_wp2_with fail
  go_ret
  exact ⟨rfl, Below.refl _ _⟩
theorem ck6_any (i : Nat) (w : World) : Calls Try.prog 62 (#[.int .i64 (i : Int)] ++ #[]) w (fun z w' => z = .returned (.bool true) ∧ Below w.heap.size w w') := by
  show Calls Try.prog 62 #[.int .i64 (i : Int)] w _
  go_enter Try.func62, Try.ntmps62
  go_wp2_with fail
  go_ret
  exact ⟨rfl, Below.refl _ _⟩
end Go.Proofs.Ytpnklmgfdihjfaa
namespace Go.Proofs.Ytpnklmgfdihjfaa
open Go.RowKit
set_option linter.unusedVariables false
set_option linter.unusedSimpArgs false

theorem wp_app_int9 {o : Oper} {a : Act} {w : World} {K : Act → World → Prop} {Q : Exit → Act → World → Prop} (s x : Operand) (ho : o.op = .call { callee := .builtin .append, args := #[s, x], argTypes := #[45, 45] })
    (base : Nat) (v : Value) (n : Nat) (xs : List Value) (hs : a.eval s = v) (hown : OwnC w base 3 1 v n xs) (g : Nat) (y : Int) (hx : a.eval x = .slice (some ⟨g, 0, none⟩) 1 1) (hb : Blk w g 3 #[.int .i64 y])
    (hk : n ≤ 1100000) (hbase : base ≤ w.heap.size)
    (h : ∀ v' w', OwnC w' base 3 1 v' (n + 1) (xs ++ [.int .i64 y]) → w.grownBy w' v.ownBlock → (v'.ownBlock = v.ownBlock ∨ v'.ownBlock = some w.heap.size) → KeepsN w w' → K (a.put o.dst v') w') : o.wp Try.prog a w K Q := by
  obtain ⟨i, hi, hz, hs1, hby⟩ := info_parts info_int
  have hr : Reads w w.heap.size 1 (some ⟨g, 0, none⟩) 1 [.int .i64 y] := ⟨rfl, fun _ => ⟨_, rfl, hb.lt, fun j u hu => by
    rw [addr_zero, hb.cell]; simpa using hu⟩⟩
  refine wp_append_clean s x 45 ho base 3 i _ 1 8 Try.underlying45 hi hz hs1 hby rfl (by omega) (by intro u hu z hz'; simp [Value.cells] at hu; subst hu; cases hz') v n xs hs hown w.heap.size _ 1 1 _ hx hr (by simp; rfl) (by intro u hu z hz'; simp at hu; subst hu; cases hz') (by simp only [maxLen]; omega) (by omega) hbase h
theorem wp_push_rat9 {o : Oper} {a : Act} {w : World} {K : Act → World → Prop} {Q : Exit → Act → World → Prop} (s x : Operand) (ho : o.op = .call { callee := .builtin .append, args := #[s, x], argTypes := #[28, 28] })
    (base : Nat) (v : Value) (n : Nat) (P : Nat → Value → Prop) (hs : a.eval s = v) (hown : OR w base v n P) (B : Nat) (A : Option Addr) (c : Nat) (P1 : Nat → Value → Prop) (hx : a.eval x = .slice A 1 c) (hr : Rs w B A 1 P1)
    (hk : n ≤ 1100000) (hbase : base ≤ w.heap.size)
    (h : ∀ v' w', (∀ R : Nat → Value → Prop, (∀ j u, j < n → P j u → R j u) → (∀ u, P1 0 u → R n u) → OR w' base v' (n + 1) R) → w.grownBy w' v.ownBlock → (v'.ownBlock = v.ownBlock ∨ v'.ownBlock = some w.heap.size) → KeepsN w w' → K (a.put o.dst v') w') : o.wp Try.prog a w K Q := by
  obtain ⟨i, hi, hz, hs1, hby⟩ := info_parts info_rat
  obtain ⟨xs, h1, h2⟩ := hown
  obtain ⟨ys, hr, hl⟩ := hr
  refine wp_append_clean s x 28 ho base 31 i _ 3 56 Try.underlying28 hi hz hs1 hby rfl (by omega) (by intro u hu z hz'; simp [Value.cells] at hu; rcases hu with rfl | rfl <;> cases hz') v n xs hs h1 B A 1 c ys hx hr (fun u hu => (hl.cl u hu).2) (fun u hu => (hl.cl u hu).1) (by simp only [maxLen]; omega) (by omega) hbase ?_
  intro v' w' g1 g2 g3 g4
  refine h v' w' (fun R hR hn => ⟨_, g1, ?_⟩) g2 g3 g4
  obtain ⟨s, A, k, c, B, m, d, q0, q1, q2, q3⟩ := hl.2 0 (by omega)
  have hlen := hl.1
  match ys, hlen, q0, q1, q2 with
  | [y0, y1, y2], _, q0, q1, q2 =>
    simp at q0 q1 q2
    subst q0; subst q1; subst q2
    exact (h2.mono hR).app (hn _ q3)
/-- A slice of small integers. -/
def Ks (k : IntKind) (m : Int) (w : World) (B : Nat) (A : Option Addr) (n : Nat) (xs : List Int) : Prop := Reads w B 1 A n (xs.map (Value.int k)) ∧ (n = xs.length ∧ n ≤ 9223372036854775807) ∧ ∀ x ∈ xs, -m ≤ x ∧ x < m
section
variable {k : IntKind} {m : Int} {w w' : World} {B B' n i : Nat} {A : Option Addr} {xs : List Int}
theorem Ks.lt (h : Ks k m w B A n xs) (hi : i < n) : -m ≤ inth xs i ∧ inth xs i < m := h.2.2 _ (inth_mem (by rw [← h.2.1.1]; exact hi))
theorem Ks.at_ (h : Ks k m w B A n xs) (hi : i < n) : ∃ ad, A = some ad ∧ ad.block < B ∧ w.cell? (ad.add i) = some (.int k (inth xs i)) := by
  obtain ⟨ad, h1, h2, h3⟩ := h.1.2 (by omega)
  have hl : i < xs.length := by rw [← h.2.1.1]; exact hi
  exact ⟨ad, h1, h2, h3 i _ (by rw [List.getElem?_map, List.getElem?_eq_getElem hl]; simp [inth, List.getD, hl])⟩
theorem Ks.below (h : Ks k m w B A n xs) (hb : Below B w w') : Ks k m w' B A n xs := ⟨h.1.below hb, h.2⟩
theorem Ks.more (h : Ks k m w B A n xs) (hB : B ≤ B') : Ks k m w B' A n xs := ⟨h.1.more hB, h.2⟩
end
theorem I64_take {xs : List Int} {i : Nat} (h : i < xs.length) : I64 (xs.take (i + 1)) = I64 (xs.take i) ++ [.int .i64 (inth xs i)] := by
  rw [List.take_add_one]
  unfold I64 inth
  rw [List.map_append]
  simp [List.getD, h]
theorem conv_i8n {o : Oper} {a : Act} {w : World} {t : Tmp} {z : Int} (hz : -128 ≤ z ∧ z < 128) (ho : o.op = .convert 41 3 (.tmp t)) (hx : tv a t = .int .i8 z) : gives Try.prog o a.eval w (fun v w' => v = .int .i64 z ∧ Below w.heap.size w w') := by
  have e : IntKind.i64.wrap z = z := IntWalk.i64_in _ (by omega)
  refine gives_val (.int .i64 z) ?_ ⟨rfl, Below.refl _ _⟩
  unfold execOp; rw [ho]; simp only [eval_tmp, hx]
  go_simp
theorem conv_i8l {o : Oper} {a : Act} {w : World} {t : Tmp} {z : Int} (hz : -128 ≤ z ∧ z < 128) (ho : o.op = .convert 41 2 (.tmp t)) (hx : tv a t = .int .i8 z) : gives Try.prog o a.eval w (fun v w' => v = .int .i64 z ∧ Below w.heap.size w w') := by
  have e : IntKind.i64.wrap z = z := IntWalk.i64_in _ (by omega)
  refine gives_val (.int .i64 z) ?_ ⟨rfl, Below.refl _ _⟩
  unfold execOp; rw [ho]; simp only [eval_tmp, hx]
  go_simp
theorem load_i8n {o : Oper} {a : Act} {w : World} {t : Tmp} {p : Addr} {v : Value} (ho : o.op = .load 41 (.tmp t)) (hx : tv a t = .pointer (some p)) (hc : w.cell? p = some v) : gives Try.prog o a.eval w (fun z w' => z = v ∧ Below w.heap.size w w') := by
  refine gives_val v ?_ ⟨rfl, Below.refl _ _⟩
  unfold execOp; rw [ho]; simp only [eval_tmp, hx]; go_simp
theorem fld_gus {o : Oper} {a : Act} {w : World} {t : Tmp} {g k : Nat} (ho : o.op = .fieldAddr 43 (.tmp t) k) (hk : k < 4) (h : tv a t = .pointer (some ⟨g, 0, none⟩)) : gives Try.prog o a.eval w (fun v w' => v = .pointer (some ⟨g, k, none⟩) ∧ Below w.heap.size w w') := by
  refine gives_val (.pointer (some ⟨g, k, none⟩)) ?_ ⟨rfl, Below.refl _ _⟩
  have : k = 0 ∨ k = 1 ∨ k = 2 ∨ k = 3 := by omega
  rcases this with rfl | rfl | rfl | rfl <;> (unfold execOp; rw [ho]; simp only [eval_tmp, h]; go_simp)
theorem store_cv2 {o : Oper} {a : Act} {w : World} {t u : Tmp} {g : Nat} {p0 p1 v0 v1 v2 u0 u1 u2 : Value} {K : Act → World → Prop} {Q : Exit → Act → World → Prop} (ho : o.op = .store 31 (.tmp t) (.tmp u)) (hd : o.dst = none) (ht : a.eval (.tmp t) = .pointer (some ⟨g, 2, none⟩)) (hu : a.eval (.tmp u) = .agg #[u0, u1, u2])
    (hr : Blk w g 33 #[p0, p1, v0, v1, v2]) (hcl : ∀ u ∈ [v0, v1, v2], ∀ x, u ≠ .int .u32 x) (h1 : #[u0, u1, u2].all (·.oneCell') = true)
    (next : ∀ w', KeepsN w w' → w.grownBy w' (some g) → w'.heap.size = w.heap.size → Blk w' g 33 #[p0, p1, u0, u1, u2] → K a w') : o.wp Try.prog a w K Q := by
  refine wp_store_mid 31 (.tmp t) (.tmp u) ho g 2 #[u0, u1, u2] ht hu (fun i hi => ⟨?_, hr.frozen _⟩) (by kernel_rfl) h1 ?_
  · rw [hr.cell]
    have hi7 : 2 + i < 5 := by have : i < 3 := by simpa using hi
                               omega
    rw [Array.getElem?_eq_getElem hi7]; rfl
  · rw [hd]
    have b0 : Blk (w.setCell ⟨g, 2, none⟩ u0) g 33 #[p0, p1, u0, v1, v2] := hr.set_ 2 u0
    have b1 : Blk ((w.setCell ⟨g, 2, none⟩ u0).setCell ⟨g, 3, none⟩ u1) g 33 #[p0, p1, u0, u1, v2] := b0.set_ 3 u1
    have b2 : Blk (((w.setCell ⟨g, 2, none⟩ u0).setCell ⟨g, 3, none⟩ u1).setCell ⟨g, 4, none⟩ u2) g 33 #[p0, p1, u0, u1, u2] := b1.set_ 4 u2
    refine next _ ?_ ?_ ?_ b2
    · refine KeepsN.trans (KeepsN.trans (KeepsN.blk hr (i := 2) (by show 2 < 5; omega) (fun x hx => hcl v0 (by simp) x (by simpa using hx)) u0) (KeepsN.blk b0 (i := 3) (by show 3 < 5; omega) (fun x hx => hcl v1 (by simp) x (by simpa using hx)) u1)) (KeepsN.blk b1 (i := 4) (by show 4 < 5; omega) (fun x hx => hcl v2 (by simp) x (by simpa using hx)) u2)
    · exact only_setCells [u0, u1, u2] w 2 (World.grownBy.refl w (some g))
    · show (w.setCells g 2 [u0, u1, u2]).heap.size = _
      simp [World.setCells, size_setCell]
theorem results_cell_tmp3 {P : Program} {fn : Func} {p t u x : Tmp} {ty : TypeId} (h : fn.results = #[.cell p ty, .tmp t, .tmp u, .tmp x]) (tmps : Array Value) (w : World) (g : Nat) (t' : TypeId) (cs : Array Value) (fr : Nat × Nat) (d : TypeDesc)
    (hp : tmps.getD p undef = .pointer (some ⟨g, 0, none⟩)) (hg : w.heap[g]? = some (.cells cs t' fr))
    (hu : P.underlying ty = some d) (hd : (match d with | .struct _ | .array _ _ => true | _ => false) = true) (hi : (P.info? ty).map (·.size) = some cs.size) :
    (results fn tmps).run P w = .ok (.tuple #[.agg cs, tmps.getD t undef, tmps.getD u undef, tmps.getD x undef]) w := by
  have hp' : tmps[p]?.getD undef = .pointer (some ⟨g, 0, none⟩) := by simpa using hp
  simp [results, h, hp', asAddr, run_loadVar_row w g t' ty cs fr d hg hu hd hi]
theorem apB_push {w : World} {v v' y : Value} (h : apB v.ownBlock y ∧ apB y.ownBlock v) (hor : v'.ownBlock = v.ownBlock ∨ v'.ownBlock = some w.heap.size) (hy : ∀ k, y.ownBlock = some k → k < w.heap.size) : apB v'.ownBlock y ∧ apB y.ownBlock v' := by
  rcases hor with e | e
  · unfold apB at *; rw [e]; exact h
  · unfold apB; rw [e]
    have : y.ownBlock ≠ some w.heap.size := fun h2 => by have := hy _ h2; omega
    exact ⟨.inr this, .inr fun h2 => this h2.symm⟩
/-- The memory while made runs. -/
structure MdS (w0 : World) (b0 g1 g2 g7 : Nat) (gc : Array Value) (u0 u1 : Value) (v1 : Value) (k1 : Nat) (L1 : List Value) (v2 : Value) (k2 : Nat) (F : Nat → Rat) (y1 : Value) (l1 : Nat) (M1 : List Value) (y2 : Value) (l2 : Nat) (G : Nat → Rat) (w : World) : Prop where
  gb : Blk w g1 43 gc
  rs : Blk w g2 33 #[.slice none 0 0, .slice none 0 0, .bool false, .slice none 0 0, .slice none 0 0]
  cu : Blk w g7 33 #[u0, u1, .bool false, .slice none 0 0, .slice none 0 0]
  w1 : OwnC w b0 3 1 v1 k1 L1
  w2 : OR w b0 v2 k2 (PN w 2 F)
  p1 : OwnC w b0 3 1 y1 l1 M1
  p2 : OR w b0 y2 l2 (PN w 2 G)
  n1 : apB v1.ownBlock y1 ∧ apB y1.ownBlock v1
  n2 : apB v2.ownBlock y2 ∧ apB y2.ownBlock v2
  hb : Below w0.heap.size w0 w
  lo : g1 < b0 ∧ g2 < b0 ∧ g7 < b0 ∧ w0.heap.size ≤ g7 ∧ w0.heap.size ≤ b0 ∧ g2 ≠ g7
  sz : b0 ≤ w.heap.size
section
variable {w0 : World} {b0 g1 g2 g7 : Nat} {gc : Array Value} {u0 u1 : Value} {v1 : Value} {k1 : Nat} {L1 : List Value} {v2 : Value} {k2 : Nat} {F : Nat → Rat} {y1 : Value} {l1 : Nat} {M1 : List Value} {y2 : Value} {l2 : Nat} {G : Nat → Rat} {w w' : World} {v' x : Value}
theorem MdS.below (h : MdS w0 b0 g1 g2 g7 gc u0 u1 v1 k1 L1 v2 k2 F y1 l1 M1 y2 l2 G w) (hb : Below w.heap.size w w') : MdS w0 b0 g1 g2 g7 gc u0 u1 v1 k1 L1 v2 k2 F y1 l1 M1 y2 l2 G w' :=
  ⟨h.gb.keep hb, h.rs.keep hb, h.cu.keep hb, h.w1.below hb, h.w2.newN hb, h.p1.below hb, h.p2.newN hb, h.n1, h.n2, bthen h.hb hb h.hb.size, h.lo, Nat.le_trans h.sz hb.size⟩
theorem MdS.pushW (h : MdS w0 b0 g1 g2 g7 gc u0 u1 v1 k1 L1 v2 k2 F y1 l1 M1 y2 l2 G w) (ho : OwnC w' b0 3 1 v' (k1 + 1) (L1 ++ [x])) (hgr : w.grownBy w' v1.ownBlock) (hor : v'.ownBlock = v1.ownBlock ∨ v'.ownBlock = some w.heap.size) (kp : KeepsN w w') : MdS w0 b0 g1 g2 g7 gc u0 u1 v' (k1 + 1) (L1 ++ [x]) v2 k2 F y1 l1 M1 y2 l2 G w' := by
  obtain ⟨xs2, hw2, -⟩ := h.w2
  obtain ⟨xp2, hp2, -⟩ := h.p2
  have lt : ∀ k, v1.ownBlock = some k → b0 ≤ k := fun k e => (h.w1.own.lt k e).1
  have hl := h.lo
  exact ⟨h.gb.grown hgr (fun e => by have := lt _ e.symm; omega), h.rs.grown hgr (fun e => by have := lt _ e.symm; omega), h.cu.grown hgr (fun e => by have := lt _ e.symm; omega), ho, h.w2.kept hgr (own_own_ne hw2.own h.w1.own (by decide)) (fun _ _ _ hv => PN.keep hv kp), h.p1.kept hgr h.n1.1, h.p2.kept hgr (own_own_ne hp2.own h.w1.own (by decide)) (fun _ _ _ hv => PN.keep hv kp), (apB_push h.n1 hor (fun k e => (h.p1.own.lt k e).2)), h.n2, h.hb.grown hgr h.hb.size (fun k e => by have := lt k e; omega), h.lo, Nat.le_trans h.sz hgr.size⟩
theorem MdS.pushX (h : MdS w0 b0 g1 g2 g7 gc u0 u1 v1 k1 L1 v2 k2 F y1 l1 M1 y2 l2 G w) (ho : OR w' b0 v' (k2 + 1) (PN w' 2 F)) (hgr : w.grownBy w' v2.ownBlock) (hor : v'.ownBlock = v2.ownBlock ∨ v'.ownBlock = some w.heap.size) (kp : KeepsN w w') : MdS w0 b0 g1 g2 g7 gc u0 u1 v1 k1 L1 v' (k2 + 1) F y1 l1 M1 y2 l2 G w' := by
  obtain ⟨xs2, hw2, -⟩ := h.w2
  obtain ⟨xp2, hp2, -⟩ := h.p2
  have lt : ∀ k, v2.ownBlock = some k → b0 ≤ k := fun k e => (hw2.own.lt k e).1
  have hl := h.lo
  exact ⟨h.gb.grown hgr (fun e => by have := lt _ e.symm; omega), h.rs.grown hgr (fun e => by have := lt _ e.symm; omega), h.cu.grown hgr (fun e => by have := lt _ e.symm; omega), h.w1.kept hgr (own_own_ne h.w1.own hw2.own (by decide)), ho, h.p1.kept hgr (own_own_ne h.p1.own hw2.own (by decide)), h.p2.kept hgr h.n2.1 (fun _ _ _ hv => PN.keep hv kp), h.n1, (apB_push h.n2 hor (fun k e => (hp2.own.lt k e).2)), h.hb.grown hgr h.hb.size (fun k e => by have := lt k e; omega), h.lo, Nat.le_trans h.sz hgr.size⟩
theorem MdS.pushP (h : MdS w0 b0 g1 g2 g7 gc u0 u1 v1 k1 L1 v2 k2 F y1 l1 M1 y2 l2 G w) (ho : OwnC w' b0 3 1 v' (l1 + 1) (M1 ++ [x])) (hgr : w.grownBy w' y1.ownBlock) (hor : v'.ownBlock = y1.ownBlock ∨ v'.ownBlock = some w.heap.size) (kp : KeepsN w w') : MdS w0 b0 g1 g2 g7 gc u0 u1 v1 k1 L1 v2 k2 F v' (l1 + 1) (M1 ++ [x]) y2 l2 G w' := by
  obtain ⟨xs2, hw2, -⟩ := h.w2
  obtain ⟨xp2, hp2, -⟩ := h.p2
  have lt : ∀ k, y1.ownBlock = some k → b0 ≤ k := fun k e => (h.p1.own.lt k e).1
  have hl := h.lo
  exact ⟨h.gb.grown hgr (fun e => by have := lt _ e.symm; omega), h.rs.grown hgr (fun e => by have := lt _ e.symm; omega), h.cu.grown hgr (fun e => by have := lt _ e.symm; omega), h.w1.kept hgr h.n1.2, h.w2.kept hgr (own_own_ne hw2.own h.p1.own (by decide)) (fun _ _ _ hv => PN.keep hv kp), ho, h.p2.kept hgr (own_own_ne hp2.own h.p1.own (by decide)) (fun _ _ _ hv => PN.keep hv kp), (let q := apB_push ⟨h.n1.2, h.n1.1⟩ hor (fun k e => (h.w1.own.lt k e).2); ⟨q.2, q.1⟩), h.n2, h.hb.grown hgr h.hb.size (fun k e => by have := lt k e; omega), h.lo, Nat.le_trans h.sz hgr.size⟩
theorem MdS.pushY (h : MdS w0 b0 g1 g2 g7 gc u0 u1 v1 k1 L1 v2 k2 F y1 l1 M1 y2 l2 G w) (ho : OR w' b0 v' (l2 + 1) (PN w' 2 G)) (hgr : w.grownBy w' y2.ownBlock) (hor : v'.ownBlock = y2.ownBlock ∨ v'.ownBlock = some w.heap.size) (kp : KeepsN w w') : MdS w0 b0 g1 g2 g7 gc u0 u1 v1 k1 L1 v2 k2 F y1 l1 M1 v' (l2 + 1) G w' := by
  obtain ⟨xs2, hw2, -⟩ := h.w2
  obtain ⟨xp2, hp2, -⟩ := h.p2
  have lt : ∀ k, y2.ownBlock = some k → b0 ≤ k := fun k e => (hp2.own.lt k e).1
  have hl := h.lo
  exact ⟨h.gb.grown hgr (fun e => by have := lt _ e.symm; omega), h.rs.grown hgr (fun e => by have := lt _ e.symm; omega), h.cu.grown hgr (fun e => by have := lt _ e.symm; omega), h.w1.kept hgr (own_own_ne h.w1.own hp2.own (by decide)), h.w2.kept hgr h.n2.2 (fun _ _ _ hv => PN.keep hv kp), h.p1.kept hgr (own_own_ne h.p1.own hp2.own (by decide)), ho, h.n1, (let q := apB_push ⟨h.n2.2, h.n2.1⟩ hor (fun k e => (hw2.own.lt k e).2); ⟨q.2, q.1⟩), h.hb.grown hgr h.hb.size (fun k e => by have := lt k e; omega), h.lo, Nat.le_trans h.sz hgr.size⟩
theorem MdS.set0 (h : MdS w0 b0 g1 g2 g7 gc u0 u1 v1 k1 L1 v2 k2 F y1 l1 M1 y2 l2 G w) (hu : ∀ z, u0 ≠ .int .u32 z) : MdS w0 b0 g1 g2 g7 gc x u1 v1 k1 L1 v2 k2 F y1 l1 M1 y2 l2 G (w.setCell ⟨g7, 0, none⟩ x) := by
  have gr := only_setCell (World.grownBy.refl w (some g7)) (p := ⟨g7, 0, none⟩) (.inl rfl) x
  have kp := KeepsN.blk h.cu (i := 0) (by show 0 < 5; omega) (by intro z hz; exact hu z (by simpa using hz)) x
  have hl := h.lo
  exact ⟨h.gb.grown gr (fun e => by injection e with e; exact Blk.ne_ h.gb h.cu (by decide) e), h.rs.grown gr (fun e => by injection e with e; omega), h.cu.set_ 0 x, h.w1.blk h.cu (by decide) gr, h.w2.blk h.cu (by decide) gr (fun _ _ _ hv => PN.keep hv kp), h.p1.blk h.cu (by decide) gr, h.p2.blk h.cu (by decide) gr (fun _ _ _ hv => PN.keep hv kp), h.n1, h.n2, h.hb.grown gr h.hb.size (fun k e => by cases e; omega), h.lo, Nat.le_trans h.sz gr.size⟩
theorem MdS.set1 (h : MdS w0 b0 g1 g2 g7 gc u0 u1 v1 k1 L1 v2 k2 F y1 l1 M1 y2 l2 G w) (hu : ∀ z, u1 ≠ .int .u32 z) : MdS w0 b0 g1 g2 g7 gc u0 x v1 k1 L1 v2 k2 F y1 l1 M1 y2 l2 G (w.setCell ⟨g7, 1, none⟩ x) := by
  have gr := only_setCell (World.grownBy.refl w (some g7)) (p := ⟨g7, 1, none⟩) (.inl rfl) x
  have kp := KeepsN.blk h.cu (i := 1) (by show 1 < 5; omega) (by intro z hz; exact hu z (by simpa using hz)) x
  have hl := h.lo
  exact ⟨h.gb.grown gr (fun e => by injection e with e; exact Blk.ne_ h.gb h.cu (by decide) e), h.rs.grown gr (fun e => by injection e with e; omega), h.cu.set_ 1 x, h.w1.blk h.cu (by decide) gr, h.w2.blk h.cu (by decide) gr (fun _ _ _ hv => PN.keep hv kp), h.p1.blk h.cu (by decide) gr, h.p2.blk h.cu (by decide) gr (fun _ _ _ hv => PN.keep hv kp), h.n1, h.n2, h.hb.grown gr h.hb.size (fun k e => by cases e; omega), h.lo, Nat.le_trans h.sz gr.size⟩
end

end Go.Proofs.Ytpnklmgfdihjfaa
namespace Go.Proofs.Ytpnklmgfdihjfaa
open Go.RowKit Go.ChangeShapes Go.WideShapes Go.ChangeAt Go.Joins
set_option linter.unusedVariables false

namespace bulk9
theorem one_le {H : Type} (d : DataW H) : 1 ≤ Rows.uptoBulk d := by
  cases d with
  | lit l => cases l <;> simp [Rows.uptoBulk]
  | nil => simp [Rows.uptoBulk]
  | ptr d => simp [Rows.uptoBulk]
  | slice elems spare => simp [Rows.uptoBulk]
  | agg parts => simp [Rows.uptoBulk]
  | iface t d => simp [Rows.uptoBulk]
  | map entries => simp [Rows.uptoBulk]
  | held h => simp [Rows.uptoBulk]
theorem part_le {H : Type} {d : DataW H} : ∀ {l : List (DataW H)}, d ∈ l → Rows.uptoBulk d ≤ Rows.uptoBulkAll l
  | [], h => by cases h
  | x :: r, h => by
    simp only [Rows.uptoBulkAll]
    rcases List.mem_cons.1 h with e | e
    · subst e; omega
    · have := part_le e; omega
theorem length_le {H : Type} : ∀ (l : List (DataW H)), l.length ≤ Rows.uptoBulkAll l
  | [] => by simp
  | x :: r => by have := one_le x; have := length_le r; simp only [Rows.uptoBulkAll, List.length_cons]; omega
theorem agg_at {H : Type} {d : DataW H} {l : List (DataW H)} (h : d ∈ l) : Rows.uptoBulk d ≤ Rows.uptoBulk (.agg l) := by
  have := part_le h
  simp only [Rows.uptoBulk]
  omega
theorem bound {H : Type} {l : List (DataW H)} (hk : Rows.uptoSmall H l = true) : Rows.uptoBulkAll l ≤ 1048576 := by
  simpa [Rows.uptoSmall] using hk
theorem arg {H : Type} {d : DataW H} {l : List (DataW H)} (hk : Rows.uptoSmall H l = true) (h : d ∈ l) : Rows.uptoBulk d ≤ 1048576 := Nat.le_trans (part_le h) (bound hk)
end bulk9
section
variable {H : Type} {enc : TypeId × Value → H} {P : Program} {w : World} {base : Nat} {spare : Nat → Bool} {held : Bool}
theorem open_ks {t e : TypeId} {k : IntKind} {m : Int} {fuel : Nat} {v : Value} {x : DataW H × List MemPlace} (ht : P.underlying t = some (.slice e)) (he : P.underlying e = some (.int k)) (hc : P.cellsOf e = 1) (hk : ∀ z, (Lit.int k z).wf = true → -m ≤ z ∧ z < m)
    (h : DataW.trod enc P w base spare held fuel t [v] = some x) : ∃ (A : Option Addr) (len cap : Nat) (xs : List Int), v = .slice A len cap ∧ Ks k m w w.heap.size A len xs ∧ len ≤ Rows.uptoBulk x.1 := by
  rcases open_ints ht he hc h with ⟨hcs, hx⟩ | ⟨a, len, cap, zs, hcs, _, hl, hm, hz, hx, hcell, hwz⟩
  · cases hcs
    exact ⟨none, 0, 0, [], rfl, ⟨Reads.none_, ⟨rfl, by omega⟩, by simp⟩, Nat.zero_le _⟩
  · cases hcs
    unfold maxLen at hm
    have hlz : len ≤ zs.length := by rw [hz]; split <;> omega
    have hlen : (zs.take len).length = len := by simp; omega
    refine ⟨some a, len, cap, zs.take len, rfl, ⟨⟨by rw [List.length_map, hlen]; omega, fun hn => ⟨a, rfl, ?_, fun j u hu => ?_⟩⟩, ⟨hlen.symm, by omega⟩, fun y hy => hk y (hwz y (List.mem_of_mem_take hy))⟩, ?_⟩
    · have := block_lt_of_cell (hcell 0 (by omega))
      rwa [block_of_add] at this
    · have hj : j < len := by
        have := (List.getElem?_eq_some_iff.1 hu).1
        rw [List.length_map, hlen] at this; exact this
      have hjz : j < zs.length := by omega
      rw [hcell j hjz]
      simp only [List.getElem?_map, List.getElem?_take, hj, if_true, List.getElem?_eq_getElem hjz, Option.map_some] at hu
      rw [← Option.some.inj hu]
      simp only [List.getD, List.getElem?_eq_getElem hjz, Option.getD_some]
    · rw [hx]
      have h1 := bulk9.length_le (H := H) (lits k (zs.take len))
      have h2 : (lits (H := H) k (zs.take len)).length = len := by unfold lits; simp; omega
      simp only [Rows.uptoBulk]
      omega
end
set_option maxRecDepth 100000 in
theorem open_guess {H : Type} {enc : TypeId × Value → H} {w : World} {base : Nat} {spare : Nat → Bool} {held : Bool} {r : Reach} {b0 : Nat} {v : Value} {d : DataW H} {p : List MemPlace} {l : List (DataW H)} (hv : Value.okWide Try.prog w r b0 43 v) (h : DataW.Trod enc Try.prog w base spare held 43 v d p)
    (hk : Rows.uptoSmall H l = true) (hm : d ∈ l) : ∃ (D a bn ca cb : Nat) (AX AY : Option Addr) (xs ys : List Int) (vN : Int), v = .agg #[.int .u8 (D : Int), .slice AX a ca, .slice AY bn cb, .int .i8 vN] ∧ D ≤ 255 ∧ Ks .i8 128 w w.heap.size AX a xs ∧ Ks .i8 128 w w.heap.size AY bn ys ∧ (-128 ≤ vN ∧ vN < 128) ∧ a ≤ 1048576 ∧ bn ≤ 1048576 := by
  obtain ⟨a0, a1, a2, a3, y0, y1, y2, y3, m, rfl, hd, -, e0, e1, e2, e3⟩ := open_agg4 Try.underlying43 (by kernel_rfl) (by kernel_rfl) hv h
  obtain ⟨z, f0, -, w0⟩ := DataW.trod_int Try.underlying5 e0
  obtain ⟨n, f3, -, w3⟩ := DataW.trod_int Try.underlying41 e3
  simp only [List.cons.injEq, and_true] at f0 f3
  subst f0; subst f3
  have b0 := bounds_u8 w0; have b3 := bounds_i8 w3
  obtain ⟨AX, a, ca, xs, rfl, hX, hA⟩ := open_ks (m := 128) Try.underlying40 Try.underlying41 (by kernel_rfl) (fun z hz => by have := bounds_i8 hz; omega) e1
  obtain ⟨AY, bn, cb, ys, rfl, hY, hB⟩ := open_ks (m := 128) Try.underlying40 Try.underlying41 (by kernel_rfl) (fun z hz => by have := bounds_i8 hz; omega) e2
  have hb := bulk9.arg hk hm
  have b1 := bulk9.agg_at (d := y1.1) (l := [y0.1, y1.1, y2.1, y3.1]) (by simp)
  have b2 := bulk9.agg_at (d := y2.1) (l := [y0.1, y1.1, y2.1, y3.1]) (by simp)
  rw [← hd] at b1 b2
  refine ⟨z.toNat, a, bn, ca, cb, AX, AY, xs, ys, n, ?_, by omega, hX, hY, by omega, by omega, by omega⟩
  rw [Int.toNat_of_nonneg b0.1]
end Go.Proofs.Ytpnklmgfdihjfaa
