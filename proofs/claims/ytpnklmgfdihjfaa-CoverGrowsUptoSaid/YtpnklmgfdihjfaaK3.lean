/-
Contracts of nat.Bits, Uint64.
Rows of bytes; slices.Reverse of bytes; decimal texts.
Contract of nat.Text.
Numbers of layer 4, each with its value and a bound: the contracts as the laws use them.
Plain facts on fractions: a sign, a numerator and a denominator as a rational number of Lean's own.
rat.common: the greatest common factor.
rat.Norm: the normal form of a fraction.
rat: Add, Mul.
rat.Add.
-/
import Derived.Test.YtpnklmgfdihjfaaK2
import Derived.Deep.LoopGhost
import Derived.Test.YtpnklmgfdihjfaaK1
import Derived.Laws.EntriesVeiled
import Derived.Deep.RegionLaw
namespace Go.Proofs.Ytpnklmgfdihjfaa
open Go.RowKit

/-- b is the number of binary digits of N. -/
def BitsIs (N b : Nat) : Prop := (N = 0 ∧ b = 0) ∨ (1 ≤ b ∧ 2 ^ (b - 1) ≤ N ∧ N < 2 ^ b)
theorem BitsIs.unique {N b c : Nat} (h : BitsIs N b) (k : BitsIs N c) : b = c := by
  rcases h with ⟨h1, h2⟩ | ⟨h1, h2, h3⟩ <;> rcases k with ⟨k1, k2⟩ | ⟨k1, k2, k3⟩
  · omega
  · have := pow2_pos (c - 1); omega
  · have := pow2_pos (b - 1); omega
  · rcases Nat.lt_trichotomy b c with h | h | h
    · have := two_pow_le (show b ≤ c - 1 by omega); omega
    · exact h
    · have := two_pow_le (show c ≤ b - 1 by omega); omega
theorem bits_val {p e : Nat} (hp : p = 2 ^ e) {l : List Nat} {N k t : Nat} (hN : Nrm p l N) (hl : l.length = k + 1) (h1 : 1 ≤ t) (h2 : 2 ^ (t - 1) ≤ nth l k) (h3 : nth l k < 2 ^ t) : BitsIs N (e * k + t) := by
  right
  have h4 := valB_take (b := p) (l := l) (k := k) (by omega)
  rw [List.take_of_length_le (by omega), hN.1] at h4
  have h5 : valB p (l.take k) < p ^ k := by
    have := valB_lt (b := p) (l := l.take k) (fun d h => hN.2.1 d (List.mem_of_mem_take h))
    rwa [List.length_take, Nat.min_eq_left (by omega)] at this
  have e1 : p ^ k = 2 ^ (e * k) := by rw [hp, Nat.pow_mul]
  refine ⟨by omega, ?_, ?_⟩
  · have := Nat.mul_le_mul_left (p ^ k) h2
    rw [e1, ← Nat.pow_add, show e * k + (t - 1) = e * k + t - 1 by omega] at this
    rw [e1] at h4
    omega
  · have := Nat.mul_le_mul_left (p ^ k) (show nth l k + 1 ≤ 2 ^ t from h3)
    rw [Nat.mul_add, Nat.mul_one] at this
    have e2 : p ^ k * 2 ^ t = 2 ^ (e * k + t) := by rw [e1, Nat.pow_add]
    rw [e2] at this
    omega

def RetBits (w : World) (N n : Nat) (e : Ending) (w' : World) : Prop := ∃ b : Nat, e = .returned (.int .i64 b) ∧ BitsIs N b ∧ b ≤ 32 * n ∧ w = w'

set_option maxHeartbeats 2000000 in
theorem bits_any (A : Option Addr) (ds : List Nat) (n c : Nat) (hc : n ≤ c) (w : World) (hr : Es w w.heap.size A n ds) (hn : n ≤ 1000000) :
    Calls Try.prog 53 #[.slice A n c] w (RetBits w (valB 4294967296 ds) n) := by
  have HR := Lib.hid hr; clear hr
  go_enter Try.func53, Try.ntmps53
  go_wp2_with fail
  refine (trim_any A ds n c hc _ HR.out).mono ?_
  rintro e w1 ⟨k, l, rfl, hk, hl, hN, rfl⟩
  have H1 := Lib.hid hl; clear hl
  have N1 := Lib.hid hN; clear hN
  by_cases hk0 : k = 0
  · have HZ := Lib.hid ((N1.out.zero_iff (by omega)).1 (by rw [← H1.out.len]; exact hk0))
    subst hk0
    go_wp2_with fail
    go_ret
    exact ⟨0, rfl, .inl ⟨HZ.out, rfl⟩, by omega, rfl⟩
  · have hkb : ((k : Int) == 0) = false := by simp; omega
    obtain ⟨k1, hk1⟩ : ∃ k1, k = k1 + 1 := ⟨k - 1, by omega⟩
    obtain ⟨ad, rfl, hb, cA⟩ := H1.out.at_ (show k1 < k by omega)
    have i0 : (k : Int) - 1 = (k1 : Int) := by omega
    have hx := H1.out.lt (show k1 < k by omega)
    have ht : nth l k1 ≠ 0 := by
      rcases N1.out.2.2 with h | h
      · have := H1.out.len; rw [h] at this; simp at this; omega
      · rwa [← H1.out.len, hk1, Nat.add_sub_cancel] at h
    obtain ⟨s1, s2, s3⟩ := bitLen_spec 32 (nth l k1) hx (by omega) ht
    have HK := Lib.hid hk1
    have hk1l : k1 < k := by omega
    clear hk1
    have hbl := (shift_ok ht hx).1
    have HS := Lib.hid (bits_val (p := 4294967296) (e := 32) rfl N1.out (by rw [← H1.out.len]; exact HK.out) s1 s2 s3)
    clear ht s1 s2 s3
    go_wp2_with fail
    refine (Try.bits_Len32 (nth l k1 : Int) _ (by omega) (by omega)).mono ?_
    rintro e w ⟨rfl, rfl⟩
    rw [Int.toNat_natCast]
    generalize Lib.bitLen (nth l k1) = t at *
    go_wp2_with fail
    go_ret
    exact ⟨32 * k1 + t, ret_int (by omega), HS.out, by omega, rfl⟩

def RetU64 (w : World) (N : Nat) (e : Ending) (w' : World) : Prop :=
  (N < 18446744073709551616 → e = .returned (.tuple #[.int .u64 N, .bool true])) ∧ (18446744073709551616 ≤ N → e = .returned (.tuple #[.int .u64 0, .bool false])) ∧ w = w'
theorem or_shift (a x i : Nat) (hi : i ≤ 1) (ha : a < 4294967296 ^ i) (hx : x < 4294967296) : bits .or .u64 (a : Int) (IntKind.u64.wrap ((x : Int) * 2 ^ (32 * i))) = ((a + 4294967296 ^ i * x : Nat) : Int) := by
  have : i = 0 ∨ i = 1 := by omega
  rcases this with rfl | rfl
  · simp only [Nat.pow_zero] at ha
    obtain rfl : a = 0 := by omega
    have e : IntKind.u64.wrap ((x : Int) * 2 ^ (32 * 0)) = ((x : Nat) : Int) := by
      simp only [IntKind.wrap, IntKind.bits, IntKind.signed]; simp; omega
    rw [e, u64_or_nat _ _ (by omega) (by omega)]
    simp
  · simp only [Nat.pow_one] at ha
    have e : IntKind.u64.wrap ((x : Int) * 2 ^ (32 * 1)) = ((x * 4294967296 : Nat) : Int) := by
      simp only [IntKind.wrap, IntKind.bits, IntKind.signed]; simp; omega
    rw [e, u64_or_nat _ _ (by omega) (by omega), Nat.or_comm, nat_join 32 _ _ (by omega) (by omega)]
    simp only [Nat.pow_one]
    congr 1
    omega

set_option maxHeartbeats 2000000 in
theorem uint64_any (A : Option Addr) (ds : List Nat) (n c : Nat) (hc : n ≤ c) (w : World) (hr : Es w w.heap.size A n ds) :
    Calls Try.prog 82 #[.slice A n c] w (RetU64 w (valB 4294967296 ds)) := by
  have HR := Lib.hid hr; clear hr
  go_enter Try.func82, Try.ntmps82
  go_wp2_with fail
  refine (trim_any A ds n c hc _ HR.out).mono ?_
  rintro e w1 ⟨k, l, rfl, hk, hl, hN, rfl⟩
  have H1 := Lib.hid hl; clear hl
  have N1 := Lib.hid hN; clear hN
  have hkl := H1.out.le
  by_cases hk2 : 2 < k
  · have hbig : 18446744073709551616 ≤ valB 4294967296 ds := by
      have h1 := N1.out.pos (by rw [← H1.out.len]; omega)
      rw [← H1.out.len] at h1
      have h2 : 4294967296 ^ 2 ≤ 4294967296 ^ (k - 1) := Nat.pow_le_pow_right (by omega) (by omega)
      simp only [show (4294967296 : Nat) ^ 2 = 18446744073709551616 from rfl] at h2
      exact Nat.le_trans h2 h1
    have HBIG := Lib.hid hbig; clear hbig
    go_wp2_with fail
    go_ret2
    exact ⟨fun h => by have := HBIG.out; omega, fun _ => rfl, rfl⟩
  · have hsmall : valB 4294967296 ds < 18446744073709551616 := by
      have h1 := N1.out.lt
      rw [← H1.out.len] at h1
      have h2 : 4294967296 ^ k ≤ 4294967296 ^ 2 := Nat.pow_le_pow_right (by omega) (by omega)
      simp only [show (4294967296 : Nat) ^ 2 = 18446744073709551616 from rfl] at h2
      exact Nat.lt_of_lt_of_le h1 h2
    have HSM := Lib.hid hsmall; clear hsmall
    go_wp2_with fail
    go_loop [4, 5, 13] (fun nv _ i => ∃ (i' a : Nat), i' ≤ k ∧ i = .int .i64 i' ∧ nv = .int .u64 a ∧ Hid (a = valB 4294967296 (l.take i'))) (fun _ _ i => k - (intOf i).toNat)
    case atStart => exact ⟨0, 0, Nat.zero_le _, rfl, rfl, Lib.hid rfl⟩
    case round =>
      obtain ⟨i, a, hi, rfl, rfl, HJ⟩ := hrel
      by_cases hlt : i < k
      · obtain ⟨ad, rfl, hb, cA⟩ := H1.out.at_ hlt
        have hx := H1.out.lt hlt
        have hli : i < l.length := by have := H1.out.len; omega
        have hst := Lib.hid (valB_take (b := 4294967296) hli)
        have ha : a < 4294967296 ^ i := by
          have h1 := valB_lt (b := 4294967296) (l := l.take i) (fun d h => H1.out.2.2 d (List.mem_of_mem_take h))
          rw [List.length_take, Nat.min_eq_left (Nat.le_of_lt hli), ← HJ.out] at h1
          exact h1
        have HO := Lib.hid (or_shift a (nth l i) i (by omega) ha hx)
        clear ha
        go_wp2_with fail
        rw [HO.out]
        exact ⟨⟨i + 1, _, by omega, by go_num, rfl, Lib.hid (by rw [hst.out, ← HJ.out])⟩, by simp [intOf]; omega⟩
      · go_wp2_with fail
        go_ret2
        refine ⟨fun _ => ?_, fun h => by have := HSM.out; omega, rfl⟩
        have h1 := HJ.out
        rw [List.take_of_length_le (by rw [← H1.out.len]; omega), N1.out.1] at h1
        subst h1
        rfl

end Go.Proofs.Ytpnklmgfdihjfaa
namespace Go.Proofs.Ytpnklmgfdihjfaa
open Go.RowKit

section
variable {ops : Array Oper} {rest : List Oper} {o : Oper} {a : Act} {w : World} {Q : Exit → Act → World → Prop}
end

end Go.Proofs.Ytpnklmgfdihjfaa
namespace Go.Proofs.Ytpnklmgfdihjfaa
open Go.RowKit

end Go.Proofs.Ytpnklmgfdihjfaa
namespace Go.Proofs.Ytpnklmgfdihjfaa
open Go.RowKit

def PB (b : Nat) : Nat := 4294967296 ^ b
theorem pw_add {p a b : Nat} : p ^ a * p ^ b = p ^ (a + b) := (Nat.pow_add p a b).symm
theorem PB_mul {a b N M : Nat} (h : N < PB a) (k : M < PB b) : N * M < PB (a + b) := by
  have : N * M < PB a * PB b := Nat.mul_lt_mul_of_lt_of_lt h k
  rw [PB, PB, pw_add] at this; exact this
theorem pw_two {p a b : Nat} (hp : 2 ≤ p) (ha : 1 ≤ a) (hb : 1 ≤ b) : p ^ a + p ^ b ≤ p ^ (a + b) := by
  have h1 : p ^ (a + b) = p ^ a * p ^ b := Nat.pow_add ..
  have ea : 2 ≤ p ^ a := Nat.le_trans hp (Nat.le_self_pow (by omega) p)
  have eb : 2 ≤ p ^ b := Nat.le_trans hp (Nat.le_self_pow (by omega) p)
  rw [h1]
  have h2 : p ^ a * 2 ≤ p ^ a * p ^ b := Nat.mul_le_mul_left _ eb
  have h3 : 2 * p ^ b ≤ p ^ a * p ^ b := Nat.mul_le_mul_right _ ea
  omega
theorem PB_add {a b N M : Nat} (h : N < PB a) (k : M < PB b) (ha : 1 ≤ a) (hb : 1 ≤ b) : N + M < PB (a + b) := by
  have := pw_two (p := 4294967296) (by omega) ha hb
  change PB a + PB b ≤ PB (a + b) at this
  omega
theorem pw_len {p b : Nat} {l : List Nat} {V : Nat} (hp : 0 < p) (h : Nrm p l V) (hV : V < p ^ b) : l.length ≤ b := by
  rcases Nat.lt_or_ge b l.length with h1 | h1
  · have h2 := h.pos (by omega)
    have h3 : p ^ b ≤ p ^ (l.length - 1) := Nat.pow_le_pow_right hp (by omega)
    omega
  · exact h1
theorem PB_len {b : Nat} {l : List Nat} {V : Nat} (h : Nrm 4294967296 l V) (hV : V < PB b) : l.length ≤ b := pw_len (by omega) h hV
theorem PB_mono {a b : Nat} (h : a ≤ b) : PB a ≤ PB b := Nat.pow_le_pow_right (by omega) h

/-- The slice holds a number: its value, and a bound. -/
def Num (w : World) (A : Option Addr) (k c b N : Nat) : Prop := k ≤ c ∧ 1 ≤ b ∧ k ≤ 10000 ∧ N < PB b ∧ ∃ l, Es w w.heap.size A k l ∧ valB 4294967296 l = N
/-- .. and is normalized. -/
def Norm (w : World) (A : Option Addr) (k N : Nat) : Prop := ∃ l, Es w w.heap.size A k l ∧ Nrm 4294967296 l N
theorem Num.new {w w' : World} {A : Option Addr} {k c b N : Nat} (h : Num w A k c b N) (hb : Below w.heap.size w w') : Num w' A k c b N := by
  obtain ⟨h1, h2, h3, h4, l, h5, h6⟩ := h
  exact ⟨h1, h2, h3, h4, l, h5.new hb, h6⟩
theorem Norm.new {w w' : World} {A : Option Addr} {k N : Nat} (h : Norm w A k N) (hb : Below w.heap.size w w') : Norm w' A k N := by
  obtain ⟨l, h5, h6⟩ := h
  exact ⟨l, h5.new hb, h6⟩
theorem Num.of_nrm {w : World} {A : Option Addr} {k c b N : Nat} {l : List Nat} (h : Es w w.heap.size A k l) (hc : k ≤ c) (hN : Nrm 4294967296 l N) (hV : N < PB b) (hb : 1 ≤ b) (hb2 : b ≤ 10000) : Num w A k c b N ∧ Norm w A k N := by
  have h1 := PB_len hN hV
  have h2 := h.len
  exact ⟨⟨hc, hb, by omega, hV, l, h, hN.1⟩, l, h, hN⟩

def RetN (w : World) (b N : Nat) (e : Ending) (w' : World) : Prop := ∃ A k c, e = .returned (.slice A k c) ∧ Num w' A k c b N ∧ Norm w' A k N ∧ Below w.heap.size w w'
theorem RetN.of {w : World} {b N : Nat} {e : Ending} {w' : World} (h : RetNat w N e w') (hV : N < PB b) (hb : 1 ≤ b) (hb2 : b ≤ 10000) : RetN w b N e w' := by
  obtain ⟨A, k, c, l, h1, h2, h3, h4, h5⟩ := h
  obtain ⟨n1, n2⟩ := Num.of_nrm h3 h2 h4 hV hb hb2
  exact ⟨A, k, c, h1, n1, n2, h5⟩

theorem of_n (n : Nat) (hn : n < 18446744073709551616) (w : World) : Calls Try.prog 15 #[.int .u64 n] w (RetN w 2 n) :=
  (nof_any n hn w).mono fun _ _ h => RetN.of h (by rw [PB]; exact hn) (by omega) (by omega)
section
variable {w : World} {A B : Option Addr} {n c m d a b N M : Nat}
theorem add_n (ha : Num w A n c a N) (hb : Num w B m d b M) (hab : a + b ≤ 10000) : Calls Try.prog 21 #[.slice A n c, .slice B m d] w (RetN w (a + b) (N + M)) := by
  obtain ⟨a1, a2, a3, a4, l, a5, rfl⟩ := ha
  obtain ⟨b1, b2, b3, b4, f, b5, rfl⟩ := hb
  exact (add_any A l n c a1 B f m d b1 w a5 b5 (by omega) (by omega)).mono fun _ _ h => RetN.of h (PB_add a4 b4 a2 b2) (by omega) hab
theorem mul_n (ha : Num w A n c a N) (hb : Num w B m d b M) (hab : a + b ≤ 10000) : Calls Try.prog 19 #[.slice A n c, .slice B m d] w (RetN w (a + b) (N * M)) := by
  obtain ⟨a1, a2, a3, a4, l, a5, rfl⟩ := ha
  obtain ⟨b1, b2, b3, b4, f, b5, rfl⟩ := hb
  exact (mul_any A l n c a1 B f m d b1 w a5 b5 (by omega) (by omega)).mono fun _ _ h => RetN.of h (PB_mul a4 b4) (by omega) hab
theorem cmp_n (ha : Num w A n c a N) (hb : Num w B m d b M) : Calls Try.prog 18 #[.slice A n c, .slice B m d] w fun e w' => e = .returned (.int .i64 (cmpN N M)) ∧ Below w.heap.size w w' := by
  obtain ⟨a1, a2, a3, a4, l, a5, rfl⟩ := ha
  obtain ⟨b1, b2, b3, b4, f, b5, rfl⟩ := hb
  exact ncmp_any A l n c a1 B f m d b1 w a5 b5
def RetSubN (w : World) (b x y : Nat) (e : Ending) (w' : World) : Prop :=
  (x < y → e = .returned (.tuple #[.slice none 0 0, .int .i64 19]) ∧ Below w.heap.size w w') ∧
  (y ≤ x → ∃ A k c, e = .returned (.tuple #[.slice A k c, .int .i64 0]) ∧ Num w' A k c b (x - y) ∧ Norm w' A k (x - y) ∧ Below w.heap.size w w')
theorem sub_n (ha : Num w A n c a N) (hb : Num w B m d b M) (hab : a ≤ 10000) : Calls Try.prog 39 #[.slice A n c, .slice B m d] w (RetSubN w a N M) := by
  obtain ⟨a1, a2, a3, a4, l, a5, rfl⟩ := ha
  obtain ⟨b1, b2, b3, b4, f, b5, rfl⟩ := hb
  refine (sub_any A l n c a1 B f m d b1 w a5 b5 (by omega)).mono fun _ _ h => ⟨h.1, fun hle => ?_⟩
  obtain ⟨A', k', c', l', h1, h2, h3, h4, h5⟩ := h.2 hle
  obtain ⟨n1, n2⟩ := Num.of_nrm h3 h2 h4 (Nat.lt_of_le_of_lt (Nat.sub_le _ _) a4) a2 hab
  exact ⟨A', k', c', h1, n1, n2, h5⟩
def RetDMN (w : World) (b b' N M : Nat) (e : Ending) (w' : World) : Prop :=
  (M = 0 → e = .returned (.tuple #[.slice none 0 0, .slice none 0 0, .int .i64 18]) ∧ Below w.heap.size w w') ∧
  (M ≠ 0 → ∃ A k c A' k' c', e = .returned (.tuple #[.slice A k c, .slice A' k' c', .int .i64 0]) ∧ (Num w' A k c b (N / M) ∧ Norm w' A k (N / M)) ∧ (Num w' A' k' c' b' (N % M) ∧ Norm w' A' k' (N % M)) ∧ Below w.heap.size w w')
theorem dm_n (ha : Num w A n c a N) (hb : Num w B m d b M) (ha1 : a ≤ 10000) (hb1 : b ≤ 10000) : Calls Try.prog 75 #[.slice A n c, .slice B m d] w (RetDMN w a b N M) := by
  obtain ⟨a1, a2, a3, a4, l, a5, rfl⟩ := ha
  obtain ⟨b1, b2, b3, b4, f, b5, rfl⟩ := hb
  refine (divMod_any A l n c a1 B f m d b1 w a5 b5 (by omega)).mono fun _ _ h => ⟨h.1, fun hle => ?_⟩
  obtain ⟨A', k', c', l', A2, k2, c2, l2, h1, ⟨h2, h3, h4⟩, ⟨h5, h6, h7⟩, h8⟩ := h.2 hle
  have n1 := Num.of_nrm h3 h2 h4 (Nat.lt_of_le_of_lt (Nat.div_le_self _ _) a4) a2 ha1
  have n2 := Num.of_nrm h6 h5 h7 (Nat.lt_of_le_of_lt (Nat.le_of_lt (Nat.mod_lt _ (Nat.pos_of_ne_zero hle))) b4) b2 hb1
  exact ⟨A', k', c', A2, k2, c2, h1, n1, n2, h8⟩
theorem bits_n (ha : Num w A n c a N) : Calls Try.prog 53 #[.slice A n c] w fun e w' => ∃ b : Nat, e = .returned (.int .i64 b) ∧ BitsIs N b ∧ b ≤ 320000 ∧ w = w' := by
  obtain ⟨a1, a2, a3, a4, l, a5, rfl⟩ := ha
  refine (bits_any A l n c a1 w a5 (by omega)).mono fun _ _ h => ?_
  obtain ⟨b, h1, h2, h3, h4⟩ := h
  exact ⟨b, h1, h2, by omega, h4⟩
theorem u64_n (ha : Num w A n c a N) : Calls Try.prog 82 #[.slice A n c] w (RetU64 w N) := by
  obtain ⟨a1, a2, a3, a4, l, a5, rfl⟩ := ha
  exact uint64_any A l n c a1 w a5
theorem norm_n (ha : Num w A n c a N) (hab : a ≤ 10000) : Calls Try.prog 73 #[.slice A n c] w (RetN w a N) := by
  obtain ⟨a1, a2, a3, a4, l, a5, rfl⟩ := ha
  refine (norm_any A l n c a1 (by omega) w a5).mono fun _ w1 h => ?_
  obtain ⟨k, l', ⟨v, h1, h2, h3⟩, h4, h5, h6⟩ := h
  obtain ⟨A', c', rfl, hc'⟩ := own_cap h2
  obtain ⟨A2, c2, he, hE⟩ := Es.of_own h2 h6.2.1
  cases he
  obtain ⟨n1, n2⟩ := Num.of_nrm hE hc' h6 a4 a2 hab
  exact ⟨A', k, c', h1, n1, n2, h3⟩
end

theorem Norm.zero {w : World} {A : Option Addr} {k N : Nat} (h : Norm w A k N) : k = 0 ↔ N = 0 := by
  obtain ⟨l, hE, hN⟩ := h
  rw [hE.len]; exact hN.zero_iff (by omega)

end Go.Proofs.Ytpnklmgfdihjfaa
namespace Go.Proofs.Ytpnklmgfdihjfaa

/-- The value of a sign, a numerator and a denominator; a denominator of 0 counts as 1. -/
def qv (s : Bool) (N M : Nat) : Rat := mkRat (if s then -(N : Int) else (N : Int)) (if M = 0 then 1 else M)
theorem qv_zero (s : Bool) (M : Nat) : qv s 0 M = 0 := by
  unfold qv; cases s <;> simp
theorem qv_den0 (s : Bool) (N : Nat) : qv s N 0 = qv s N 1 := by simp [qv]
theorem natAbs_sg (s : Bool) (N : Nat) : (if s then -(N : Int) else (N : Int)).natAbs = N := by cases s <;> simp
theorem qv_num {s : Bool} {N M : Nat} (hM : M ≠ 0) : (qv s N M).num = if s then -((N / Nat.gcd N M : Nat) : Int) else ((N / Nat.gcd N M : Nat) : Int) := by
  unfold qv
  rw [if_neg hM, Rat.num_mkRat, if_neg hM, natAbs_sg, Nat.gcd_comm]
  have h : ((Nat.gcd N M : Nat) : Int) ∣ (N : Int) := Int.natCast_dvd_natCast.2 (Nat.gcd_dvd_left N M)
  cases s
  · simp
  · simp only [if_true]
    rw [Int.neg_ediv_of_dvd h]; simp
theorem qv_den {s : Bool} {N M : Nat} (hM : M ≠ 0) : (qv s N M).den = M / Nat.gcd N M := by
  unfold qv
  rw [if_neg hM, Rat.den_mkRat, if_neg hM, natAbs_sg, Nat.gcd_comm]
theorem qv_abs {s : Bool} {N M : Nat} (hM : M ≠ 0) : (qv s N M).num.natAbs = N / Nat.gcd N M := by
  rw [qv_num hM, natAbs_sg]
theorem qv_neg {s : Bool} {N M : Nat} (hM : M ≠ 0) (hN : N ≠ 0) : decide ((qv s N M).num < 0) = s := by
  rw [qv_num hM]
  have hg : 0 < Nat.gcd N M := Nat.gcd_pos_of_pos_left _ (by omega)
  have : 0 < N / Nat.gcd N M := Nat.div_pos (Nat.le_of_dvd (by omega) (Nat.gcd_dvd_left N M)) hg
  generalize N / Nat.gcd N M = k at *
  cases s <;> simp <;> omega
/-- A number is the fraction of its own parts. -/
theorem qv_self (x : Rat) : qv (decide (x.num < 0)) x.num.natAbs x.den = x := by
  unfold qv
  rw [if_neg x.den_nz]
  have : (if decide (x.num < 0) = true then -(x.num.natAbs : Int) else (x.num.natAbs : Int)) = x.num := by
    by_cases h : x.num < 0
    · rw [if_pos (by simpa using h)]; omega
    · rw [if_neg (by simpa using h)]; omega
  rw [this, Rat.mkRat_self]
def sg (s : Bool) : Rat := if s then -1 else 1
theorem qv_eq (s : Bool) (N M : Nat) (hM : M ≠ 0) : qv s N M = sg s * (N : Rat) / (M : Rat) := by
  unfold qv sg
  rw [if_neg hM, Rat.mkRat_eq_div]
  cases s
  · simp [Rat.one_mul]; rfl
  · simp only [if_true, Rat.intCast_neg]
    rw [Rat.neg_mul, Rat.one_mul]
    rfl
theorem cast_ne {M : Nat} (h : M ≠ 0) : (M : Rat) ≠ 0 := by
  intro h2
  apply h
  have : ((M : Rat)).num = (0 : Rat).num := by rw [h2]
  simpa using this
theorem sg_mul (s t : Bool) : sg s * sg t = sg (s != t) := by cases s <;> cases t <;> simp [sg] <;> grind
theorem sg_sq (s : Bool) : sg s * sg s = 1 := by rw [sg_mul]; simp [sg]
theorem qv_same {s : Bool} {a b c d : Nat} (hb : b ≠ 0) (hd : d ≠ 0) : qv s (a * d + c * b) (b * d) = qv s a b + qv s c d := by
  have hbd : b * d ≠ 0 := Nat.mul_ne_zero hb hd
  rw [qv_eq _ _ _ hbd, qv_eq _ _ _ hb, qv_eq _ _ _ hd, Rat.natCast_add, Rat.natCast_mul, Rat.natCast_mul, Rat.natCast_mul]
  have h1 := cast_ne hb
  have h2 := cast_ne hd
  generalize (a : Rat) = a at *
  generalize (b : Rat) = b at *
  generalize (c : Rat) = c at *
  generalize (d : Rat) = d at *
  generalize sg s = s at *
  grind
theorem sg_not (s : Bool) : sg (!s) = - sg s := by cases s <;> simp [sg]
theorem qv_diff {s : Bool} {a b c d : Nat} (hb : b ≠ 0) (hd : d ≠ 0) (h : c * b ≤ a * d) : qv s (a * d - c * b) (b * d) = qv s a b + qv (!s) c d := by
  have hbd : b * d ≠ 0 := Nat.mul_ne_zero hb hd
  have hs : ((a * d - c * b : Nat) : Rat) = (a : Rat) * (d : Rat) - (c : Rat) * (b : Rat) := by
    obtain ⟨k, hk⟩ := Nat.le.dest h
    rw [← hk, Nat.add_sub_cancel_left, ← Rat.natCast_mul, ← Rat.natCast_mul, ← hk, Rat.natCast_add]
    grind
  rw [qv_eq _ _ _ hbd, qv_eq _ _ _ hb, qv_eq _ _ _ hd, hs, Rat.natCast_mul, sg_not]
  have h1 := cast_ne hb
  have h2 := cast_ne hd
  generalize (a : Rat) = a at *
  generalize (b : Rat) = b at *
  generalize (c : Rat) = c at *
  generalize (d : Rat) = d at *
  generalize sg s = s at *
  grind
theorem qv_mul {s t : Bool} {a b c d : Nat} (hb : b ≠ 0) (hd : d ≠ 0) : qv (s != t) (a * c) (b * d) = qv s a b * qv t c d := by
  have hbd : b * d ≠ 0 := Nat.mul_ne_zero hb hd
  rw [qv_eq _ _ _ hbd, qv_eq _ _ _ hb, qv_eq _ _ _ hd, Rat.natCast_mul, Rat.natCast_mul, ← sg_mul]
  have h1 := cast_ne hb
  have h2 := cast_ne hd
  generalize (a : Rat) = a at *
  generalize (b : Rat) = b at *
  generalize (c : Rat) = c at *
  generalize (d : Rat) = d at *
  generalize sg s = s at *
  generalize sg t = t at *
  grind
theorem qv_inv {s : Bool} {a b : Nat} (ha : a ≠ 0) (hb : b ≠ 0) : qv s b a = (qv s a b)⁻¹ := by
  rw [qv_eq _ _ _ ha, qv_eq _ _ _ hb]
  have h1 := cast_ne ha
  have h2 := cast_ne hb
  have h3 := sg_sq s
  generalize (a : Rat) = a at *
  generalize (b : Rat) = b at *
  generalize sg s = s at *
  have h4 : s ≠ 0 := by intro h; rw [h] at h3; simp at h3
  symm
  apply Rat.inv_eq_of_mul_eq_one
  grind
theorem qv_negate (s : Bool) (N M : Nat) : qv (!s) N M = - qv s N M := by
  by_cases hM : M = 0
  · subst hM
    rw [qv_den0, qv_den0, qv_eq _ _ _ (by omega), qv_eq _ _ _ (by omega), sg_not]; grind
  · rw [qv_eq _ _ _ hM, qv_eq _ _ _ hM, sg_not]; grind
end Go.Proofs.Ytpnklmgfdihjfaa
namespace Go.Proofs.Ytpnklmgfdihjfaa
open Go.RowKit

def RetN1 (w : World) (b N : Nat) (e : Ending) (w' : World) : Prop := ∃ A k c, e = .returned (.slice A k c) ∧ Num w' A k c b N ∧ Below w.heap.size w w'
theorem BitsIs.zero' {b : Nat} (h : BitsIs 0 b) : b = 0 := h.unique (.inl ⟨rfl, rfl⟩)
theorem BitsIs.pos' {N b : Nat} (h : BitsIs N b) (hN : N ≠ 0) : b ≠ 0 := by
  rcases h with ⟨h, _⟩ | ⟨h, _⟩ <;> omega
theorem BitsIs.one' {b : Nat} (h : BitsIs 1 b) : b = 1 := h.unique (.inr ⟨by omega, by omega, by omega⟩)
theorem BitsIs.many {N b : Nat} (h : BitsIs N b) (hN : 2 ≤ N) : 2 ≤ b := by
  rcases h with ⟨h, _⟩ | ⟨h1, h2, h3⟩
  · omega
  · rcases Nat.lt_or_ge b 2 with h | h
    · obtain rfl : b = 1 := by omega
      omega
    · exact h
theorem gcd_le {N M b : Nat} (hN : N < PB b) (hM : M < PB b) : Nat.gcd N M < PB b := by
  rcases Nat.eq_zero_or_pos N with h | h
  · subst h; rw [Nat.gcd_zero_left]; exact hM
  · exact Nat.lt_of_le_of_lt (Nat.le_of_dvd h (Nat.gcd_dvd_left N M)) hN
theorem gcd_next (N M : Nat) : Nat.gcd M (N % M) = Nat.gcd N M := by
  rw [Nat.gcd_comm M (N % M), ← Nat.gcd_rec, Nat.gcd_comm]
def FB (g : Nat) : Value := .func (.func 95) #[] #[.pointer (some ⟨g, 0, none⟩)]
theorem Num.up {w : World} {A : Option Addr} {k c a b N : Nat} (h : Num w A k c a N) (hV : N < PB b) (hb : 1 ≤ b) : Num w A k c b N := ⟨h.1, hb, h.2.2.1, hV, h.2.2.2.2⟩

set_option maxHeartbeats 8000000 in
theorem gcd_any (b : Nat) (hb : b ≤ 5000) : ∀ (M N : Nat) (A : Option Addr) (n c : Nat) (B : Option Addr) (m d : Nat) (w : World) (g : Nat), Num w A n c b N → Num w B m d b M → Blk w g 56 #[FB g] →
    Calls Try.prog 95 #[.slice A n c, .slice B m d, .pointer (some ⟨g, 0, none⟩)] w (RetN1 w b (Nat.gcd N M)) := by
  intro M
  induction M using Nat.strongRecOn with
  | ind M ih =>
  intro N A n c B m d w g hA hB hg
  have hcell : w.cell? ⟨g, 0, none⟩ = some (FB g) := by rw [hg.cell]; rfl
  have HIH := Lib.hid ih; clear ih
  have HA := Lib.hid hA; have HB := Lib.hid hB; have HG := Lib.hid hg; clear hA hB hg hcell
  go_enter Try.func95, Try.ntmps95
  go_wp2_with fail
  refine (bits_n HB.out).mono ?_
  rintro e w1 ⟨bb, rfl, hbits, hbb, rfl⟩
  by_cases hM : M = 0
  · subst hM
    obtain rfl := hbits.zero'
    clear hbits
    go_wp2_with fail
    go_ret
    rw [Nat.gcd_zero_right]
    exact ⟨A, n, c, rfl, HA.out, Below.refl _ _⟩
  · have tb : ((bb : Int) == 0) = false := by have := hbits.pos' hM; simp; omega
    clear hbits
    have HM := Lib.hid hM; clear hM
    have HU := Lib.hid (gcd_le (b := b) HA.out.2.2.2.1 HB.out.2.2.2.1)
    by_cases hs : N < 18446744073709551616
    · by_cases hs2 : M < 18446744073709551616
      · go_wp2_with fail
        refine (u64_n HA.out).mono ?_
        rintro e w2 ⟨hu1, hu2, rfl⟩
        obtain rfl := hu1 hs
        clear hu1 hu2
        go_wp2_with fail
        refine (u64_n HB.out).mono ?_
        rintro e w2 ⟨hu1, hu2, rfl⟩
        obtain rfl := hu1 hs2
        clear hu1 hu2
        go_wp2_with fail
        go_loopw [6, 8] (fun xv yv wr => ∃ x y : Nat, xv = .int .u64 x ∧ yv = .int .u64 y ∧ x < 18446744073709551616 ∧ y < 18446744073709551616 ∧ Hid (Nat.gcd x y = Nat.gcd N M ∧ Below w.heap.size w wr)) (fun _ yv _ => (intOf yv).toNat)
        case atStart => exact ⟨N, M, rfl, rfl, hs, hs2, Lib.hid ⟨rfl, Below.refl _ _⟩⟩
        case round =>
          obtain ⟨x, y, rfl, rfl, hx, hy, HJ⟩ := hrel
          by_cases hy0 : y = 0
          · have ty : ((y : Int) != 0) = false := by simp [hy0]
            have HY := Lib.hid hy0; clear hy0
            go_wp2_with fail
            refine (of_n x hx _).mono ?_
            rintro e w3 ⟨A3, k3, c3, rfl, h3, -, hb⟩
            have H3 := Lib.hid h3; have H4 := Lib.hid (bthen HJ.out.2 hb HJ.out.2.size); clear h3 hb
            go_wp2_with fail
            go_ret
            have e1 := HJ.out.1
            rw [HY.out, Nat.gcd_zero_right] at e1
            have h5 := H3.out
            have h6 := HU.out
            rw [← e1] at h6 ⊢
            exact ⟨A3, k3, c3, rfl, h5.up h6 HA.out.2.1, H4.out⟩
          · have ty : ((y : Int) != 0) = true := by simp; omega
            have hyp : 0 < y := by omega
            have hml : x % y < y := Nat.mod_lt _ hyp
            go_wp2_with fail
            go_quiet (fail)
            go_wp2_with fail
            refine ⟨⟨y, x % y, by simp, by simp, hy, by omega, Lib.hid ⟨by rw [gcd_next]; exact HJ.out.1, below_drewN HJ.out.2 _⟩⟩, ?_⟩
            simp [intOf]; omega
      · go_wp2_with fail
        refine (u64_n HA.out).mono ?_
        rintro e w2 ⟨hu1, hu2, rfl⟩
        obtain rfl := hu1 (by omega)
        clear hu1 hu2
        go_wp2_with fail
        refine (u64_n HB.out).mono ?_
        rintro e w2 ⟨hu1, hu2, rfl⟩
        obtain rfl := hu2 (by omega)
        clear hu1 hu2
        go_wp2_with fail
        refine (dm_n HA.out HB.out (by omega) (by omega)).mono ?_
        rintro e w3 ⟨-, h⟩
        obtain ⟨A3, k3, c3, A4, k4, c4, rfl, -, ⟨h4, -⟩, hb⟩ := h HM.out
        clear h
        have hcell : w3.cell? ⟨g, 0, none⟩ = some (.func (.func 95) #[] #[.pointer (some ⟨g, 0, none⟩)]) := by rw [(HG.out.below hb HG.out.lt).cell]; rfl
        have H4 := Lib.hid h4; clear h4
        replace HB := Lib.hid (HB.out.new hb)
        replace HG := Lib.hid (HG.out.below hb HG.out.lt)
        have HW := Lib.hid hb; clear hb
        go_wp2_with fail
        refine (HIH.out (N % M) (Nat.mod_lt _ (Nat.pos_of_ne_zero HM.out)) M B m d A4 k4 c4 w3 g HB.out H4.out HG.out).mono ?_
        rw [gcd_next]
        rintro e w4 ⟨A5, k5, c5, rfl, h5, hb⟩
        have H5 := Lib.hid h5; clear h5
        replace HW := Lib.hid (bthen HW.out hb HW.out.size); clear hb hcell
        go_wp2_with fail
        go_ret
        exact ⟨A5, k5, c5, rfl, H5.out, HW.out⟩
    · by_cases hs2 : M < 18446744073709551616
      · go_wp2_with fail
        refine (u64_n HA.out).mono ?_
        rintro e w2 ⟨hu1, hu2, rfl⟩
        obtain rfl := hu2 (by omega)
        clear hu1 hu2
        go_wp2_with fail
        refine (u64_n HB.out).mono ?_
        rintro e w2 ⟨hu1, hu2, rfl⟩
        obtain rfl := hu1 (by omega)
        clear hu1 hu2
        go_wp2_with fail
        refine (dm_n HA.out HB.out (by omega) (by omega)).mono ?_
        rintro e w3 ⟨-, h⟩
        obtain ⟨A3, k3, c3, A4, k4, c4, rfl, -, ⟨h4, -⟩, hb⟩ := h HM.out
        clear h
        have hcell : w3.cell? ⟨g, 0, none⟩ = some (.func (.func 95) #[] #[.pointer (some ⟨g, 0, none⟩)]) := by rw [(HG.out.below hb HG.out.lt).cell]; rfl
        have H4 := Lib.hid h4; clear h4
        replace HB := Lib.hid (HB.out.new hb)
        replace HG := Lib.hid (HG.out.below hb HG.out.lt)
        have HW := Lib.hid hb; clear hb
        go_wp2_with fail
        refine (HIH.out (N % M) (Nat.mod_lt _ (Nat.pos_of_ne_zero HM.out)) M B m d A4 k4 c4 w3 g HB.out H4.out HG.out).mono ?_
        rw [gcd_next]
        rintro e w4 ⟨A5, k5, c5, rfl, h5, hb⟩
        have H5 := Lib.hid h5; clear h5
        replace HW := Lib.hid (bthen HW.out hb HW.out.size); clear hb hcell
        go_wp2_with fail
        go_ret
        exact ⟨A5, k5, c5, rfl, H5.out, HW.out⟩
      · go_wp2_with fail
        refine (u64_n HA.out).mono ?_
        rintro e w2 ⟨hu1, hu2, rfl⟩
        obtain rfl := hu2 (by omega)
        clear hu1 hu2
        go_wp2_with fail
        refine (u64_n HB.out).mono ?_
        rintro e w2 ⟨hu1, hu2, rfl⟩
        obtain rfl := hu2 (by omega)
        clear hu1 hu2
        go_wp2_with fail
        refine (dm_n HA.out HB.out (by omega) (by omega)).mono ?_
        rintro e w3 ⟨-, h⟩
        obtain ⟨A3, k3, c3, A4, k4, c4, rfl, -, ⟨h4, -⟩, hb⟩ := h HM.out
        clear h
        have hcell : w3.cell? ⟨g, 0, none⟩ = some (.func (.func 95) #[] #[.pointer (some ⟨g, 0, none⟩)]) := by rw [(HG.out.below hb HG.out.lt).cell]; rfl
        have H4 := Lib.hid h4; clear h4
        replace HB := Lib.hid (HB.out.new hb)
        replace HG := Lib.hid (HG.out.below hb HG.out.lt)
        have HW := Lib.hid hb; clear hb
        go_wp2_with fail
        refine (HIH.out (N % M) (Nat.mod_lt _ (Nat.pos_of_ne_zero HM.out)) M B m d A4 k4 c4 w3 g HB.out H4.out HG.out).mono ?_
        rw [gcd_next]
        rintro e w4 ⟨A5, k5, c5, rfl, h5, hb⟩
        have H5 := Lib.hid h5; clear h5
        replace HW := Lib.hid (bthen HW.out hb HW.out.size); clear hb hcell
        go_wp2_with fail
        go_ret
        exact ⟨A5, k5, c5, rfl, H5.out, HW.out⟩

set_option maxHeartbeats 4000000 in
theorem common_any (b : Nat) (hb : b ≤ 5000) (M N : Nat) (A : Option Addr) (n c : Nat) (B : Option Addr) (m d : Nat) (w : World) (hA : Num w A n c b N) (hB : Num w B m d b M) :
    Calls Try.prog 74 #[.slice A n c, .slice B m d] w (RetN1 w b (Nat.gcd N M)) := by
  have HA := Lib.hid hA; have HB := Lib.hid hB; clear hA hB
  go_enter Try.func74, Try.ntmps74
  go_wp2_with fail
  go_loopg [0, 1] M (fun R av bv wr => ∃ (N' : Nat) (A : Option Addr) (n c : Nat) (B : Option Addr) (m d : Nat), av = .slice A n c ∧ bv = .slice B m d ∧ Hid (Num wr A n c b N' ∧ Num wr B m d b R ∧ Nat.gcd N' R = Nat.gcd N M ∧ Blk wr w.heap.size 56 #[FB w.heap.size] ∧ Below w.heap.size w wr))
  case atStart =>
    exact ⟨N, A, n, c, B, m, d, rfl, rfl, Lib.hid ⟨HA.out.new (al w _), HB.out.new (al w _), rfl, Blk.new w _ _, al w _⟩⟩
  case round =>
    obtain ⟨N', A', n', c', B', m', d', rfl, rfl, HJ⟩ := hrel
    go_wp2_with fail
    refine (bits_n HJ.out.2.1).mono ?_
    rintro e w1 ⟨bb, rfl, hbits, hbb, rfl⟩
    by_cases hbig : 4096 < bb
    · have tb : decide ((4096 : Int) < (bb : Int)) = true := by simp; omega
      have hR : gk ≠ 0 := fun h => by rw [h] at hbits; have := hbits.zero'; omega
      have HR := Lib.hid hR; clear hR hbits
      go_wp2_with fail
      refine (dm_n HJ.out.1 HJ.out.2.1 (by omega) (by omega)).mono ?_
      rintro e w3 ⟨-, h⟩
      obtain ⟨A3, k3, c3, A4, k4, c4, rfl, -, ⟨h4, -⟩, hb⟩ := h HR.out
      clear h
      have H4 := Lib.hid h4; clear h4
      have H5 := Lib.hid (HJ.out.2.1.new hb)
      have H6 := Lib.hid (HJ.out.2.2.2.1.below hb HJ.out.2.2.2.1.lt)
      have HW := Lib.hid (bthen HJ.out.2.2.2.2 hb HJ.out.2.2.2.2.size); clear hb
      go_wp2_with fail
      go_roundg (N' % gk)
      case measure => exact Nat.mod_lt _ (Nat.pos_of_ne_zero HR.out)
      case rel => exact ⟨gk, B', m', d', A4, k4, c4, rfl, rfl, Lib.hid ⟨H5.out, H4.out, by rw [gcd_next]; exact HJ.out.2.2.1, H6.out, HW.out⟩⟩
    · have tb : decide ((4096 : Int) < (bb : Int)) = false := by simp; omega
      clear hbits
      have hcell : wr.cell? ⟨w.heap.size, 0, none⟩ = some (.func (.func 95) #[] #[.pointer (some ⟨w.heap.size, 0, none⟩)]) := by rw [HJ.out.2.2.2.1.cell]; rfl
      go_wp2_with fail
      refine (gcd_any b hb gk N' A' n' c' B' m' d' wr w.heap.size HJ.out.1 HJ.out.2.1 HJ.out.2.2.2.1).mono ?_
      rw [HJ.out.2.2.1]
      rintro e w4 ⟨A5, k5, c5, rfl, h5, hb⟩
      have H5 := Lib.hid h5; clear h5
      have HW := Lib.hid (bthen HJ.out.2.2.2.2 hb HJ.out.2.2.2.2.size); clear hb hcell
      go_wp2_with fail
      go_ret
      exact ⟨A5, k5, c5, rfl, H5.out, HW.out⟩
end Go.Proofs.Ytpnklmgfdihjfaa
namespace Go.Proofs.Ytpnklmgfdihjfaa
open Go.RowKit

/-- Block g is a struct of three cells (a boxed Rat). -/
def TB (w : World) (g : Nat) (t : TypeId) (x y z : Value) : Prop := Blk w g t #[x, y, z]
section
variable {w w' : World} {g : Nat} {t : TypeId} {x y z : Value}
theorem TB.blk (h : TB w g t x y z) : Blk w g t #[x, y, z] := h
theorem TB.c0 (h : TB w g t x y z) : w.cell? ⟨g, 0, none⟩ = some x := by rw [h.blk.cell]; rfl
theorem TB.c1 (h : TB w g t x y z) : w.cell? ⟨g, 1, none⟩ = some y := by rw [h.blk.cell]; rfl
theorem TB.c2 (h : TB w g t x y z) : w.cell? ⟨g, 2, none⟩ = some z := by rw [h.blk.cell]; rfl
theorem TB.f0 (h : TB w g t x y z) : w.frozen? ⟨g, 0, none⟩ = false := h.blk.frozen 0
theorem TB.f1 (h : TB w g t x y z) : w.frozen? ⟨g, 1, none⟩ = false := h.blk.frozen 1
theorem TB.f2 (h : TB w g t x y z) : w.frozen? ⟨g, 2, none⟩ = false := h.blk.frozen 2
theorem TB.lt (h : TB w g t x y z) : g < w.heap.size := h.blk.lt
theorem TB.new (h : TB w g t x y z) (hb : Below w.heap.size w w') : TB w' g t x y z := h.blk.below hb h.lt
theorem TB.alloc (h : TB w g t x y z) (o : Obj) : TB (w.alloc o) g t x y z := h.blk.alloc o
theorem TB.set3 (h : TB w g t x y z) (a b c : Value) : Blk (((w.setCell ⟨g, 0, none⟩ a).setCell ⟨g, 1, none⟩ b).setCell ⟨g, 2, none⟩ c) g t #[a, b, c] := ((h.blk.set_ 0 a).set_ 1 b).set_ 2 c
theorem TB.made (w : World) (t : TypeId) (x y z : Value) : TB (w.alloc (.cells #[x, y, z] t)) w.heap.size t x y z := Blk.new w t _
end

/-- The slices hold a fraction of the value x. -/
def Ra (w : World) (s : Bool) (A : Option Addr) (n c : Nat) (B : Option Addr) (m d b : Nat) (x : Rat) : Prop := ∃ N M, Num w A n c b N ∧ Num w B m d b M ∧ x = qv s N M
/-- .. the normal one. -/
def Rn (w : World) (s : Bool) (A : Option Addr) (n c : Nat) (B : Option Addr) (m d b : Nat) (x : Rat) : Prop :=
  s = decide (x.num < 0) ∧ (Num w A n c b x.num.natAbs ∧ Norm w A n x.num.natAbs) ∧ (Num w B m d b x.den ∧ Norm w B m x.den)
def RetQ (w : World) (b : Nat) (x : Rat) (e : Ending) (w' : World) : Prop :=
  ∃ s A n c B m d, e = .returned (.agg #[.bool s, .slice A n c, .slice B m d]) ∧ Rn w' s A n c B m d b x ∧ Below w.heap.size w w'
section
variable {w w' : World} {s : Bool} {A B : Option Addr} {n c m d b : Nat} {x : Rat}
theorem Ra.new (h : Ra w s A n c B m d b x) (hb : Below w.heap.size w w') : Ra w' s A n c B m d b x := by
  obtain ⟨N, M, h1, h2, h3⟩ := h
  exact ⟨N, M, h1.new hb, h2.new hb, h3⟩
theorem Rn.new (h : Rn w s A n c B m d b x) (hb : Below w.heap.size w w') : Rn w' s A n c B m d b x :=
  ⟨h.1, ⟨h.2.1.1.new hb, h.2.1.2.new hb⟩, ⟨h.2.2.1.new hb, h.2.2.2.new hb⟩⟩
theorem Rn.ra (h : Rn w s A n c B m d b x) : Ra w s A n c B m d b x := ⟨_, _, h.2.1.1, h.2.2.1, by rw [h.1, qv_self]⟩
end

theorem Es.far {w : World} {B n : Nat} {A : Option Addr} {ds : List Nat} (h : Es w B A n ds) {p : Addr} {v : Value} (hc : w.cell? p = some v) (hv : ∀ z, v ≠ .int .u32 z) (u : Value) : Es (w.setCell p u) B A n ds := by
  refine ⟨⟨h.1.1, fun hn => ?_⟩, h.2⟩
  obtain ⟨ad, rfl, hb, hx⟩ := h.1.2 hn
  refine ⟨ad, rfl, hb, fun j y hj => ?_⟩
  have h1 := hx j y hj
  rw [World.cell?_setCell_other w p (ad.add j) u]
  · exact h1
  · intro e
    rw [← e, hc] at h1
    cases h1
    exact hv _ (U32_get hj)
theorem size_setCell (w : World) (p : Addr) (u : Value) : (w.setCell p u).heap.size = w.heap.size := by simp [World.setCell]
section
variable {w : World} {g : Nat} {t : TypeId} {q : Bool} {a1 b1 : Option Addr} {a2 a3 b2 b3 : Nat}
theorem Es.store3 {n : Nat} {A : Option Addr} {ds : List Nat} (h : Es w w.heap.size A n ds) (ht : TB w g t (.bool q) (.slice a1 a2 a3) (.slice b1 b2 b3)) (x y z : Value) :
    Es (((w.setCell ⟨g, 0, none⟩ x).setCell ⟨g, 1, none⟩ y).setCell ⟨g, 2, none⟩ z) (((w.setCell ⟨g, 0, none⟩ x).setCell ⟨g, 1, none⟩ y).setCell ⟨g, 2, none⟩ z).heap.size A n ds := by
  rw [size_setCell, size_setCell, size_setCell]
  have h0 := h.far ht.c0 (by simp) x
  have c1 : (w.setCell ⟨g, 0, none⟩ x).cell? ⟨g, 1, none⟩ = some (.slice a1 a2 a3) := by rw [(ht.blk.set_ 0 x).cell]; rfl
  have h1 := h0.far c1 (by simp) y
  have c2 : ((w.setCell ⟨g, 0, none⟩ x).setCell ⟨g, 1, none⟩ y).cell? ⟨g, 2, none⟩ = some (.slice b1 b2 b3) := by rw [((ht.blk.set_ 0 x).set_ 1 y).cell]; rfl
  exact h1.far c2 (by simp) z
theorem Num.store3 {A : Option Addr} {k c b N : Nat} (h : Num w A k c b N) (ht : TB w g t (.bool q) (.slice a1 a2 a3) (.slice b1 b2 b3)) (x y z : Value) : Num (((w.setCell ⟨g, 0, none⟩ x).setCell ⟨g, 1, none⟩ y).setCell ⟨g, 2, none⟩ z) A k c b N := by
  obtain ⟨h1, h2, h3, h4, l, h5, h6⟩ := h
  exact ⟨h1, h2, h3, h4, l, h5.store3 ht x y z, h6⟩
theorem Norm.store3 {A : Option Addr} {k N : Nat} (h : Norm w A k N) (ht : TB w g t (.bool q) (.slice a1 a2 a3) (.slice b1 b2 b3)) (x y z : Value) : Norm (((w.setCell ⟨g, 0, none⟩ x).setCell ⟨g, 1, none⟩ y).setCell ⟨g, 2, none⟩ z) A k N := by
  obtain ⟨l, h5, h6⟩ := h
  exact ⟨l, h5.store3 ht x y z, h6⟩
theorem Rn.store3 {s : Bool} {A B : Option Addr} {n c m d b : Nat} {r : Rat} (h : Rn w s A n c B m d b r) (ht : TB w g t (.bool q) (.slice a1 a2 a3) (.slice b1 b2 b3)) (x y z : Value) : Rn (((w.setCell ⟨g, 0, none⟩ x).setCell ⟨g, 1, none⟩ y).setCell ⟨g, 2, none⟩ z) s A n c B m d b r :=
  ⟨h.1, ⟨h.2.1.1.store3 ht x y z, h.2.1.2.store3 ht x y z⟩, ⟨h.2.2.1.store3 ht x y z, h.2.2.2.store3 ht x y z⟩⟩
theorem below_store3 {B : Nat} {a : World} (h : Below B a w) (hg : B ≤ g) (x y z : Value) : Below B a (((w.setCell ⟨g, 0, none⟩ x).setCell ⟨g, 1, none⟩ y).setCell ⟨g, 2, none⟩ z) :=
  ((h.setCell (p := ⟨g, 0, none⟩) hg x).setCell (p := ⟨g, 1, none⟩) hg y).setCell (p := ⟨g, 2, none⟩) hg z
end
theorem PB_one {b : Nat} (h : 1 ≤ b) : 1 < PB b := Nat.lt_of_lt_of_le (show 1 < PB 1 by rw [PB]; omega) (PB_mono h)
theorem Num.more {w : World} {A : Option Addr} {k c a b N : Nat} (h : Num w A k c a N) (hb : a ≤ b) : Num w A k c b N := h.up (Nat.lt_of_lt_of_le h.2.2.2.1 (PB_mono hb)) (by have := h.2.1; omega)

set_option maxRecDepth 100000 in
set_option maxHeartbeats 4000000 in
theorem qnorm_any {w : World} {s : Bool} {A B : Option Addr} {n c m d b : Nat} {x : Rat} (h : Ra w s A n c B m d b x) (hb5 : b ≤ 5000) :
    Calls Try.prog 38 #[.agg #[.bool s, .slice A n c, .slice B m d]] w (RetQ w b x) := by
  obtain ⟨N, M, hA, hB, hx⟩ := h
  have HA := Lib.hid hA; have HB := Lib.hid hB; have HX := Lib.hid hx; clear hA hB hx
  go_enter Try.func38, Try.ntmps38
  go_wp2_with fail
  have hT0 : TB ((w.alloc (.cells #[.bool s, .slice A n c, .slice B m d] 31)).alloc (.cells #[.bool false, .slice none 0 0, .slice none 0 0] 31)) w.heap.size 31 (.bool s) (.slice A n c) (.slice B m d) := (TB.made w _ _ _ _).alloc _
  have hT1 : TB ((w.alloc (.cells #[.bool s, .slice A n c, .slice B m d] 31)).alloc (.cells #[.bool false, .slice none 0 0, .slice none 0 0] 31)) (w.heap.size + 1) 31 (.bool false) (.slice none 0 0) (.slice none 0 0) := by simpa using TB.made (w.alloc (.cells #[.bool s, .slice A n c, .slice B m d] 31)) 31 (.bool false) (.slice none 0 0) (.slice none 0 0)
  have hW : Below w.heap.size w ((w.alloc (.cells #[.bool s, .slice A n c, .slice B m d] 31)).alloc (.cells #[.bool false, .slice none 0 0, .slice none 0 0] 31)) := (al w _).alloc (by simp) _
  generalize (w.alloc (.cells #[.bool s, .slice A n c, .slice B m d] 31)).alloc (.cells #[.bool false, .slice none 0 0, .slice none 0 0] 31) = w0 at hT0 hT1 hW ⊢
  replace HA := Lib.hid (HA.out.new hW); replace HB := Lib.hid (HB.out.new hW)
  have HW := Lib.hid hW; clear hW
  have c0 := hT0.c0; have c1 := hT0.c1; have c2 := hT0.c2
  have l0 : w.heap.size < w0.heap.size := hT0.lt
  have T0 := Lib.hid hT0; have T1 := Lib.hid hT1; clear hT0 hT1
  go_region_held3 (fun w' => (∀ p : Addr, p.block < w0.heap.size → w'.cell? p = w0.cell? p) ∧ Below w0.heap.size w0 w')
    ((refine olds ?_; first | exact Below.refl _ _ | exact Below.drew (Below.refl _ _) | exact Hid.out ‹_›))
    (first
      | (go_at_call 73; refine (norm_n (HA.out.new (And.right ‹_ ∧ Below w0.heap.size w0 _›)) (by omega)).mono ?_; rintro e w5 ⟨A5, k5, c5, rfl, h5, j5, hb⟩; have HB5 := Lib.hid (bthen (And.right ‹_ ∧ Below w0.heap.size w0 _›) hb (Below.size (And.right ‹_ ∧ Below w0.heap.size w0 _›))); have H5 := Lib.hid h5; have J5 := Lib.hid j5; clear hb h5 j5)
      | (go_at_call 73; refine (norm_n (HB.out.new (And.right ‹_ ∧ Below w0.heap.size w0 _›)) (by omega)).mono ?_; rintro e w6 ⟨A6, k6, c6, rfl, h6, j6, hb⟩; have HB6 := Lib.hid (bthen (And.right ‹_ ∧ Below w0.heap.size w0 _›) hb (Below.size (And.right ‹_ ∧ Below w0.heap.size w0 _›))); replace H5 := Lib.hid (H5.out.new hb); replace J5 := Lib.hid (J5.out.new hb); have H6 := Lib.hid h6; have J6 := Lib.hid j6; clear hb h6 j6))
  replace T0 := Lib.hid (T0.out.new HB6.out)
  clear c0
  have c0 := T0.out.c0
  replace T1 := Lib.hid (T1.out.new HB6.out)
  replace HW := Lib.hid (bthen HW.out HB6.out HW.out.size)
  clear HB6 HB5 c1 c2 l0 HA HB
  have Z5 := Lib.hid J5.out.zero; have Z6 := Lib.hid J6.out.zero
  by_cases hz : N = 0 ∨ M = 0
  · have hpick : k5 = 0 ∨ (k5 ≠ 0 ∧ k6 = 0) := by
      rcases hz with h | h
      · left; exact Z5.out.2 h
      · by_cases h5 : k5 = 0
        · left; exact h5
        · right; exact ⟨h5, Z6.out.2 h⟩
    clear hz
    rcases hpick with h0 | ⟨h0, h1⟩
    · have hN := Z5.out.1 h0
      have HX0 := Lib.hid (show x = 0 by rw [HX.out, hN, qv_zero])
      subst h0
      subst hN
      clear Z5 Z6 HX
      cases s
      all_goals
        go_wp2_with fail
        refine (of_n 1 (by omega) _).mono ?_
        rintro e w7 ⟨A7, k7, c7, rfl, h7, j7, hb⟩
        have hT := T1.out.new hb
        have r0 := hT.c0; have r1 := hT.c1; have r2 := hT.c2; have f0 := hT.f0; have f1 := hT.f1; have f2 := hT.f2
        have hR : Rn w7 false A5 0 c5 A7 k7 c7 b x := by rw [HX0.out]; exact ⟨rfl, ⟨H5.out.new hb, J5.out.new hb⟩, ⟨h7.up (PB_one H5.out.2.1) H5.out.2.1, j7⟩⟩
        have HR := Lib.hid hR; have HT := Lib.hid hT
        replace HW := Lib.hid (bthen HW.out hb HW.out.size)
        clear hb hR hT h7 j7 c0 T1
        go_wp2_with fail
        refine bodyPost_ret (v := .agg #[.bool false, .slice A5 0 c5, .slice A7 k7 c7]) ?_ rfl ⟨_, _, _, _, _, _, _, rfl, HR.out.store3 HT.out _ _ _, below_store3 HW.out (by omega) _ _ _⟩
        exact results_cell_row Try.results38 _ _ _ _ _ (0, 0) _ rfl (HT.out.set3 _ _ _) Try.underlying31 rfl rfl
    · have t5 : ((k5 : Int) == 0) = false := by simp; omega
      have t6 : ((k6 : Int) == 0) = true := by simp [h1]
      have hM := Z6.out.1 h1
      have hN : N ≠ 0 := fun h => h0 (Z5.out.2 h)
      have g5 : 0 < k5 := by omega
      have HX0 := Lib.hid (show s = decide (x.num < 0) ∧ x.num.natAbs = N ∧ x.den = 1 by
        have e : x = qv s N 1 := by rw [HX.out, hM, qv_den0]
        rw [e, qv_neg (by omega) hN, qv_abs (by omega), qv_den (by omega)]; simp)
      clear Z5 Z6 HX h0 h1 hM hN
      cases s
      all_goals
        go_wp2_with fail
        refine (of_n 1 (by omega) _).mono ?_
        rintro e w7 ⟨A7, k7, c7, rfl, h7, j7, hb⟩
        have hT := T1.out.new hb
        have r0 := hT.c0; have r1 := hT.c1; have r2 := hT.c2; have f0 := hT.f0; have f1 := hT.f1; have f2 := hT.f2
        have hR : Rn w7 _ A5 k5 c5 A7 k7 c7 b x := ⟨HX0.out.1, by rw [HX0.out.2.1]; exact ⟨H5.out.new hb, J5.out.new hb⟩, by rw [HX0.out.2.2]; exact ⟨h7.up (PB_one H5.out.2.1) H5.out.2.1, j7⟩⟩
        have HR := Lib.hid hR; have HT := Lib.hid hT
        replace HW := Lib.hid (bthen HW.out hb HW.out.size)
        clear hb hR hT h7 j7 c0 T1
        go_wp2_with fail
        refine bodyPost_ret (v := .agg #[.bool _, .slice A5 k5 c5, .slice A7 k7 c7]) ?_ rfl ⟨_, _, _, _, _, _, _, rfl, HR.out.store3 HT.out _ _ _, below_store3 HW.out (by omega) _ _ _⟩
        exact results_cell_row Try.results38 _ _ _ _ _ (0, 0) _ rfl (HT.out.set3 _ _ _) Try.underlying31 rfl rfl
  · have hN : N ≠ 0 := fun h => hz (.inl h)
    have hM : M ≠ 0 := fun h => hz (.inr h)
    have t5 : ((k5 : Int) == 0) = false := by have : k5 ≠ 0 := fun h => hN (Z5.out.1 h); simp; omega
    have t6 : ((k6 : Int) == 0) = false := by have : k6 ≠ 0 := fun h => hM (Z6.out.1 h); simp; omega
    have HX0 := Lib.hid (show s = decide (x.num < 0) ∧ x.num.natAbs = N / Nat.gcd N M ∧ x.den = M / Nat.gcd N M by
      rw [HX.out, qv_neg hM hN, qv_abs hM, qv_den hM]; simp)
    have HG0 := Lib.hid (show Nat.gcd N M ≠ 0 by intro h; exact hN (Nat.eq_zero_of_gcd_eq_zero_left h))
    have HNZ := Lib.hid hN; have HMZ := Lib.hid hM
    clear hz hN hM Z5 Z6 HX c0
    go_wp2_with fail
    refine (bits_n H6.out).mono ?_
    rintro e w7 ⟨bb, rfl, hbits, hbb, rfl⟩
    by_cases hM1 : M = 1
    · subst hM1
      obtain rfl := hbits.one'
      clear hbits
      have HR := Lib.hid (show Rn w6 s A5 k5 c5 A6 k6 c6 b x from ⟨HX0.out.1, by rw [HX0.out.2.1]; simp only [Nat.gcd_one_right, Nat.div_one]; exact ⟨H5.out, J5.out⟩, by rw [HX0.out.2.2]; simp only [Nat.gcd_one_right, Nat.div_one]; exact ⟨H6.out, J6.out⟩⟩)
      have c0 := T0.out.c0
      have r0 := T1.out.c0; have r1 := T1.out.c1; have r2 := T1.out.c2; have f0 := T1.out.f0; have f1 := T1.out.f1; have f2 := T1.out.f2
      go_wp2_with fail
      refine bodyPost_end (v := .agg #[.bool s, .slice A5 k5 c5, .slice A6 k6 c6]) ?_ rfl ⟨_, _, _, _, _, _, _, rfl, HR.out.store3 T1.out _ _ _, below_store3 HW.out (by omega) _ _ _⟩
      exact results_cell_row Try.results38 _ _ _ _ _ (0, 0) _ rfl (T1.out.set3 _ _ _) Try.underlying31 rfl rfl
    · have hb2 := hbits.many (by have := HMZ.out; omega)
      have tb : decide ((1 : Int) < (bb : Int)) = true := by simp; omega
      clear hbits hM1 hb2
      go_wp2_with fail
      refine (common_any b hb5 M N A5 k5 c5 A6 k6 c6 _ H5.out H6.out).mono ?_
      rintro e w8 ⟨A8, k8, c8, rfl, h8, hb⟩
      replace T0 := Lib.hid (T0.out.new hb); replace T1 := Lib.hid (T1.out.new hb)
      replace HW := Lib.hid (bthen HW.out hb HW.out.size)
      replace H5 := Lib.hid (H5.out.new hb); replace J5 := Lib.hid (J5.out.new hb); replace H6 := Lib.hid (H6.out.new hb); replace J6 := Lib.hid (J6.out.new hb)
      have H8 := Lib.hid h8; clear h8 hb
      go_wp2_with fail
      refine (bits_n H8.out).mono ?_
      rintro e w9 ⟨b9, rfl, hbits, hb9, rfl⟩
      by_cases hg1 : Nat.gcd N M = 1
      · rw [hg1] at hbits
        obtain rfl := hbits.one'
        clear hbits
        have HR := Lib.hid (show Rn w8 s A5 k5 c5 A6 k6 c6 b x from ⟨HX0.out.1, by rw [HX0.out.2.1, hg1, Nat.div_one]; exact ⟨H5.out, J5.out⟩, by rw [HX0.out.2.2, hg1, Nat.div_one]; exact ⟨H6.out, J6.out⟩⟩)
        clear hg1
        have c0 := T0.out.c0
        have r0 := T1.out.c0; have r1 := T1.out.c1; have r2 := T1.out.c2; have f0 := T1.out.f0; have f1 := T1.out.f1; have f2 := T1.out.f2
        go_wp2_with fail
        refine bodyPost_end (v := .agg #[.bool s, .slice A5 k5 c5, .slice A6 k6 c6]) ?_ rfl ⟨_, _, _, _, _, _, _, rfl, HR.out.store3 T1.out _ _ _, below_store3 HW.out (by omega) _ _ _⟩
        exact results_cell_row Try.results38 _ _ _ _ _ (0, 0) _ rfl (T1.out.set3 _ _ _) Try.underlying31 rfl rfl
      · have hb2 := hbits.many (by have := HG0.out; omega)
        have t9 : decide ((1 : Int) < (b9 : Int)) = true := by simp; omega
        clear hbits hg1 hb2
        go_wp2_with fail
        refine (dm_n H5.out H8.out (by omega) (by omega)).mono ?_
        rintro e w10 ⟨-, h⟩
        obtain ⟨A3, k3, c3, A4, k4, c4, rfl, ⟨h3, j3⟩, -, hb⟩ := h HG0.out
        clear h
        replace T0 := Lib.hid (T0.out.new hb); replace T1 := Lib.hid (T1.out.new hb)
        replace HW := Lib.hid (bthen HW.out hb HW.out.size)
        replace H5 := Lib.hid (H5.out.new hb); replace J5 := Lib.hid (J5.out.new hb); replace H6 := Lib.hid (H6.out.new hb); replace J6 := Lib.hid (J6.out.new hb)
        replace H8 := Lib.hid (H8.out.new hb)
        have H3 := Lib.hid h3; have J3 := Lib.hid j3; clear h3 j3 hb
        go_wp2_with fail
        refine (dm_n H6.out H8.out (by omega) (by omega)).mono ?_
        rintro e w11 ⟨-, h⟩
        obtain ⟨A11, k11, c11, A12, k12, c12, rfl, ⟨h11, j11⟩, -, hb⟩ := h HG0.out
        clear h
        replace T0 := Lib.hid (T0.out.new hb); replace T1 := Lib.hid (T1.out.new hb)
        replace HW := Lib.hid (bthen HW.out hb HW.out.size)
        replace H5 := Lib.hid (H5.out.new hb); replace J5 := Lib.hid (J5.out.new hb); replace H6 := Lib.hid (H6.out.new hb); replace J6 := Lib.hid (J6.out.new hb)
        replace H3 := Lib.hid (H3.out.new hb); replace J3 := Lib.hid (J3.out.new hb)
        have HR := Lib.hid (show Rn w11 s A3 k3 c3 A11 k11 c11 b x from ⟨HX0.out.1, by rw [HX0.out.2.1]; exact ⟨H3.out, J3.out⟩, by rw [HX0.out.2.2]; exact ⟨h11, j11⟩⟩)
        clear h11 j11 hb
        have c0 := T0.out.c0
        have r0 := T1.out.c0; have r1 := T1.out.c1; have r2 := T1.out.c2; have f0 := T1.out.f0; have f1 := T1.out.f1; have f2 := T1.out.f2
        go_wp2_with fail
        refine bodyPost_end (v := .agg #[.bool s, .slice A3 k3 c3, .slice A11 k11 c11]) ?_ rfl ⟨_, _, _, _, _, _, _, rfl, HR.out.store3 T1.out _ _ _, below_store3 HW.out (by omega) _ _ _⟩
        exact results_cell_row Try.results38 _ _ _ _ _ (0, 0) _ rfl (T1.out.set3 _ _ _) Try.underlying31 rfl rfl
end Go.Proofs.Ytpnklmgfdihjfaa
namespace Go.Proofs.Ytpnklmgfdihjfaa
open Go.RowKit

theorem TB.far3 {w : World} {g h : Nat} {t : TypeId} {x y z : Value} (hT : TB w h t x y z) (hne : h ≠ g) (a b c : Value) : TB (((w.setCell ⟨g, 0, none⟩ a).setCell ⟨g, 1, none⟩ b).setCell ⟨g, 2, none⟩ c) h t x y z :=
  ((hT.blk.far (p := ⟨g, 0, none⟩) hne a).far (p := ⟨g, 1, none⟩) hne b).far (p := ⟨g, 2, none⟩) hne c
theorem TB.drew {w : World} {g : Nat} {t : TypeId} {x y z : Value} (h : TB w g t x y z) : TB w.drew g t x y z := h

/-- Both arguments replaced by their normal forms. -/
theorem two_stored {w w6 : World} {g : Nat} {s s' s5 s6 : Bool} {A B A' B' A5 B5 A6 B6 : Option Addr} {n c m d n' c' m' d' n5 c5 m5 d5 n6 c6 m6 d6 b b' : Nat} {x y : Rat} {t : TypeId} {z0 z1 z2 : Value}
    (h2 : TB w6 g t (.bool s) (.slice A n c) (.slice B m d)) (h3 : TB w6 (g + 1) t (.bool s') (.slice A' n' c') (.slice B' m' d')) (h4 : TB w6 (g + 2) t z0 z1 z2)
    (h5 : Rn w6 s5 A5 n5 c5 B5 m5 d5 b x) (h6 : Rn w6 s6 A6 n6 c6 B6 m6 d6 b' y) (hW : Below g w w6) {a0 a1 a2 b0 b1 b2 : Value} (e0 : a0 = .bool s5) (e1 : a1 = .slice A5 n5 c5) (e2 : a2 = .slice B5 m5 d5) (f0 : b0 = .bool s6) (f1 : b1 = .slice A6 n6 c6) (f2 : b2 = .slice B6 m6 d6) :
    (fun wx => TB wx g t (.bool s5) (.slice A5 n5 c5) (.slice B5 m5 d5) ∧ TB wx (g + 1) t (.bool s6) (.slice A6 n6 c6) (.slice B6 m6 d6) ∧ TB wx (g + 2) t z0 z1 z2 ∧ Rn wx s5 A5 n5 c5 B5 m5 d5 b x ∧ Rn wx s6 A6 n6 c6 B6 m6 d6 b' y ∧ Below g w wx)
      ((((((w6.setCell ⟨g, 0, none⟩ a0).setCell ⟨g, 1, none⟩ a1).setCell ⟨g, 2, none⟩ a2).setCell ⟨g + 1, 0, none⟩ b0).setCell ⟨g + 1, 1, none⟩ b1).setCell ⟨g + 1, 2, none⟩ b2) := by
  subst e0 e1 e2 f0 f1 f2
  have k3 : TB (((w6.setCell ⟨g, 0, none⟩ (.bool s5)).setCell ⟨g, 1, none⟩ (.slice A5 n5 c5)).setCell ⟨g, 2, none⟩ (.slice B5 m5 d5)) (g + 1) t (.bool s') (.slice A' n' c') (.slice B' m' d') := h3.far3 (by omega) _ _ _
  refine ⟨?_, k3.set3 _ _ _, (h4.far3 (by omega) _ _ _).far3 (by omega) _ _ _, (h5.store3 h2 _ _ _).store3 k3 _ _ _, (h6.store3 h2 _ _ _).store3 k3 _ _ _, below_store3 (below_store3 hW (Nat.le_refl _) _ _ _) (by omega) _ _ _⟩
  exact TB.far3 (h2.set3 _ _ _) (by omega) _ _ _
theorem keep6 {wc w' : World} {g2 g3 g4 : Nat} {t : TypeId} {x y z x' y' z' : Value} (h2 : TB wc g2 t x y z) (h3 : TB wc g3 t x' y' z') (hg : wc.grownBy w' (some g4)) (n2 : g2 ≠ g4) (n3 : g3 ≠ g4) :
    ((w'.cell? ⟨g2, 0, none⟩ = some x ∧ w'.cell? ⟨g2, 1, none⟩ = some y ∧ w'.cell? ⟨g2, 2, none⟩ = some z) ∧ (w'.cell? ⟨g3, 0, none⟩ = some x' ∧ w'.cell? ⟨g3, 1, none⟩ = some y' ∧ w'.cell? ⟨g3, 2, none⟩ = some z')) ∧ wc.grownBy w' (some g4) := by
  have k2 : TB w' g2 t x y z := h2.blk.grown hg (by simpa using n2)
  have k3 : TB w' g3 t x' y' z' := h3.blk.grown hg (by simpa using n3)
  exact ⟨⟨⟨k2.c0, k2.c1, k2.c2⟩, ⟨k3.c0, k3.c1, k3.c2⟩⟩, hg⟩
theorem only_store3 {a w : World} {g : Nat} (h : a.grownBy w (some g)) (x y z : Value) : a.grownBy (((w.setCell ⟨g, 0, none⟩ x).setCell ⟨g, 1, none⟩ y).setCell ⟨g, 2, none⟩ z) (some g) :=
  only_setCell (only_setCell (only_setCell h (.inl rfl) _) (.inl rfl) _) (.inl rfl) _
theorem grown_below {wc w' : World} (h : Below wc.heap.size wc w') (row : Option Nat) : wc.grownBy w' row := ⟨h.os, h.tape, h.output, h.size, fun k hk _ => h.block k hk⟩
theorem below_from_drew {wc w' : World} (h : Below wc.drew.heap.size wc.drew w') : Below wc.heap.size wc w' := bthen (Below.refl wc.heap.size wc).drew h (Nat.le_refl _)

set_option maxRecDepth 100000 in
set_option maxHeartbeats 8000000 in
theorem qmul_any {w : World} {s : Bool} {A B : Option Addr} {n c m d b : Nat} {x : Rat} (h : Ra w s A n c B m d b x) {s' : Bool} {A' B' : Option Addr} {n' c' m' d' b' : Nat} {y : Rat} (h' : Ra w s' A' n' c' B' m' d' b' y) (hb5 : b + b' ≤ 5000) :
    Calls Try.prog 80 #[.agg #[.bool s, .slice A n c, .slice B m d], .agg #[.bool s', .slice A' n' c', .slice B' m' d']] w (RetQ w (b + b') (x * y)) := by
  have HA := Lib.hid h; have HB := Lib.hid h'; clear h h'
  go_enter Try.func80, Try.ntmps80
  go_upto_region 1 with (fail)
  obtain ⟨X, hX⟩ : ∃ X : Array Value, X = #[.bool s, .slice A n c, .slice B m d] := ⟨_, rfl⟩
  obtain ⟨Y, hY⟩ : ∃ Y : Array Value, Y = #[.bool s', .slice A' n' c', .slice B' m' d'] := ⟨_, rfl⟩
  obtain ⟨Z, hZ⟩ : ∃ Z : Array Value, Z = #[.bool false, .slice none 0 0, .slice none 0 0] := ⟨_, rfl⟩
  have hW : Below w.heap.size w (((w.alloc (.cells X 31)).alloc (.cells Y 31)).alloc (.cells Z 31)) := ((al w _).alloc (by simp) _).alloc (by simp; omega) _
  have h2 : Blk (((w.alloc (.cells X 31)).alloc (.cells Y 31)).alloc (.cells Z 31)) w.heap.size 31 X := ((Blk.new w _ _).alloc _).alloc _
  have h3 : Blk (((w.alloc (.cells X 31)).alloc (.cells Y 31)).alloc (.cells Z 31)) (w.heap.size + 1) 31 Y := by
    have := (Blk.new (w.alloc (.cells X 31)) 31 Y).alloc (.cells Z 31)
    simpa using this
  have h4 : Blk (((w.alloc (.cells X 31)).alloc (.cells Y 31)).alloc (.cells Z 31)) (w.heap.size + 2) 31 Z := by
    have := (Blk.new ((w.alloc (.cells X 31)).alloc (.cells Y 31)) 31 Z)
    simpa using this
  rw [hX, hY, hZ] at hW h2 h3 h4
  clear hX hY hZ
  generalize ((w.alloc (.cells #[.bool s, .slice A n c, .slice B m d] 31)).alloc (.cells #[.bool s', .slice A' n' c', .slice B' m' d'] 31)).alloc (.cells #[.bool false, .slice none 0 0, .slice none 0 0] 31) = w0 at hW h2 h3 h4 ⊢
  clear X Y Z
  replace HA := Lib.hid (HA.out.new hW); replace HB := Lib.hid (HB.out.new hW)
  have HW := Lib.hid hW; clear hW
  have T2 : Hid (TB w0 w.heap.size 31 (.bool s) (.slice A n c) (.slice B m d)) := Lib.hid h2
  have T3 : Hid (TB w0 (w.heap.size + 1) 31 (.bool s') (.slice A' n' c') (.slice B' m' d')) := Lib.hid h3
  have T4 : Hid (TB w0 (w.heap.size + 2) 31 (.bool false) (.slice none 0 0) (.slice none 0 0)) := Lib.hid h4
  clear h2 h3 h4
  go_cut [2] (fun p2 wx => p2 = .pointer (some ⟨w.heap.size, 0, none⟩) ∧ ∃ s1 A1 n1 c1 B1 m1 d1 s2 A2 n2 c2 B2 m2 d2, Hid (TB wx w.heap.size 31 (.bool s1) (.slice A1 n1 c1) (.slice B1 m1 d1) ∧ TB wx (w.heap.size + 1) 31 (.bool s2) (.slice A2 n2 c2) (.slice B2 m2 d2) ∧ TB wx (w.heap.size + 2) 31 (.bool false) (.slice none 0 0) (.slice none 0 0) ∧ Rn wx s1 A1 n1 c1 B1 m1 d1 b x ∧ Rn wx s2 A2 n2 c2 B2 m2 d2 b' y ∧ Below w.heap.size w wx))
  case first =>
    have a0 := T2.out.c0; have a1 := T2.out.c1; have a2 := T2.out.c2
    have b0 := T3.out.c0; have b1 := T3.out.c1; have b2 := T3.out.c2
    go_region_law (first
      | (have HB5' := HB5; clear HB5'; go_simp; go_at_call 38; refine (qnorm_any HB5.out (by omega)).mono ?_; rintro e w6 ⟨s6, A6, n6, c6, B6, m6, d6, rfl, h6, hb⟩; have H6 := Lib.hid h6; replace H5 := Lib.hid (H5.out.new hb); replace U2 := Lib.hid (U2.out.new hb); replace U3 := Lib.hid (U3.out.new hb); replace U4 := Lib.hid (U4.out.new hb); replace HW5 := Lib.hid (bthen HW5.out hb HW5.out.size); clear h6 hb; have e0 := U3.out.c0; have e1 := U3.out.c1; have e2 := U3.out.c2; have g0 := U3.out.f0; have g1 := U3.out.f1; have g2 := U3.out.f2; have d0 := U2.out.c0; have d1 := U2.out.c1; have d2 := U2.out.c2; have f0 := U2.out.f0; have f1 := U2.out.f1; have f2 := U2.out.f2)
      | (go_simp; go_at_call 38; refine (qnorm_any (w := w0.drew) HA.out (by omega)).mono ?_; rintro e w5 ⟨s5, A5, n5, c5, B5, m5, d5, rfl, h5, hb⟩; have H5 := Lib.hid h5; have U2 := Lib.hid (T2.out.drew.new hb); have U3 := Lib.hid (T3.out.drew.new hb); have U4 := Lib.hid (T4.out.drew.new hb); have HW5 := Lib.hid (bthen HW.out.drew hb HW.out.drew.size); have HB5 := Lib.hid (HB.out.new (w := w0.drew) hb); clear h5 hb; have b0 := U3.out.c0; have b1 := U3.out.c1; have b2 := U3.out.c2))
    all_goals
      go_wp2_with fail
      go_meet
      exact ⟨rfl, s5, A5, n5, c5, B5, m5, d5, s6, A6, n6, c6, B6, m6, d6, Lib.hid (two_stored U2.out U3.out U4.out H5.out H6.out HW5.out rfl rfl rfl rfl rfl rfl)⟩
  case rest =>
    clear HA HB HW T2 T3 T4
    obtain ⟨rfl, s1, A1, n1, c1, B1, m1, d1, s2, A2, n2, c2, B2, m2, d2, HC⟩ := hcut
    obtain ⟨t2, t3, t4, r1, r2, hW⟩ := HC.out
    have l2 := t2.lt; have l3 := t3.lt; have l4 := t4.lt
    have T2 := Lib.hid t2; have T3 := Lib.hid t3; have T4 := Lib.hid t4; have R1 := Lib.hid r1; have R2 := Lib.hid r2; have HW := Lib.hid hW
    clear t2 t3 t4 r1 r2 hW HC
    have a0 := T2.out.c0; have a1 := T2.out.c1; have a2 := T2.out.c2
    have b0 := T3.out.c0; have b1 := T3.out.c1; have b2 := T3.out.c2
    have HQ := Lib.hid (show x * y = qv (s1 != s2) (x.num.natAbs * y.num.natAbs) (x.den * y.den) by rw [qv_mul x.den_nz y.den_nz, R1.out.1, R2.out.1, qv_self, qv_self])
    go_wp2_with fail
    go_region_held3 (fun w' => ((w'.cell? ⟨w.heap.size, 0, none⟩ = some (.bool s1) ∧ w'.cell? ⟨w.heap.size, 1, none⟩ = some (.slice A1 n1 c1) ∧ w'.cell? ⟨w.heap.size, 2, none⟩ = some (.slice B1 m1 d1)) ∧ (w'.cell? ⟨w.heap.size + 1, 0, none⟩ = some (.bool s2) ∧ w'.cell? ⟨w.heap.size + 1, 1, none⟩ = some (.slice A2 n2 c2) ∧ w'.cell? ⟨w.heap.size + 1, 2, none⟩ = some (.slice B2 m2 d2))) ∧ wc.grownBy w' (some (w.heap.size + 2)))
      ((refine keep6 T2.out T3.out ?_ (by omega) (by omega); first | exact World.grownBy.refl _ _ | exact only_drew (World.grownBy.refl _ _) | exact Hid.out ‹_› | exact only_store3 (Hid.out ‹_›) _ _ _))
      (first
        | (have Hg := H6; clear Hg; go_at_call 38; refine (qnorm_any (s := s1 != s2) (b := b + b') ⟨_, _, H5.out, H6.out, HQ.out⟩ (by omega)).mono ?_; rintro e w7 ⟨s7, A7, n7, c7, B7, m7, d7, rfl, h7, hb⟩; have H7 := Lib.hid h7; have HB7 := Lib.hid (bthen HB6.out hb HB6.out.size); have HG7 := Lib.hid (grown_below HB7.out (some (w.heap.size + 2))); clear h7 hb; have U4 := Lib.hid (T4.out.new HB7.out); have r0 := U4.out.c0; have r1 := U4.out.c1; have r2 := U4.out.c2; have f0 := U4.out.f0; have f1 := U4.out.f1; have f2 := U4.out.f2)
        | (have Hg := H5; clear Hg; go_at_call 19; refine (mul_n (R1.out.2.2.1.new HB5.out) (R2.out.2.2.1.new HB5.out) (by omega)).mono ?_; rintro e w6 ⟨A6, k6, c6, rfl, h6, -, hb⟩; have H6 := Lib.hid h6; replace H5 := Lib.hid (H5.out.new hb); have HB6 := Lib.hid (bthen HB5.out hb HB5.out.size); have HG6 := Lib.hid (grown_below HB6.out (some (w.heap.size + 2))); clear h6 hb)
        | (go_at_call 19; refine (mul_n (w := wc.drew) R1.out.2.1.1 R2.out.2.1.1 (by omega)).mono ?_; rintro e w5 ⟨A5, k5, c5, rfl, h5, -, hb⟩; have H5 := Lib.hid h5; have HB5 := Lib.hid (below_from_drew hb); have HG5 := Lib.hid (grown_below HB5.out (some (w.heap.size + 2))); clear h5 hb))
    go_wp2_with fail
    refine bodyPost_end (v := .agg #[.bool s7, .slice A7 n7 c7, .slice B7 m7 d7]) ?_ rfl ⟨_, _, _, _, _, _, _, rfl, H7.out.store3 U4.out _ _ _, below_store3 (bthen HW.out HB7.out HW.out.size) (by omega) _ _ _⟩
    exact results_cell_row Try.results80 _ _ _ _ _ (0, 0) _ rfl (U4.out.set3 _ _ _) Try.underlying31 rfl rfl
end Go.Proofs.Ytpnklmgfdihjfaa
namespace Go.Proofs.Ytpnklmgfdihjfaa
open Go.RowKit

theorem bool_ne {a b : Bool} (h : ¬ a = b) : b = !a := by revert h; cases a <;> cases b <;> simp
theorem PB_two {w : World} {A B : Option Addr} {k c m d b N M : Nat} (h : Num w A k c b N) (h' : Num w B m d b M) : N + M < PB (b + 1) := by
  have h1 := h.2.2.2.1
  have h2 := h'.2.2.2.1
  have : PB (b + 1) = PB b * 4294967296 := by rw [PB, PB, Nat.pow_succ]
  omega

set_option maxRecDepth 100000 in
set_option maxHeartbeats 8000000 in
theorem qadd_any {w : World} {s : Bool} {A B : Option Addr} {n c m d b : Nat} {x : Rat} (h : Ra w s A n c B m d b x) {s' : Bool} {A' B' : Option Addr} {n' c' m' d' b' : Nat} {y : Rat} (h' : Ra w s' A' n' c' B' m' d' b' y) (hb5 : b + b' ≤ 4900) :
    Calls Try.prog 13 #[.agg #[.bool s, .slice A n c, .slice B m d], .agg #[.bool s', .slice A' n' c', .slice B' m' d']] w (RetQ w (b + b' + 1) (x + y)) := by
  have HA := Lib.hid h; have HB := Lib.hid h'; clear h h'
  go_enter Try.func13, Try.ntmps13
  go_upto_region 1 with (fail)
  obtain ⟨X, hX⟩ : ∃ X : Array Value, X = #[.bool s, .slice A n c, .slice B m d] := ⟨_, rfl⟩
  obtain ⟨Y, hY⟩ : ∃ Y : Array Value, Y = #[.bool s', .slice A' n' c', .slice B' m' d'] := ⟨_, rfl⟩
  obtain ⟨Z, hZ⟩ : ∃ Z : Array Value, Z = #[.bool false, .slice none 0 0, .slice none 0 0] := ⟨_, rfl⟩
  have hW : Below w.heap.size w (((w.alloc (.cells X 31)).alloc (.cells Y 31)).alloc (.cells Z 31)) := ((al w _).alloc (by simp) _).alloc (by simp; omega) _
  have h2 : Blk (((w.alloc (.cells X 31)).alloc (.cells Y 31)).alloc (.cells Z 31)) w.heap.size 31 X := ((Blk.new w _ _).alloc _).alloc _
  have h3 : Blk (((w.alloc (.cells X 31)).alloc (.cells Y 31)).alloc (.cells Z 31)) (w.heap.size + 1) 31 Y := by
    have := (Blk.new (w.alloc (.cells X 31)) 31 Y).alloc (.cells Z 31)
    simpa using this
  have h4 : Blk (((w.alloc (.cells X 31)).alloc (.cells Y 31)).alloc (.cells Z 31)) (w.heap.size + 2) 31 Z := by
    have := (Blk.new ((w.alloc (.cells X 31)).alloc (.cells Y 31)) 31 Z)
    simpa using this
  rw [hX, hY, hZ] at hW h2 h3 h4
  clear hX hY hZ
  generalize ((w.alloc (.cells #[.bool s, .slice A n c, .slice B m d] 31)).alloc (.cells #[.bool s', .slice A' n' c', .slice B' m' d'] 31)).alloc (.cells #[.bool false, .slice none 0 0, .slice none 0 0] 31) = w0 at hW h2 h3 h4 ⊢
  clear X Y Z
  replace HA := Lib.hid (HA.out.new hW); replace HB := Lib.hid (HB.out.new hW)
  have HW := Lib.hid hW; clear hW
  have T2 : Hid (TB w0 w.heap.size 31 (.bool s) (.slice A n c) (.slice B m d)) := Lib.hid h2
  have T3 : Hid (TB w0 (w.heap.size + 1) 31 (.bool s') (.slice A' n' c') (.slice B' m' d')) := Lib.hid h3
  have T4 : Hid (TB w0 (w.heap.size + 2) 31 (.bool false) (.slice none 0 0) (.slice none 0 0)) := Lib.hid h4
  clear h2 h3 h4
  go_cut [2] (fun p2 wx => p2 = .pointer (some ⟨w.heap.size, 0, none⟩) ∧ ∃ s1 A1 n1 c1 B1 m1 d1 s2 A2 n2 c2 B2 m2 d2, Hid (TB wx w.heap.size 31 (.bool s1) (.slice A1 n1 c1) (.slice B1 m1 d1) ∧ TB wx (w.heap.size + 1) 31 (.bool s2) (.slice A2 n2 c2) (.slice B2 m2 d2) ∧ TB wx (w.heap.size + 2) 31 (.bool false) (.slice none 0 0) (.slice none 0 0) ∧ Rn wx s1 A1 n1 c1 B1 m1 d1 b x ∧ Rn wx s2 A2 n2 c2 B2 m2 d2 b' y ∧ Below w.heap.size w wx))
  case first =>
    have a0 := T2.out.c0; have a1 := T2.out.c1; have a2 := T2.out.c2
    have b0 := T3.out.c0; have b1 := T3.out.c1; have b2 := T3.out.c2
    go_region_law (first
      | (have HB5' := HB5; clear HB5'; go_simp; go_at_call 38; refine (qnorm_any HB5.out (by omega)).mono ?_; rintro e w6 ⟨s6, A6, n6, c6, B6, m6, d6, rfl, h6, hb⟩; have H6 := Lib.hid h6; replace H5 := Lib.hid (H5.out.new hb); replace U2 := Lib.hid (U2.out.new hb); replace U3 := Lib.hid (U3.out.new hb); replace U4 := Lib.hid (U4.out.new hb); replace HW5 := Lib.hid (bthen HW5.out hb HW5.out.size); clear h6 hb; have e0 := U3.out.c0; have e1 := U3.out.c1; have e2 := U3.out.c2; have g0 := U3.out.f0; have g1 := U3.out.f1; have g2 := U3.out.f2; have d0 := U2.out.c0; have d1 := U2.out.c1; have d2 := U2.out.c2; have f0 := U2.out.f0; have f1 := U2.out.f1; have f2 := U2.out.f2)
      | (go_simp; go_at_call 38; refine (qnorm_any (w := w0.drew) HA.out (by omega)).mono ?_; rintro e w5 ⟨s5, A5, n5, c5, B5, m5, d5, rfl, h5, hb⟩; have H5 := Lib.hid h5; have U2 := Lib.hid (T2.out.drew.new hb); have U3 := Lib.hid (T3.out.drew.new hb); have U4 := Lib.hid (T4.out.drew.new hb); have HW5 := Lib.hid (bthen HW.out.drew hb HW.out.drew.size); have HB5 := Lib.hid (HB.out.new (w := w0.drew) hb); clear h5 hb; have b0 := U3.out.c0; have b1 := U3.out.c1; have b2 := U3.out.c2))
    all_goals
      go_wp2_with fail
      go_meet
      exact ⟨rfl, s5, A5, n5, c5, B5, m5, d5, s6, A6, n6, c6, B6, m6, d6, Lib.hid (two_stored U2.out U3.out U4.out H5.out H6.out HW5.out rfl rfl rfl rfl rfl rfl)⟩
  case rest =>
    clear HA HB HW T2 T3 T4
    obtain ⟨rfl, s1, A1, n1, c1, B1, m1, d1, s2, A2, n2, c2, B2, m2, d2, HC⟩ := hcut
    obtain ⟨t2, t3, t4, r1, r2, hW⟩ := HC.out
    have l2 := t2.lt; have l3 := t3.lt; have l4 := t4.lt
    have T2 := Lib.hid t2; have T3 := Lib.hid t3; have T4 := Lib.hid t4; have R1 := Lib.hid r1; have R2 := Lib.hid r2; have HW := Lib.hid hW
    clear t2 t3 t4 r1 r2 hW HC
    have a0 := T2.out.c0; have a1 := T2.out.c1; have a2 := T2.out.c2
    have b0 := T3.out.c0; have b1 := T3.out.c1; have b2 := T3.out.c2
    go_wp2_with fail
    go_region_held3 (fun w' => ((w'.cell? ⟨w.heap.size, 0, none⟩ = some (.bool s1) ∧ w'.cell? ⟨w.heap.size, 1, none⟩ = some (.slice A1 n1 c1) ∧ w'.cell? ⟨w.heap.size, 2, none⟩ = some (.slice B1 m1 d1)) ∧ (w'.cell? ⟨w.heap.size + 1, 0, none⟩ = some (.bool s2) ∧ w'.cell? ⟨w.heap.size + 1, 1, none⟩ = some (.slice A2 n2 c2) ∧ w'.cell? ⟨w.heap.size + 1, 2, none⟩ = some (.slice B2 m2 d2))) ∧ wc.grownBy w' (some (w.heap.size + 2)))
      ((refine keep6 T2.out T3.out ?_ (by omega) (by omega); first | exact World.grownBy.refl _ _ | exact only_drew (World.grownBy.refl _ _) | exact Hid.out ‹_› | exact only_store3 (Hid.out ‹_›) _ _ _))
      (first
        | (have Hg := H5; clear Hg; go_at_call 19; refine (mul_n (R2.out.2.1.1.new HB5.out) (R1.out.2.2.1.new HB5.out) (by omega)).mono ?_; rintro e w6 ⟨A6, k6, c6, rfl, h6, -, hb⟩; have H6 := Lib.hid h6; replace H5 := Lib.hid (H5.out.new hb); have HB6 := Lib.hid (bthen HB5.out hb HB5.out.size); have HG6 := Lib.hid (grown_below HB6.out (some (w.heap.size + 2))); clear h6 hb)
        | (go_at_call 19; refine (mul_n (w := wc.drew) R1.out.2.1.1 R2.out.2.2.1 (by omega)).mono ?_; rintro e w5 ⟨A5, k5, c5, rfl, h5, -, hb⟩; have H5 := Lib.hid h5; have HB5 := Lib.hid (below_from_drew hb); have HG5 := Lib.hid (grown_below HB5.out (some (w.heap.size + 2))); clear h5 hb))
    have hb := HB6.out
    replace H6 := Lib.hid (H6.out.more (b := b + b') (by omega))
    clear HB5 HB6 HG5 HG6 a0 a1 a2 b0 b1 b2
    clear ‹_ ∧ wc.grownBy _ _›
    replace T2 := Lib.hid (T2.out.new hb); replace T3 := Lib.hid (T3.out.new hb); replace T4 := Lib.hid (T4.out.new hb)
    replace R1 := Lib.hid (R1.out.new hb); replace R2 := Lib.hid (R2.out.new hb)
    replace HW := Lib.hid (bthen HW.out hb HW.out.size)
    clear hb
    have a0 := T2.out.c0; have a2 := T2.out.c2; have b0 := T3.out.c0; have b2 := T3.out.c2
    go_wp2_with fail
    refine (mul_n R1.out.2.2.1 R2.out.2.2.1 (by omega)).mono ?_
    rintro e w8 ⟨A8, k8, c8, rfl, h8, -, hb⟩
    have H8 := Lib.hid h8
    clear a0 a2 b0 b2
    replace T2 := Lib.hid (T2.out.new hb); replace T3 := Lib.hid (T3.out.new hb); replace T4 := Lib.hid (T4.out.new hb)
    replace R1 := Lib.hid (R1.out.new hb); replace R2 := Lib.hid (R2.out.new hb)
    replace HW := Lib.hid (bthen HW.out hb HW.out.size)
    replace H5 := Lib.hid (H5.out.new hb); replace H6 := Lib.hid (H6.out.new hb)
    clear h8 hb
    have a0 := T2.out.c0; have b0 := T3.out.c0
    have HD := Lib.hid (H8.out.more (b := b + b' + 1) (by omega))
    by_cases hs : s1 = s2
    · subst hs
      have ts : (s1 == s1) = true := by simp
      have HQ := Lib.hid (show x + y = qv s1 (x.num.natAbs * y.den + y.num.natAbs * x.den) (x.den * y.den) by
        rw [qv_same x.den_nz y.den_nz]
        conv => rhs; rhs; rw [R2.out.1, qv_self]
        rw [R1.out.1, qv_self])
      go_wp2_with fail
      have l4 := T4.out.lt
      go_region_held3 (fun w' => ((w'.cell? ⟨w.heap.size, 0, none⟩ = some (.bool s1) ∧ w'.cell? ⟨w.heap.size, 1, none⟩ = some (.slice A1 n1 c1) ∧ w'.cell? ⟨w.heap.size, 2, none⟩ = some (.slice B1 m1 d1)) ∧ (w'.cell? ⟨w.heap.size + 1, 0, none⟩ = some (.bool s1) ∧ w'.cell? ⟨w.heap.size + 1, 1, none⟩ = some (.slice A2 n2 c2) ∧ w'.cell? ⟨w.heap.size + 1, 2, none⟩ = some (.slice B2 m2 d2))) ∧ w8.grownBy w' (some (w.heap.size + 2)))
        ((refine keep6 T2.out T3.out ?_ (by omega) (by omega); first | exact World.grownBy.refl _ _ | exact only_drew (World.grownBy.refl _ _) | exact Hid.out ‹_› | exact only_store3 (Hid.out ‹_›) _ _ _))
        (first
          | (have Hg := H9; clear Hg; go_at_call 38; refine (qnorm_any (x := x + y) (s := s1) (b := b + b' + 1) ⟨_, _, H9.out.up (PB_two H5.out H6.out) (by omega), HD.out.new HB9.out, HQ.out⟩ (by omega)).mono ?_; rintro e w7 ⟨s7, A7, n7, c7, B7, m7, d7, rfl, h7, hb⟩; have H7 := Lib.hid h7; have HB7 := Lib.hid (bthen HB9.out hb HB9.out.size); have HG7 := Lib.hid (grown_below HB7.out (some (w.heap.size + 2))); have HW7 := Lib.hid (bthen HW.out HB7.out HW.out.size); clear h7 hb; have U4 := Lib.hid (T4.out.new HB7.out); have r0 := U4.out.c0; have r1 := U4.out.c1; have r2 := U4.out.c2; have f0 := U4.out.f0; have f1 := U4.out.f1; have f2 := U4.out.f2)
          | (go_at_call 21; refine (add_n (w := w8.drew) H5.out H6.out (by omega)).mono ?_; rintro e w9 ⟨A9, k9, c9, rfl, h9, -, hb⟩; have H9 := Lib.hid h9; have HB9 := Lib.hid (below_from_drew hb); have HG9 := Lib.hid (grown_below HB9.out (some (w.heap.size + 2))); clear h9 hb))
      go_wp2_with fail
      refine bodyPost_ret (v := .agg #[.bool s7, .slice A7 n7 c7, .slice B7 m7 d7]) ?_ rfl ⟨_, _, _, _, _, _, _, rfl, H7.out.store3 U4.out _ _ _, below_store3 HW7.out (by omega) _ _ _⟩
      exact results_cell_row Try.results13 _ _ _ _ _ (0, 0) _ rfl (U4.out.set3 _ _ _) Try.underlying31 rfl rfl
    · have ts : (s1 == s2) = false := by simp [hs]
      have hs2 : s2 = !s1 := bool_ne hs
      have hs1 : s1 = !s2 := bool_ne (fun h => hs h.symm)
      have HQ := Lib.hid (show x + y = qv s1 x.num.natAbs x.den + qv (!s1) y.num.natAbs y.den by rw [← hs2, R1.out.1, R2.out.1, qv_self, qv_self])
      have HQ2 := Lib.hid (show x + y = qv s2 y.num.natAbs y.den + qv (!s2) x.num.natAbs x.den by rw [← hs1, R1.out.1, R2.out.1, qv_self, qv_self, Rat.add_comm])
      clear hs hs1 hs2
      by_cases hle : y.num.natAbs * x.den ≤ x.num.natAbs * y.den
      · have HL := Lib.hid hle; clear hle
        go_wp2_with fail
        refine (sub_n H5.out H6.out (by omega)).mono ?_
        rintro e w9 ⟨-, hs⟩
        obtain ⟨A9, k9, c9, rfl, h9, -, hb⟩ := hs HL.out
        clear hs a0 b0
        replace T2 := Lib.hid (T2.out.new hb); replace T3 := Lib.hid (T3.out.new hb); replace T4 := Lib.hid (T4.out.new hb)
        replace R1 := Lib.hid (R1.out.new hb); replace R2 := Lib.hid (R2.out.new hb)
        replace HW := Lib.hid (bthen HW.out hb HW.out.size)
        replace HD := Lib.hid (HD.out.new hb)
        have H9 := Lib.hid (h9.more (b := b + b' + 1) (by omega)); clear h9 hb
        have a0 := T2.out.c0
        go_wp2_with fail
        refine (qnorm_any (x := x + y) (s := s1) (b := b + b' + 1) ⟨_, _, H9.out, HD.out, by rw [HQ.out, qv_diff x.den_nz y.den_nz HL.out]⟩ (by omega)).mono ?_
        rintro e w7 ⟨s7, A7, n7, c7, B7, m7, d7, rfl, h7, hb⟩
        have H7 := Lib.hid h7
        have U4 := Lib.hid (T4.out.new hb)
        have HW7 := Lib.hid (bthen HW.out hb HW.out.size)
        have r0 := U4.out.c0; have r1 := U4.out.c1; have r2 := U4.out.c2; have f0 := U4.out.f0; have f1 := U4.out.f1; have f2 := U4.out.f2
        clear h7 hb
        go_wp2_with fail
        refine bodyPost_ret (v := .agg #[.bool s7, .slice A7 n7 c7, .slice B7 m7 d7]) ?_ rfl ⟨_, _, _, _, _, _, _, rfl, H7.out.store3 U4.out _ _ _, below_store3 HW7.out (by omega) _ _ _⟩
        exact results_cell_row Try.results13 _ _ _ _ _ (0, 0) _ rfl (U4.out.set3 _ _ _) Try.underlying31 rfl rfl
      · have HL := Lib.hid (show x.num.natAbs * y.den < y.num.natAbs * x.den by omega); clear hle
        go_wp2_with fail
        refine (sub_n H5.out H6.out (by omega)).mono ?_
        rintro e w9 ⟨hs, -⟩
        obtain ⟨rfl, hb⟩ := hs HL.out
        clear hs a0 b0
        replace T2 := Lib.hid (T2.out.new hb); replace T3 := Lib.hid (T3.out.new hb); replace T4 := Lib.hid (T4.out.new hb)
        replace R1 := Lib.hid (R1.out.new hb); replace R2 := Lib.hid (R2.out.new hb)
        replace HW := Lib.hid (bthen HW.out hb HW.out.size)
        replace HD := Lib.hid (HD.out.new hb); replace H5 := Lib.hid (H5.out.new hb); replace H6 := Lib.hid (H6.out.new hb)
        clear hb
        go_wp2_with fail
        refine (sub_n H6.out H5.out (by omega)).mono ?_
        rintro e w10 ⟨-, hs⟩
        obtain ⟨A9, k9, c9, rfl, h9, -, hb⟩ := hs (Nat.le_of_lt HL.out)
        clear hs
        replace T2 := Lib.hid (T2.out.new hb); replace T3 := Lib.hid (T3.out.new hb); replace T4 := Lib.hid (T4.out.new hb)
        replace R1 := Lib.hid (R1.out.new hb); replace R2 := Lib.hid (R2.out.new hb)
        replace HW := Lib.hid (bthen HW.out hb HW.out.size)
        replace HD := Lib.hid (HD.out.new hb)
        have H9 := Lib.hid (h9.more (b := b + b' + 1) (by omega)); clear h9 hb
        have b0 := T3.out.c0
        go_wp2_with fail
        refine (qnorm_any (x := x + y) (s := s2) (b := b + b' + 1) ⟨_, _, H9.out, HD.out, by rw [HQ2.out, Nat.mul_comm x.den, qv_diff y.den_nz x.den_nz (Nat.le_of_lt HL.out)]⟩ (by omega)).mono ?_
        rintro e w7 ⟨s7, A7, n7, c7, B7, m7, d7, rfl, h7, hb⟩
        have H7 := Lib.hid h7
        have U4 := Lib.hid (T4.out.new hb)
        have HW7 := Lib.hid (bthen HW.out hb HW.out.size)
        have r0 := U4.out.c0; have r1 := U4.out.c1; have r2 := U4.out.c2; have f0 := U4.out.f0; have f1 := U4.out.f1; have f2 := U4.out.f2
        clear h7 hb
        go_wp2_with fail
        refine bodyPost_end (v := .agg #[.bool s7, .slice A7 n7 c7, .slice B7 m7 d7]) ?_ rfl ⟨_, _, _, _, _, _, _, rfl, H7.out.store3 U4.out _ _ _, below_store3 HW7.out (by omega) _ _ _⟩
        exact results_cell_row Try.results13 _ _ _ _ _ (0, 0) _ rfl (U4.out.set3 _ _ _) Try.underlying31 rfl rfl
end Go.Proofs.Ytpnklmgfdihjfaa
