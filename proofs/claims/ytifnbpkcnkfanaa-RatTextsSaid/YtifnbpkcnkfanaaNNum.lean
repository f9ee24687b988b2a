/-
  Numbers of layer 4, each with its value and a bound: the contracts as the laws use them.
-/
import Derived.Test.YtifnbpkcnkfanaaNatText
namespace Go.Proofs.Ytifnbpkcnkfanaa
open Go.RowKit

def PB (b : Nat) : Nat := 4294967296 ^ b
theorem pw_add {p a b : Nat} : p ^ a * p ^ b = p ^ (a + b) := (Nat.pow_add p a b).symm
theorem PB_mul {a b N M : Nat} (h : N < PB a) (k : M < PB b) : N * M < PB (a + b) := by
  have : N * M < PB a * PB b := Nat.mul_lt_mul_of_lt_of_lt h k
  rw [PB, PB, pw_add] at this; exact this
theorem pw_two {p a b : Nat} (hp : 2 ≤ p) (ha : 1 ≤ a) (hb : 1 ≤ b) : p ^ a + p ^ b ≤ p ^ (a + b) := by
  have h1 : p ^ (a + b) = p ^ a * p ^ b := Nat.pow_add ..
  have ea : 2 ≤ p ^ a := Nat.le_trans hp (Nat.le_self_pow (by omega) p)
  have eb : 2 ≤ p ^ b := Nat.le_trans hp (Nat.le_self_pow (by omega) p)
  rw [h1]
  have h2 : p ^ a * 2 ≤ p ^ a * p ^ b := Nat.mul_le_mul_left _ eb
  have h3 : 2 * p ^ b ≤ p ^ a * p ^ b := Nat.mul_le_mul_right _ ea
  omega
theorem PB_add {a b N M : Nat} (h : N < PB a) (k : M < PB b) (ha : 1 ≤ a) (hb : 1 ≤ b) : N + M < PB (a + b) := by
  have := pw_two (p := 4294967296) (by omega) ha hb
  change PB a + PB b ≤ PB (a + b) at this
  omega
theorem pw_len {p b : Nat} {l : List Nat} {V : Nat} (hp : 0 < p) (h : Nrm p l V) (hV : V < p ^ b) : l.length ≤ b := by
  rcases Nat.lt_or_ge b l.length with h1 | h1
  · have h2 := h.pos (by omega)
    have h3 : p ^ b ≤ p ^ (l.length - 1) := Nat.pow_le_pow_right hp (by omega)
    omega
  · exact h1
theorem PB_len {b : Nat} {l : List Nat} {V : Nat} (h : Nrm 4294967296 l V) (hV : V < PB b) : l.length ≤ b := pw_len (by omega) h hV
theorem PB_mono {a b : Nat} (h : a ≤ b) : PB a ≤ PB b := Nat.pow_le_pow_right (by omega) h

/-- The slice holds a number: its value, and a bound. -/
def Num (w : World) (A : Option Addr) (k c b N : Nat) : Prop := k ≤ c ∧ 1 ≤ b ∧ k ≤ 10000 ∧ N < PB b ∧ ∃ l, Es w w.heap.size A k l ∧ valB 4294967296 l = N
/-- .. and is normalized. -/
def Norm (w : World) (A : Option Addr) (k N : Nat) : Prop := ∃ l, Es w w.heap.size A k l ∧ Nrm 4294967296 l N
theorem Num.new {w w' : World} {A : Option Addr} {k c b N : Nat} (h : Num w A k c b N) (hb : Below w.heap.size w w') : Num w' A k c b N := by
  obtain ⟨h1, h2, h3, h4, l, h5, h6⟩ := h
  exact ⟨h1, h2, h3, h4, l, h5.new hb, h6⟩
theorem Norm.new {w w' : World} {A : Option Addr} {k N : Nat} (h : Norm w A k N) (hb : Below w.heap.size w w') : Norm w' A k N := by
  obtain ⟨l, h5, h6⟩ := h
  exact ⟨l, h5.new hb, h6⟩
theorem Num.of_es {w : World} {A : Option Addr} {k c b : Nat} {l : List Nat} (h : Es w w.heap.size A k l) (hc : k ≤ c) (hk : k ≤ b) (hb : 1 ≤ b) (hb2 : b ≤ 10000) : Num w A k c b (valB 4294967296 l) := by
  refine ⟨hc, hb, by omega, ?_, l, h, rfl⟩
  have h1 := valB_lt h.2.2
  have h2 := h.len
  exact Nat.lt_of_lt_of_le h1 (PB_mono (by omega))
theorem Num.of_nrm {w : World} {A : Option Addr} {k c b N : Nat} {l : List Nat} (h : Es w w.heap.size A k l) (hc : k ≤ c) (hN : Nrm 4294967296 l N) (hV : N < PB b) (hb : 1 ≤ b) (hb2 : b ≤ 10000) : Num w A k c b N ∧ Norm w A k N := by
  have h1 := PB_len hN hV
  have h2 := h.len
  exact ⟨⟨hc, hb, by omega, hV, l, h, hN.1⟩, l, h, hN⟩

def RetN (w : World) (b N : Nat) (e : Ending) (w' : World) : Prop := ∃ A k c, e = .returned (.slice A k c) ∧ Num w' A k c b N ∧ Norm w' A k N ∧ Below w.heap.size w w'
theorem RetN.of {w : World} {b N : Nat} {e : Ending} {w' : World} (h : RetNat w N e w') (hV : N < PB b) (hb : 1 ≤ b) (hb2 : b ≤ 10000) : RetN w b N e w' := by
  obtain ⟨A, k, c, l, h1, h2, h3, h4, h5⟩ := h
  obtain ⟨n1, n2⟩ := Num.of_nrm h3 h2 h4 hV hb hb2
  exact ⟨A, k, c, h1, n1, n2, h5⟩

theorem of_n (n : Nat) (hn : n < 18446744073709551616) (w : World) : Calls Try.prog 17 #[.int .u64 n] w (RetN w 2 n) :=
  (nof_any n hn w).mono fun _ _ h => RetN.of h (by rw [PB]; exact hn) (by omega) (by omega)
section
variable {w : World} {A B : Option Addr} {n c m d a b N M : Nat}
theorem add_n (ha : Num w A n c a N) (hb : Num w B m d b M) (hab : a + b ≤ 10000) : Calls Try.prog 49 #[.slice A n c, .slice B m d] w (RetN w (a + b) (N + M)) := by
  obtain ⟨a1, a2, a3, a4, l, a5, rfl⟩ := ha
  obtain ⟨b1, b2, b3, b4, f, b5, rfl⟩ := hb
  exact (add_any A l n c a1 B f m d b1 w a5 b5 (by omega) (by omega)).mono fun _ _ h => RetN.of h (PB_add a4 b4 a2 b2) (by omega) hab
theorem mul_n (ha : Num w A n c a N) (hb : Num w B m d b M) (hab : a + b ≤ 10000) : Calls Try.prog 48 #[.slice A n c, .slice B m d] w (RetN w (a + b) (N * M)) := by
  obtain ⟨a1, a2, a3, a4, l, a5, rfl⟩ := ha
  obtain ⟨b1, b2, b3, b4, f, b5, rfl⟩ := hb
  exact (mul_any A l n c a1 B f m d b1 w a5 b5 (by omega) (by omega)).mono fun _ _ h => RetN.of h (PB_mul a4 b4) (by omega) hab
theorem cmp_n (ha : Num w A n c a N) (hb : Num w B m d b M) : Calls Try.prog 47 #[.slice A n c, .slice B m d] w fun e w' => e = .returned (.int .i64 (cmpN N M)) ∧ Below w.heap.size w w' := by
  obtain ⟨a1, a2, a3, a4, l, a5, rfl⟩ := ha
  obtain ⟨b1, b2, b3, b4, f, b5, rfl⟩ := hb
  exact ncmp_any A l n c a1 B f m d b1 w a5 b5
def RetSubN (w : World) (b x y : Nat) (e : Ending) (w' : World) : Prop :=
  (x < y → e = .returned (.tuple #[.slice none 0 0, .int .i64 19]) ∧ Below w.heap.size w w') ∧
  (y ≤ x → ∃ A k c, e = .returned (.tuple #[.slice A k c, .int .i64 0]) ∧ Num w' A k c b (x - y) ∧ Norm w' A k (x - y) ∧ Below w.heap.size w w')
theorem sub_n (ha : Num w A n c a N) (hb : Num w B m d b M) (hab : a ≤ 10000) : Calls Try.prog 50 #[.slice A n c, .slice B m d] w (RetSubN w a N M) := by
  obtain ⟨a1, a2, a3, a4, l, a5, rfl⟩ := ha
  obtain ⟨b1, b2, b3, b4, f, b5, rfl⟩ := hb
  refine (sub_any A l n c a1 B f m d b1 w a5 b5 (by omega)).mono fun _ _ h => ⟨h.1, fun hle => ?_⟩
  obtain ⟨A', k', c', l', h1, h2, h3, h4, h5⟩ := h.2 hle
  obtain ⟨n1, n2⟩ := Num.of_nrm h3 h2 h4 (Nat.lt_of_le_of_lt (Nat.sub_le _ _) a4) a2 hab
  exact ⟨A', k', c', h1, n1, n2, h5⟩
def RetDMN (w : World) (b b' N M : Nat) (e : Ending) (w' : World) : Prop :=
  (M = 0 → e = .returned (.tuple #[.slice none 0 0, .slice none 0 0, .int .i64 18]) ∧ Below w.heap.size w w') ∧
  (M ≠ 0 → ∃ A k c A' k' c', e = .returned (.tuple #[.slice A k c, .slice A' k' c', .int .i64 0]) ∧ (Num w' A k c b (N / M) ∧ Norm w' A k (N / M)) ∧ (Num w' A' k' c' b' (N % M) ∧ Norm w' A' k' (N % M)) ∧ Below w.heap.size w w')
theorem dm_n (ha : Num w A n c a N) (hb : Num w B m d b M) (ha1 : a ≤ 10000) (hb1 : b ≤ 10000) : Calls Try.prog 46 #[.slice A n c, .slice B m d] w (RetDMN w a b N M) := by
  obtain ⟨a1, a2, a3, a4, l, a5, rfl⟩ := ha
  obtain ⟨b1, b2, b3, b4, f, b5, rfl⟩ := hb
  refine (divMod_any A l n c a1 B f m d b1 w a5 b5 (by omega)).mono fun _ _ h => ⟨h.1, fun hle => ?_⟩
  obtain ⟨A', k', c', l', A2, k2, c2, l2, h1, ⟨h2, h3, h4⟩, ⟨h5, h6, h7⟩, h8⟩ := h.2 hle
  have n1 := Num.of_nrm h3 h2 h4 (Nat.lt_of_le_of_lt (Nat.div_le_self _ _) a4) a2 ha1
  have n2 := Num.of_nrm h6 h5 h7 (Nat.lt_of_le_of_lt (Nat.le_of_lt (Nat.mod_lt _ (Nat.pos_of_ne_zero hle))) b4) b2 hb1
  exact ⟨A', k', c', A2, k2, c2, h1, n1, n2, h8⟩
theorem bits_n (ha : Num w A n c a N) : Calls Try.prog 44 #[.slice A n c] w fun e w' => ∃ b : Nat, e = .returned (.int .i64 b) ∧ BitsIs N b ∧ b ≤ 320000 ∧ w = w' := by
  obtain ⟨a1, a2, a3, a4, l, a5, rfl⟩ := ha
  refine (bits_any A l n c a1 w a5 (by omega)).mono fun _ _ h => ?_
  obtain ⟨b, h1, h2, h3, h4⟩ := h
  exact ⟨b, h1, h2, by omega, h4⟩
theorem u64_n (ha : Num w A n c a N) : Calls Try.prog 39 #[.slice A n c] w (RetU64 w N) := by
  obtain ⟨a1, a2, a3, a4, l, a5, rfl⟩ := ha
  exact uint64_any A l n c a1 w a5
theorem text_n (ha : Num w A n c a N) : Calls Try.prog 59 #[.slice A n c] w (RetText w N) := by
  obtain ⟨a1, a2, a3, a4, l, a5, rfl⟩ := ha
  exact text_any A l n c a1 w a5 (by omega)
theorem norm_n (ha : Num w A n c a N) (hab : a ≤ 10000) : Calls Try.prog 43 #[.slice A n c] w (RetN w a N) := by
  obtain ⟨a1, a2, a3, a4, l, a5, rfl⟩ := ha
  refine (norm_any A l n c a1 (by omega) w a5).mono fun _ w1 h => ?_
  obtain ⟨k, l', ⟨v, h1, h2, h3⟩, h4, h5, h6⟩ := h
  obtain ⟨A', c', rfl, hc'⟩ := own_cap h2
  obtain ⟨A2, c2, he, hE⟩ := Es.of_own h2 h6.2.1
  cases he
  obtain ⟨n1, n2⟩ := Num.of_nrm hE hc' h6 a4 a2 hab
  exact ⟨A', k, c', h1, n1, n2, h3⟩
end

theorem Norm.length {w : World} {A : Option Addr} {k N b : Nat} (h : Norm w A k N) (h1 : PB b ≤ N) (h2 : N < PB (b + 1)) : k = b + 1 := by
  obtain ⟨l, hE, hN⟩ := h
  have h3 := PB_len hN h2
  have h4 := hE.len
  have h5 := hN.lt
  rcases Nat.lt_or_ge b l.length with h6 | h6
  · omega
  · have : PB l.length ≤ PB b := PB_mono h6
    change N < PB l.length at h5
    omega
theorem Norm.zero {w : World} {A : Option Addr} {k N : Nat} (h : Norm w A k N) : k = 0 ↔ N = 0 := by
  obtain ⟨l, hE, hN⟩ := h
  rw [hE.len]; exact hN.zero_iff (by omega)

end Go.Proofs.Ytifnbpkcnkfanaa
