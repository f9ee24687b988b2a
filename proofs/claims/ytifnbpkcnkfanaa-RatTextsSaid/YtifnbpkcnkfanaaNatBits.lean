/-
  Contracts of nat.Bits, Uint64.
-/
import Derived.Test.YtifnbpkcnkfanaaNatDiv
namespace Go.Proofs.Ytifnbpkcnkfanaa
open Go.RowKit

/-- b is the number of binary digits of N. -/
def BitsIs (N b : Nat) : Prop := (N = 0 ∧ b = 0) ∨ (1 ≤ b ∧ 2 ^ (b - 1) ≤ N ∧ N < 2 ^ b)
theorem BitsIs.unique {N b c : Nat} (h : BitsIs N b) (k : BitsIs N c) : b = c := by
  rcases h with ⟨h1, h2⟩ | ⟨h1, h2, h3⟩ <;> rcases k with ⟨k1, k2⟩ | ⟨k1, k2, k3⟩
  · omega
  · have := pow2_pos (c - 1); omega
  · have := pow2_pos (b - 1); omega
  · rcases Nat.lt_trichotomy b c with h | h | h
    · have := two_pow_le (show b ≤ c - 1 by omega); omega
    · exact h
    · have := two_pow_le (show c ≤ b - 1 by omega); omega
theorem bits_val {p e : Nat} (hp : p = 2 ^ e) {l : List Nat} {N k t : Nat} (hN : Nrm p l N) (hl : l.length = k + 1) (h1 : 1 ≤ t) (h2 : 2 ^ (t - 1) ≤ nth l k) (h3 : nth l k < 2 ^ t) : BitsIs N (e * k + t) := by
  right
  have h4 := valB_take (b := p) (l := l) (k := k) (by omega)
  rw [List.take_of_length_le (by omega), hN.1] at h4
  have h5 : valB p (l.take k) < p ^ k := by
    have := valB_lt (b := p) (l := l.take k) (fun d h => hN.2.1 d (List.mem_of_mem_take h))
    rwa [List.length_take, Nat.min_eq_left (by omega)] at this
  have e1 : p ^ k = 2 ^ (e * k) := by rw [hp, Nat.pow_mul]
  refine ⟨by omega, ?_, ?_⟩
  · have := Nat.mul_le_mul_left (p ^ k) h2
    rw [e1, ← Nat.pow_add, show e * k + (t - 1) = e * k + t - 1 by omega] at this
    rw [e1] at h4
    omega
  · have := Nat.mul_le_mul_left (p ^ k) (show nth l k + 1 ≤ 2 ^ t from h3)
    rw [Nat.mul_add, Nat.mul_one] at this
    have e2 : p ^ k * 2 ^ t = 2 ^ (e * k + t) := by rw [e1, Nat.pow_add]
    rw [e2] at this
    omega

def RetBits (w : World) (N n : Nat) (e : Ending) (w' : World) : Prop := ∃ b : Nat, e = .returned (.int .i64 b) ∧ BitsIs N b ∧ b ≤ 32 * n ∧ w = w'

set_option maxHeartbeats 2000000 in
theorem bits_any (A : Option Addr) (ds : List Nat) (n c : Nat) (hc : n ≤ c) (w : World) (hr : Es w w.heap.size A n ds) (hn : n ≤ 1000000) :
    Calls Try.prog 44 #[.slice A n c] w (RetBits w (valB 4294967296 ds) n) := by
  have HR := Lib.hid hr; clear hr
  go_enter Try.func44, Try.ntmps44
  go_wp2_with fail
  refine (trim_any A ds n c hc _ HR.out).mono ?_
  rintro e w1 ⟨k, l, rfl, hk, hl, hN, rfl⟩
  have H1 := Lib.hid hl; clear hl
  have N1 := Lib.hid hN; clear hN
  by_cases hk0 : k = 0
  · have HZ := Lib.hid ((N1.out.zero_iff (by omega)).1 (by rw [← H1.out.len]; exact hk0))
    subst hk0
    go_wp2_with fail
    go_ret
    exact ⟨0, rfl, .inl ⟨HZ.out, rfl⟩, by omega, rfl⟩
  · have hkb : ((k : Int) == 0) = false := by simp; omega
    obtain ⟨k1, hk1⟩ : ∃ k1, k = k1 + 1 := ⟨k - 1, by omega⟩
    obtain ⟨ad, rfl, hb, cA⟩ := H1.out.at_ (show k1 < k by omega)
    have i0 : (k : Int) - 1 = (k1 : Int) := by omega
    have hx := H1.out.lt (show k1 < k by omega)
    have ht : nth l k1 ≠ 0 := by
      rcases N1.out.2.2 with h | h
      · have := H1.out.len; rw [h] at this; simp at this; omega
      · rwa [← H1.out.len, hk1, Nat.add_sub_cancel] at h
    obtain ⟨s1, s2, s3⟩ := bitLen_spec 32 (nth l k1) hx (by omega) ht
    have HK := Lib.hid hk1
    have hk1l : k1 < k := by omega
    clear hk1
    have hbl := (shift_ok ht hx).1
    have HS := Lib.hid (bits_val (p := 4294967296) (e := 32) rfl N1.out (by rw [← H1.out.len]; exact HK.out) s1 s2 s3)
    clear ht s1 s2 s3
    go_wp2_with fail
    refine (Try.bits_Len32 (nth l k1 : Int) _ (by omega) (by omega)).mono ?_
    rintro e w ⟨rfl, rfl⟩
    rw [Int.toNat_natCast]
    generalize Lib.bitLen (nth l k1) = t at *
    go_wp2_with fail
    go_ret
    exact ⟨32 * k1 + t, ret_int (by omega), HS.out, by omega, rfl⟩

def RetU64 (w : World) (N : Nat) (e : Ending) (w' : World) : Prop :=
  (N < 18446744073709551616 → e = .returned (.tuple #[.int .u64 N, .bool true])) ∧ (18446744073709551616 ≤ N → e = .returned (.tuple #[.int .u64 0, .bool false])) ∧ w = w'
theorem or_shift (a x i : Nat) (hi : i ≤ 1) (ha : a < 4294967296 ^ i) (hx : x < 4294967296) : bits .or .u64 (a : Int) (IntKind.u64.wrap ((x : Int) * 2 ^ (32 * i))) = ((a + 4294967296 ^ i * x : Nat) : Int) := by
  have : i = 0 ∨ i = 1 := by omega
  rcases this with rfl | rfl
  · simp only [Nat.pow_zero] at ha
    obtain rfl : a = 0 := by omega
    have e : IntKind.u64.wrap ((x : Int) * 2 ^ (32 * 0)) = ((x : Nat) : Int) := by
      simp only [IntKind.wrap, IntKind.bits, IntKind.signed]; simp; omega
    rw [e, u64_or_nat _ _ (by omega) (by omega)]
    simp
  · simp only [Nat.pow_one] at ha
    have e : IntKind.u64.wrap ((x : Int) * 2 ^ (32 * 1)) = ((x * 4294967296 : Nat) : Int) := by
      simp only [IntKind.wrap, IntKind.bits, IntKind.signed]; simp; omega
    rw [e, u64_or_nat _ _ (by omega) (by omega), Nat.or_comm, nat_join 32 _ _ (by omega) (by omega)]
    simp only [Nat.pow_one]
    congr 1
    omega

set_option maxHeartbeats 2000000 in
theorem uint64_any (A : Option Addr) (ds : List Nat) (n c : Nat) (hc : n ≤ c) (w : World) (hr : Es w w.heap.size A n ds) :
    Calls Try.prog 39 #[.slice A n c] w (RetU64 w (valB 4294967296 ds)) := by
  have HR := Lib.hid hr; clear hr
  go_enter Try.func39, Try.ntmps39
  go_wp2_with fail
  refine (trim_any A ds n c hc _ HR.out).mono ?_
  rintro e w1 ⟨k, l, rfl, hk, hl, hN, rfl⟩
  have H1 := Lib.hid hl; clear hl
  have N1 := Lib.hid hN; clear hN
  have hkl := H1.out.le
  by_cases hk2 : 2 < k
  · have hbig : 18446744073709551616 ≤ valB 4294967296 ds := by
      have h1 := N1.out.pos (by rw [← H1.out.len]; omega)
      rw [← H1.out.len] at h1
      have h2 : 4294967296 ^ 2 ≤ 4294967296 ^ (k - 1) := Nat.pow_le_pow_right (by omega) (by omega)
      simp only [show (4294967296 : Nat) ^ 2 = 18446744073709551616 from rfl] at h2
      exact Nat.le_trans h2 h1
    have HBIG := Lib.hid hbig; clear hbig
    go_wp2_with fail
    go_ret2
    exact ⟨fun h => by have := HBIG.out; omega, fun _ => rfl, rfl⟩
  · have hsmall : valB 4294967296 ds < 18446744073709551616 := by
      have h1 := N1.out.lt
      rw [← H1.out.len] at h1
      have h2 : 4294967296 ^ k ≤ 4294967296 ^ 2 := Nat.pow_le_pow_right (by omega) (by omega)
      simp only [show (4294967296 : Nat) ^ 2 = 18446744073709551616 from rfl] at h2
      exact Nat.lt_of_lt_of_le h1 h2
    have HSM := Lib.hid hsmall; clear hsmall
    go_wp2_with fail
    go_loop [4, 5, 13] (fun nv _ i => ∃ (i' a : Nat), i' ≤ k ∧ i = .int .i64 i' ∧ nv = .int .u64 a ∧ Hid (a = valB 4294967296 (l.take i'))) (fun _ _ i => k - (intOf i).toNat)
    case atStart => exact ⟨0, 0, Nat.zero_le _, rfl, rfl, Lib.hid rfl⟩
    case round =>
      obtain ⟨i, a, hi, rfl, rfl, HJ⟩ := hrel
      by_cases hlt : i < k
      · obtain ⟨ad, rfl, hb, cA⟩ := H1.out.at_ hlt
        have hx := H1.out.lt hlt
        have hli : i < l.length := by have := H1.out.len; omega
        have hst := Lib.hid (valB_take (b := 4294967296) hli)
        have ha : a < 4294967296 ^ i := by
          have h1 := valB_lt (b := 4294967296) (l := l.take i) (fun d h => H1.out.2.2 d (List.mem_of_mem_take h))
          rw [List.length_take, Nat.min_eq_left (Nat.le_of_lt hli), ← HJ.out] at h1
          exact h1
        have HO := Lib.hid (or_shift a (nth l i) i (by omega) ha hx)
        clear ha
        go_wp2_with fail
        rw [HO.out]
        exact ⟨⟨i + 1, _, by omega, by go_num, rfl, Lib.hid (by rw [hst.out, ← HJ.out])⟩, by simp [intOf]; omega⟩
      · go_wp2_with fail
        go_ret2
        refine ⟨fun _ => ?_, fun h => by have := HSM.out; omega, rfl⟩
        have h1 := HJ.out
        rw [List.take_of_length_le (by rw [← H1.out.len]; omega), N1.out.1] at h1
        subst h1
        rfl

end Go.Proofs.Ytifnbpkcnkfanaa
