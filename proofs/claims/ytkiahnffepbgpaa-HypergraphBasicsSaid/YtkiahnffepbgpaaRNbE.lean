/-
  The reference's neighbours are the program's.
-/
import Derived.Test.YtkiahnffepbgpaaRAdj
import Derived.Test.YtkiahnffepbgpaaRegG
import Derived.Test.YtkiahnffepbgpaaCompP
namespace Go.Proofs.Ytkiahnffepbgpaa
open Go.RowKit

/-- The neighbours of v among the vertices below k. -/
def rnb (es : List Nat) (v : Nat) : Nat → Nat
  | 0 => 0
  | k + 1 => rnb es v k + (if adjB es v k then 2 ^ k else 0)
theorem rnb_lt (es : List Nat) (v : Nat) : ∀ k, rnb es v k < 2 ^ k
  | 0 => by simp [rnb]
  | k + 1 => by
    have := rnb_lt es v k
    rw [rnb, Nat.pow_succ]
    split <;> omega
theorem rnb_bit (es : List Nat) (v u : Nat) : ∀ k, (rnb es v k).testBit u = (decide (u < k) && adjB es v u)
  | 0 => by simp [rnb]
  | k + 1 => by
    have ih := rnb_bit es v u k
    have hl := rnb_lt es v k
    rw [rnb]
    by_cases ha : adjB es v k = true
    · rw [if_pos ha, Nat.add_comm]
      by_cases hu : u = k
      · subst hu
        rw [Nat.testBit_two_pow_add_eq, ih]; simp [ha]
      · by_cases hlt : u < k
        · rw [Nat.testBit_two_pow_add_gt hlt, ih]; simp [hlt]; intro _; omega
        · have h1 : 2 ^ k + rnb es v k < 2 ^ u := by
            have : 2 ^ (k + 1) ≤ 2 ^ u := Nat.pow_le_pow_right (by omega) (by omega)
            rw [Nat.pow_succ] at this; omega
          rw [Nat.testBit_lt_two_pow h1]
          simp; omega
    · rw [if_neg ha, Nat.add_zero, ih]
      by_cases hu : u = k
      · subst hu; simp [ha]
      · have : decide (u < k + 1) = decide (u < k) := by simp; omega
        rw [this]

set_option maxHeartbeats 4000000 in
theorem rneighbors_any (n v : Nat) (hn : n ≤ 32) (A : Option Addr) (es : List Nat) (len c : Nat) (w : World) (hr : Es w w.heap.size A len es) :
    Calls Try.prog 29 #[.agg #[.int .i64 n, .slice A len c], .int .i64 v] w fun e w' => e = .returned (.int .u32 (rnb es v n : Int)) ∧ Below w.heap.size w w' := by
  have HG := Lib.hid (GB.made w 26 (.int .i64 n) (.slice A len c))
  have HR := Lib.hid (hr.new (al w (.cells #[.int .i64 n, .slice A len c] 26))); clear hr
  have HW := Lib.hid (al w (.cells #[.int .i64 n, .slice A len c] 26))
  go_enter Try.func29, Try.ntmps29
  go_wp2_with fail
  generalize hw1 : w.alloc (.cells #[.int .i64 n, .slice A len c] 26) = w1 at *
  go_loopw [5, 6] (fun s i wr => ∃ k : Nat, k ≤ n ∧ i = .int .i64 k ∧ s = .int .u32 (rnb es v k : Int) ∧ Below w1.heap.size w1 wr) (fun _ i _ => n - (intOf i).toNat)
  case atStart => exact ⟨0, Nat.zero_le _, rfl, rfl, Below.refl _ _⟩
  case round =>
    obtain ⟨k, hk, rfl, rfl, hbl⟩ := hrel
    have HB := Lib.hid hbl
    have g0 := (HG.out.new hbl).c0; have g1 := (HG.out.new hbl).c1
    clear hbl
    have h1 := rnb_lt es v k
    by_cases hlt : k < n
    · have i1 : (0 : Int) ≤ (k : Int) := by omega
      have i2 : (k : Int) < 32 := by omega
      cases hab : adjB es v k with
      | false =>
        have HAB := Lib.hid hab; clear hab h1
        go_wp2_with fail
        refine (adjacent_any n v k A es len c _ (HR.out.new HB.out)).mono ?_
        rintro e w2 ⟨rfl, hb⟩
        rw [HAB.out]
        have HB2 := Lib.hid hb; clear hb
        go_wp2_with fail
        exact ⟨⟨k + 1, by omega, by go_num, by rw [rnb, HAB.out]; simp, bthen HB.out HB2.out HB.out.size⟩, by simp [intOf]; omega⟩
      | true =>
        have HAB := Lib.hid hab; clear hab
        have H1 := Lib.hid h1; clear h1
        go_wp2_with fail
        refine (adjacent_any n v k A es len c _ (HR.out.new HB.out)).mono ?_
        rintro e w2 ⟨rfl, hb⟩
        rw [HAB.out]
        have HB2 := Lib.hid hb; clear hb
        go_wp2_with fail
        refine ⟨⟨k + 1, by omega, by go_num, ?_, bthen HB.out HB2.out HB.out.size⟩, by simp [intOf]; omega⟩
        have e1 := shl_mod k (by omega)
        have e2 : rnb es v (k + 1) = rnb es v k + 2 ^ k := by rw [rnb, HAB.out]; simp
        have e3 : 2 ^ k < 4294967296 := pow2_lt32 (by omega)
        have e4 : 2 * 2 ^ k ≤ 4294967296 := by
          have : 2 ^ (k + 1) ≤ 2 ^ 32 := Nat.pow_le_pow_right (by omega) (by omega)
          rw [Nat.pow_succ] at this; omega
        have e5 := H1.out
        rw [e2]
        rw [e1]
        have e6 : ((rnb es v k : Int) + ((2 ^ k : Nat) : Int)) % 4294967296 = ((rnb es v k + 2 ^ k : Nat) : Int) := by omega
        rw [e6]
    · obtain rfl : k = n := by omega
      go_wp2_with fail
      go_ret
      exact ⟨rfl, bthen HW.out HB.out HW.out.size⟩
end Go.Proofs.Ytkiahnffepbgpaa
namespace Go.Proofs.Ytkiahnffepbgpaa

theorem rnb_adj {n : Nat} {es : List Nat} (hn : n ≤ 32) (hb : ∀ e ∈ es, e < 2 ^ n) {v : Nat} (hv : v < n) : rnb es v n = adj es v := by
  apply Nat.eq_of_testBit_eq
  intro u
  rw [rnb_bit, testBit_adjB (lt32_of hn hb) (show v < 32 by omega)]
  cases h : adjB es v u with
  | false => simp
  | true =>
    have h2 : (adj es v).testBit u = true := by rw [testBit_adjB (lt32_of hn hb) (show v < 32 by omega)]; exact h
    have := adj_lt_n hn hb (show v < 32 by omega) h2
    simp [this]
end Go.Proofs.Ytkiahnffepbgpaa
