/-
  Contract of nat.guessDigit.
-/
import Derived.Test.YtifnbpkcnkfanaaNatDig
import Derived.Test.YtifnbpkcnkfanaaNKnuth
namespace Go.Proofs.Ytifnbpkcnkfanaa
open Go.RowKit

theorem knuth_of {S v : List Nat} {m : Nat} (hS : S.length = m + 3) (hv : v.length = m + 2) (dS : ∀ d ∈ S, d < 4294967296) (dv : ∀ d ∈ v, d < 4294967296) (hv1 : 4294967296 ≤ 2 * nth v (m + 1)) (hU : valB 4294967296 S < 4294967296 * valB 4294967296 v) :
    Knuth 4294967296 (valB 4294967296 S) (valB 4294967296 v) (nth v (m + 1)) (nth v m) (nth S (m + 2) * 4294967296 + nth S (m + 1)) (nth S m) (4294967296 ^ m) (valB 4294967296 S / valB 4294967296 v) := by
  obtain ⟨r1, hr1, e1⟩ := top3 (p := 4294967296) (l := S) (n := m + 2) (by omega) hS dS
  obtain ⟨r2, hr2, e2⟩ := top2 (p := 4294967296) (l := v) (n := m + 2) (by omega) hv dv
  simp only [show m + 2 - 1 = m + 1 by omega, show m + 2 - 2 = m by omega] at e1 e2 hr1 hr2
  have hP : 0 < 4294967296 ^ m := Nat.pow_pos (by omega)
  generalize 4294967296 ^ m = P at *
  have a1 := dv _ (nth_mem (show m + 1 < v.length by omega))
  have a2 := dv _ (nth_mem (show m < v.length by omega))
  have a3 := dS _ (nth_mem (show m < S.length by omega))
  have hV : 0 < valB 4294967296 v := by
    rcases Nat.eq_zero_or_pos (valB 4294967296 v) with h | h
    · rw [h] at hU; omega
    · exact h
  refine ⟨⟨?_, ?_⟩, ⟨?_, ?_⟩, ⟨?_, ?_⟩, ?_, hP, a2, a3, ⟨a1, hv1⟩, by omega⟩
  · rw [e1, Nat.add_mul (_ * _) _ P]; omega
  · rw [e1, Nat.add_mul (_ + _) 1 P]; omega
  · rw [e2]; omega
  · rw [e2, Nat.add_mul (_ + _) 1 P]; omega
  · exact Nat.div_mul_le_self _ _
  · rw [Nat.add_mul, Nat.one_mul, Nat.mul_comm]; exact Nat.lt_mul_div_succ _ hV
  · exact Nat.div_lt_of_lt_mul (by rw [Nat.mul_comm]; exact hU)

theorem wrap_div (a b : Nat) (h : a < 18446744073709551616) : IntKind.u64.wrap ((a : Int) / (b : Int)) = ((a / b : Nat) : Int) := by
  have h1 : a / b ≤ a := Nat.div_le_self a b
  rw [show (a : Int) / (b : Int) = ((a / b : Nat) : Int) by simp]
  generalize a / b = y at *
  simp only [IntKind.wrap, IntKind.bits, IntKind.signed]
  simp
  omega
theorem vint_eq {k : IntKind} {a b : Int} (h : a = b) : Value.int k a = Value.int k b := by rw [h]
/-- The guess is the digit or one more. -/
def RetGuess (w : World) (q : Nat) (e : Ending) (w' : World) : Prop := ∃ g : Nat, e = .returned (.int .u64 g) ∧ q ≤ g ∧ g ≤ q + 1 ∧ g < 4294967296 ∧ Below w.heap.size w w'

set_option maxHeartbeats 4000000 in
theorem guess_any (A B : Option Addr) (S v : List Nat) (N n a b c d : Nat) (w : World) (hr : Es w w.heap.size A N S) (hs : Es w w.heap.size B n v) (hN : N = n + 1) (hn : n = a + 1) (ha : a = b + 1) (hv1 : 4294967296 ≤ 2 * nth v a) (hU : valB 4294967296 S < 4294967296 * valB 4294967296 v) (hm : n ≤ 1000000) :
    Calls Try.prog 74 #[.slice A N c, .slice B n d] w (RetGuess w (valB 4294967296 S / valB 4294967296 v)) := by
  have HK := Lib.hid (show Knuth 4294967296 (valB 4294967296 S) (valB 4294967296 v) (nth v a) (nth v b) (nth S n * 4294967296 + nth S a) (nth S b) (4294967296 ^ b) (valB 4294967296 S / valB 4294967296 v) by
    subst ha hn hN
    exact knuth_of hr.len.symm hs.len.symm hr.2.2 hs.2.2 hv1 hU)
  clear hU
  obtain ⟨ad, rfl, hb0, c0⟩ := hr.at_ (show n < N by omega)
  obtain ⟨ad', e, _, c1⟩ := hr.at_ (show a < N by omega)
  cases e
  obtain ⟨ad', e, _, c2⟩ := hr.at_ (show b < N by omega)
  cases e
  obtain ⟨bd, rfl, hb1, c3⟩ := hs.at_ (show a < n by omega)
  obtain ⟨bd', e, _, c4⟩ := hs.at_ (show b < n by omega)
  cases e
  have l0 := hr.lt (show n < N by omega)
  have l1 := hr.lt (show a < N by omega)
  have l2 := hr.lt (show b < N by omega)
  have l3 := hs.lt (show a < n by omega)
  have l4 := hs.lt (show b < n by omega)
  clear hr hs
  generalize nth S n = u0 at *
  generalize nth S a = u1 at *
  generalize nth S b = u2 at *
  generalize nth v a = v1 at *
  generalize nth v b = v2 at *
  generalize valB 4294967296 S / valB 4294967296 v = q at *
  generalize valB 4294967296 S = U at *
  generalize valB 4294967296 v = V at *
  have i0 : IntKind.i64.wrap ((n : Int) - 1) = (a : Int) := by rw [IntWalk.i64_in _ (by omega)]; omega
  have i1 : IntKind.i64.wrap ((n : Int) - 2) = (b : Int) := by rw [IntWalk.i64_in _ (by omega)]; omega
  have i2 : (n : Int) - 1 = (a : Int) := by omega
  have i3 : (n : Int) - 2 = (b : Int) := by omega
  have n1 : n < N := by omega
  have n2 : a < n := by omega
  have n3 : b < a := by omega
  have n4 : (n : Int) < (N : Int) := by omega
  have n5 : (a : Int) < (N : Int) := by omega
  have n6 : (a : Int) < (n : Int) := by omega
  have n7 : (b : Int) < (n : Int) := by omega
  have n8 : (b : Int) < (N : Int) := by omega
  clear hN hn ha
  have hj := Lib.hid (join32 u0 u1 l0 l1)
  go_enter Try.func74, Try.ntmps74
  go_wp2_with fail
  go_quiet (fail)
  rw [hj.out]
  obtain ⟨top, htop⟩ : ∃ top, top = u0 * 4294967296 + u1 := ⟨_, rfl⟩
  rw [← htop]
  have HK := Lib.hid (show Knuth 4294967296 U V v1 v2 top u2 (4294967296 ^ b) q by rw [htop]; exact HK.out)
  have htl : top < 18446744073709551616 := by omega
  have HT := Lib.hid htop; clear htop hj
  have hv1p : 0 < v1 := by omega
  obtain ⟨w0, hw0⟩ : ∃ w0 : World, w0 = w.drewN nq := ⟨_, rfl⟩
  rw [← hw0]
  have e0 : ∀ p : Addr, w0.cell? p = w.cell? p := by rw [hw0]; intro p; rfl
  have HBw := Lib.hid (show Below w.heap.size w w0 by rw [hw0]; exact below_drewN (Below.refl _ _) _)
  rw [← e0] at c0 c1 c2 c3 c4
  clear e0 hw0 c0 c1
  go_wp2_with fail
  have HC := Lib.hid (And.intro c2 (And.intro c3 c4)); clear c2 c3 c4
  go_loopw [7, 8] (fun gv rv wr => ∃ g r : Nat, gv = .int .u64 g ∧ rv = .int .u64 r ∧ g ≤ 4294967297 ∧ r < 4294967296 ∧ Hid (g * v1 + r = top ∧ q ≤ g ∧ (∀ p : Addr, wr.cell? p = w0.cell? p) ∧ Below w.heap.size w wr)) (fun gv _ _ => (intOf gv).toNat)
  case atStart =>
    refine ⟨top / v1, top % v1, by rw [wrap_div _ _ htl], by simp, HK.out.g0, ?_, Lib.hid ⟨?_, HK.out.ge0, fun _ => rfl, HBw.out⟩⟩
    · have := Nat.mod_lt top hv1p; omega
    · rw [Nat.mul_comm]; exact Nat.div_add_mod _ _
  case round =>
    obtain ⟨g, r, rfl, rfl, hg, hr, HJ⟩ := hrel
    have d2 : wr.cell? (ad.add b) = some (.int .u32 u2) := by rw [HJ.out.2.2.1]; exact HC.out.1
    have d3 : wr.cell? (bd.add a) = some (.int .u32 v1) := by rw [HJ.out.2.2.1]; exact HC.out.2.1
    have d4 : wr.cell? (bd.add b) = some (.int .u32 v2) := by rw [HJ.out.2.2.1]; exact HC.out.2.2
    have hj := Lib.hid (join32 r u2 hr l2)
    by_cases hbig : 4294967295 < g
    · have hgd : decide ((4294967295 : Int) < (g : Int)) = true := by simp; omega
      have hq : q < g := by have := HK.out.hqp; omega
      have hg1 : 1 ≤ g := by omega
      have HQ := Lib.hid hq; clear hq
      by_cases hrr : 4294967295 < r + v1
      · go_wp2_with fail
        go_quiet (fail)
        go_wp2_with fail
        go_ret
        have hnew : (g - 1) * v1 + (r + v1) = top := by
          have h1 := HJ.out.1
          obtain ⟨g', rfl⟩ : ∃ g', g = g' + 1 := ⟨g - 1, by omega⟩
          rw [Nat.add_mul, Nat.one_mul] at h1
          rw [Nat.add_sub_cancel]; omega
        have hle := HK.out.end2 hnew (by omega) (by omega)
        have hqp := HK.out.hqp
        have hq := HQ.out
        exact ⟨g - 1, ret_int (by omega), by omega, by omega, by omega, below_drewN HJ.out.2.2.2 _⟩
      · go_wp2_with fail
        go_quiet (fail)
        go_wp2_with fail
        have hnew : (g - 1) * v1 + (r + v1) = top := by
          have h1 := HJ.out.1
          obtain ⟨g', rfl⟩ : ∃ g', g = g' + 1 := ⟨g - 1, by omega⟩
          rw [Nat.add_mul, Nat.one_mul] at h1
          rw [Nat.add_sub_cancel]; omega
        refine ⟨⟨g - 1, r + v1, vint_eq (by omega), vint_eq (by omega), by omega, by omega, Lib.hid ⟨hnew, by have := HQ.out; omega, HJ.out.2.2.1, below_drewN HJ.out.2.2.2 _⟩⟩, by simp [intOf]; omega⟩
    · have hgd : decide ((4294967295 : Int) < (g : Int)) = false := by simp; omega
      have hprod : g * v2 < 18446744073709551616 := by
        have : g * v2 ≤ 4294967295 * 4294967295 := Nat.mul_le_mul (by omega) (by omega)
        omega
      by_cases htest : r * 4294967296 + u2 < g * v2
      · have hq : q < g := HK.out.down HJ.out.1 htest
        have hg1 : 1 ≤ g := by omega
        have HQ := Lib.hid hq; clear hq
        by_cases hrr : 4294967295 < r + v1
        · go_wp2_with fail
          go_quiet (fail)
          rw [hj.out]
          go_wp2_with fail
          go_ret
          have hnew : (g - 1) * v1 + (r + v1) = top := by
            have h1 := HJ.out.1
            obtain ⟨g', rfl⟩ : ∃ g', g = g' + 1 := ⟨g - 1, by omega⟩
            rw [Nat.add_mul, Nat.one_mul] at h1
            rw [Nat.add_sub_cancel]; omega
          have hle := HK.out.end2 hnew (by omega) (by omega)
          have hqp := HK.out.hqp
          have hq := HQ.out
          exact ⟨g - 1, ret_int (by omega), by omega, by omega, by omega, below_drewN HJ.out.2.2.2 _⟩
        · go_wp2_with fail
          go_quiet (fail)
          rw [hj.out]
          go_wp2_with fail
          have hnew : (g - 1) * v1 + (r + v1) = top := by
            have h1 := HJ.out.1
            obtain ⟨g', rfl⟩ : ∃ g', g = g' + 1 := ⟨g - 1, by omega⟩
            rw [Nat.add_mul, Nat.one_mul] at h1
            rw [Nat.add_sub_cancel]; omega
          refine ⟨⟨g - 1, r + v1, vint_eq (by omega), vint_eq (by omega), by omega, by omega, Lib.hid ⟨hnew, by have := HQ.out; omega, HJ.out.2.2.1, below_drewN HJ.out.2.2.2 _⟩⟩, by simp [intOf]; omega⟩
      · have HTEST := Lib.hid htest
        go_wp2_with fail
        go_quiet (fail)
        rw [hj.out]
        go_wp2_with fail
        go_ret
        exact ⟨g, rfl, HJ.out.2.1, HK.out.end1 HJ.out.1 (by have := HTEST.out; omega) (by omega), by omega, below_drewN HJ.out.2.2.2 _⟩

end Go.Proofs.Ytifnbpkcnkfanaa
