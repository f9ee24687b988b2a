/-
The division of long numbers, plainly: the guess of a digit, the subtraction of a product, the step.
Contract of nat.guessDigit.
Contract of nat.Sub.
Contract of nat.Mul.
Contracts of nat.subProduct and addBack.
Contract of nat.divLong.
Contract of nat.DivMod.
-/
import Derived.Test.YtpnklmgfdihjfaaK1
import Derived.IntWalk
namespace Go.Proofs.Ytpnklmgfdihjfaa

theorem nth_mid {P S T : List Nat} {j i : Nat} (hj : P.length = j) (hi : i < S.length) : nth (P ++ S ++ T) (j + i) = nth S i := by
  subst hj
  rw [nth_eq (by simp; omega), nth_eq hi, List.getElem_append_left (by simp; omega), List.getElem_append_right (by omega)]
  congr 1
  omega
theorem set_mid {P S T : List Nat} {j i x : Nat} (hj : P.length = j) (hi : i < S.length) : (P ++ S ++ T).set (j + i) x = P ++ S.set i x ++ T := by
  subst hj
  rw [List.set_append_left _ _ (by simp; omega), List.set_append_right _ _ (by omega)]
  congr 3
  omega

/-- The two top digits of a number of n digits (n at least 2). -/
theorem top2 {p : Nat} {l : List Nat} {n : Nat} (hn : 2 ≤ n) (hl : l.length = n) (hd : ∀ d ∈ l, d < p) :
    ∃ r, r < p ^ (n - 2) ∧ valB p l = (nth l (n - 1) * p + nth l (n - 2)) * p ^ (n - 2) + r := by
  refine ⟨valB p (l.take (n - 2)), ?_, ?_⟩
  · have := valB_lt (b := p) (l := l.take (n - 2)) (fun d h => hd d (List.mem_of_mem_take h))
    rwa [List.length_take, Nat.min_eq_left (by omega)] at this
  · have h1 := valB_take (b := p) (l := l) (k := n - 1) (by omega)
    have h2 := valB_take (b := p) (l := l) (k := n - 2) (by omega)
    rw [show n - 1 + 1 = n by omega, List.take_of_length_le (by omega)] at h1
    rw [show n - 2 + 1 = n - 1 by omega] at h2
    rw [h1, h2, show n - 1 = (n - 2) + 1 by omega, Nat.pow_succ, Nat.add_mul, Nat.mul_comm (nth l (n - 2 + 1)) p, Nat.mul_comm (p ^ (n - 2)) p]
    rw [Nat.mul_assoc p, Nat.mul_assoc p, Nat.mul_comm (p ^ (n - 2)) (nth l (n - 2 + 1)), Nat.mul_comm (nth l (n - 2)) (p ^ (n - 2))]
    omega
theorem top3 {p : Nat} {l : List Nat} {n : Nat} (hn : 2 ≤ n) (hl : l.length = n + 1) (hd : ∀ d ∈ l, d < p) :
    ∃ r, r < p ^ (n - 2) ∧ valB p l = ((nth l n * p + nth l (n - 1)) * p + nth l (n - 2)) * p ^ (n - 2) + r := by
  obtain ⟨r, hr, h1⟩ := top2 (p := p) (l := l.take n) hn (by simp; omega) (fun d h => hd d (List.mem_of_mem_take h))
  refine ⟨r, hr, ?_⟩
  have h2 := valB_take (b := p) (l := l) (k := n) (by omega)
  rw [List.take_of_length_le (by omega), h1, nth_take (by omega), nth_take (by omega)] at h2
  rw [h2]
  have e : p ^ n = p * p * p ^ (n - 2) := by
    rw [show n = (n - 2) + 1 + 1 by omega, Nat.pow_succ, Nat.pow_succ, show n - 2 + 1 + 1 - 2 = n - 2 by omega, Nat.mul_comm (p ^ (n - 2)) p, Nat.mul_assoc p, Nat.mul_comm (p ^ (n - 2)) p, Nat.mul_assoc]
  rw [e]
  have e2 : ((nth l n * p + nth l (n - 1)) * p + nth l (n - 2)) * p ^ (n - 2) = (nth l (n - 1) * p + nth l (n - 2)) * p ^ (n - 2) + p * p * p ^ (n - 2) * nth l n := by
    rw [Nat.add_mul, Nat.add_mul, Nat.add_mul, Nat.add_mul, Nat.mul_comm (p * p * p ^ (n - 2)) (nth l n), Nat.mul_assoc (nth l n) p p, Nat.mul_assoc (nth l n) (p * p)]
    omega
  omega

/-- The frame of one guess: U is (top, u2, ..), V is (v1, v2, ..), P the weight of the digits left out. -/
structure Knuth (p U V v1 v2 top u2 P q : Nat) : Prop where
  hu : top * p * P + u2 * P ≤ U ∧ U < (top * p + u2 + 1) * P
  hv : (v1 * p + v2) * P ≤ V ∧ V < (v1 * p + v2 + 1) * P
  hq : q * V ≤ U ∧ U < (q + 1) * V
  hqp : q < p
  hP : 0 < P
  hv2 : v2 < p
  hu2 : u2 < p
  hv1 : v1 < p ∧ p ≤ 2 * v1
  hp : 1 < p

theorem Knuth.ge0 {p U V v1 v2 top u2 P q : Nat} (k : Knuth p U V v1 v2 top u2 P q) : q ≤ top / v1 := by
  have h0 : 0 < v1 := by have := k.hv1; have := k.hp; omega
  rw [Nat.le_div_iff_mul_le h0]
  -- q * v1 * (p * P) ≤ q * V ≤ U < (top + 1) * (p * P)
  have hpP : 0 < p * P := Nat.mul_pos (by have := k.hp; omega) k.hP
  have h1 : q * ((v1 * p + v2) * P) ≤ q * V := Nat.mul_le_mul_left q k.hv.1
  have h2 : q * v1 * (p * P) ≤ q * ((v1 * p + v2) * P) := by
    rw [Nat.mul_assoc q v1]; apply Nat.mul_le_mul_left; rw [← Nat.mul_assoc]; apply Nat.mul_le_mul_right; omega
  have h3 : (top * p + u2 + 1) * P ≤ (top + 1) * (p * P) := by
    rw [← Nat.mul_assoc]; apply Nat.mul_le_mul_right; rw [Nat.add_mul]; have := k.hu2; omega
  have h4 : q * v1 * (p * P) < (top + 1) * (p * P) := by have := k.hq.1; have := k.hu.2; omega
  have h5 : q * v1 < top + 1 := Nat.lt_of_mul_lt_mul_right h4
  omega
theorem Knuth.g0 {p U V v1 v2 top u2 P q : Nat} (k : Knuth p U V v1 v2 top u2 P q) : top / v1 ≤ p + 1 := by
  have h0 : 0 < v1 := by have := k.hv1; have := k.hp; omega
  have hP := k.hP
  -- top * p * P ≤ U < (q + 1) * V ≤ p * V < p * (v1 * p + v2 + 1) * P, so top < v1 * p + v2 + 1 <= (v1 + 1) * p
  have h1 : (q + 1) * V ≤ p * V := Nat.mul_le_mul_right V k.hqp
  have h2 : p * V ≤ p * ((v1 * p + v2 + 1) * P) := Nat.mul_le_mul_left p (Nat.le_of_lt k.hv.2)
  have h3 : top * p * P < p * ((v1 * p + v2 + 1) * P) := by have := k.hu.1; have := k.hq.2; omega
  have h4 : top * (p * P) < (v1 * p + v2 + 1) * (p * P) := by
    rw [← Nat.mul_assoc, ← Nat.mul_assoc, Nat.mul_comm (v1 * p + v2 + 1) p, Nat.mul_assoc p]; exact h3
  have h5 : top < v1 * p + v2 + 1 := Nat.lt_of_mul_lt_mul_right h4
  have h6 : top < (p + 2) * v1 := by
    have := k.hv2
    have := k.hv1
    rw [Nat.add_mul, Nat.mul_comm p v1]
    omega
  have := (Nat.div_lt_iff_lt_mul h0).2 h6
  omega
/-- A guess that is too great: the digit is below it. -/
theorem Knuth.down {p U V v1 v2 top u2 P q g r : Nat} (k : Knuth p U V v1 v2 top u2 P q) (h : g * v1 + r = top) (hb : r * p + u2 < g * v2) : q < g := by
  rcases Nat.lt_or_ge q g with h1 | h1
  · exact h1
  exfalso
  have e1 : g * ((v1 * p + v2) * P) ≤ q * V := Nat.le_trans (Nat.mul_le_mul_left g k.hv.1) (Nat.mul_le_mul_right V h1)
  have e2 : (top * p + u2 + 1) * P ≤ g * ((v1 * p + v2) * P) := by
    rw [← Nat.mul_assoc]
    apply Nat.mul_le_mul_right
    rw [Nat.mul_add, ← Nat.mul_assoc, ← h, Nat.add_mul]
    omega
  have := k.hq.1
  have := k.hu.2
  omega
/-- The end by the second digit: at most one too great. -/
theorem Knuth.end1 {p U V v1 v2 top u2 P q g r : Nat} (k : Knuth p U V v1 v2 top u2 P q) (h : g * v1 + r = top) (hb : g * v2 ≤ r * p + u2) (hg : g < p) : g ≤ q + 1 := by
  rcases Nat.lt_or_ge (q + 1) g with h1 | h1
  · exfalso
    have hv1 : 0 < v1 := by have := k.hv1; have := k.hp; omega
    -- g * V < g * (v1 p + v2) P + g P <= U + p P <= U + V
    have e1 : g * V ≤ g * ((v1 * p + v2 + 1) * P) := Nat.mul_le_mul_left g (Nat.le_of_lt k.hv.2)
    have e2 : g * ((v1 * p + v2 + 1) * P) = g * (v1 * p + v2) * P + g * P := by
      rw [← Nat.mul_assoc, Nat.mul_add g, Nat.mul_one, Nat.add_mul]
    have e3 : g * (v1 * p + v2) * P ≤ U := by
      refine Nat.le_trans ?_ k.hu.1
      rw [← Nat.add_mul]
      apply Nat.mul_le_mul_right
      rw [Nat.mul_add, ← Nat.mul_assoc, ← h, Nat.add_mul]
      omega
    have e4 : g * P < p * P := Nat.mul_lt_mul_of_pos_right hg k.hP
    have e5 : p * P ≤ V := by
      refine Nat.le_trans ?_ k.hv.1
      apply Nat.mul_le_mul_right
      have : 1 * p ≤ v1 * p := Nat.mul_le_mul_right p hv1
      omega
    have e6 : (q + 2) * V ≤ g * V := Nat.mul_le_mul_right V h1
    have e7 : (q + 2) * V = (q + 1) * V + V := by rw [Nat.add_mul, Nat.add_mul]; omega
    have := k.hq.2
    omega
  · exact h1
/-- The end by the rest: the guess is the digit. -/
theorem Knuth.end2 {p U V v1 v2 top u2 P q g r : Nat} (k : Knuth p U V v1 v2 top u2 P q) (h : g * v1 + r = top) (hr : p ≤ r) (hg : g ≤ p) : g ≤ q := by
  rcases Nat.lt_or_ge q g with h1 | h1
  · exfalso
    -- g V < g (v1 + 1) p P <= (top - p + g) p P <= top p P <= U
    have e1 : g * V ≤ g * ((v1 * p + v2 + 1) * P) := Nat.mul_le_mul_left g (Nat.le_of_lt k.hv.2)
    have e2 : g * ((v1 * p + v2 + 1) * P) ≤ g * (v1 + 1) * (p * P) := by
      rw [← Nat.mul_assoc, ← Nat.mul_assoc]
      apply Nat.mul_le_mul_right
      rw [Nat.mul_assoc g (v1 + 1)]
      apply Nat.mul_le_mul_left
      rw [Nat.add_mul]
      have := k.hv2
      omega
    have e3 : g * (v1 + 1) * (p * P) ≤ top * (p * P) := by
      apply Nat.mul_le_mul_right
      rw [Nat.mul_add]
      omega
    have e4 : top * (p * P) = top * p * P := by rw [Nat.mul_assoc]
    have e5 : (q + 1) * V ≤ g * V := Nat.mul_le_mul_right V h1
    have := k.hq.2
    have := k.hu.1
    omega
  · exact h1

end Go.Proofs.Ytpnklmgfdihjfaa
namespace Go.Proofs.Ytpnklmgfdihjfaa
open Go.RowKit

theorem knuth_of {S v : List Nat} {m : Nat} (hS : S.length = m + 3) (hv : v.length = m + 2) (dS : ∀ d ∈ S, d < 4294967296) (dv : ∀ d ∈ v, d < 4294967296) (hv1 : 4294967296 ≤ 2 * nth v (m + 1)) (hU : valB 4294967296 S < 4294967296 * valB 4294967296 v) :
    Knuth 4294967296 (valB 4294967296 S) (valB 4294967296 v) (nth v (m + 1)) (nth v m) (nth S (m + 2) * 4294967296 + nth S (m + 1)) (nth S m) (4294967296 ^ m) (valB 4294967296 S / valB 4294967296 v) := by
  obtain ⟨r1, hr1, e1⟩ := top3 (p := 4294967296) (l := S) (n := m + 2) (by omega) hS dS
  obtain ⟨r2, hr2, e2⟩ := top2 (p := 4294967296) (l := v) (n := m + 2) (by omega) hv dv
  simp only [show m + 2 - 1 = m + 1 by omega, show m + 2 - 2 = m by omega] at e1 e2 hr1 hr2
  have hP : 0 < 4294967296 ^ m := Nat.pow_pos (by omega)
  generalize 4294967296 ^ m = P at *
  have a1 := dv _ (nth_mem (show m + 1 < v.length by omega))
  have a2 := dv _ (nth_mem (show m < v.length by omega))
  have a3 := dS _ (nth_mem (show m < S.length by omega))
  have hV : 0 < valB 4294967296 v := by
    rcases Nat.eq_zero_or_pos (valB 4294967296 v) with h | h
    · rw [h] at hU; omega
    · exact h
  refine ⟨⟨?_, ?_⟩, ⟨?_, ?_⟩, ⟨?_, ?_⟩, ?_, hP, a2, a3, ⟨a1, hv1⟩, by omega⟩
  · rw [e1, Nat.add_mul (_ * _) _ P]; omega
  · rw [e1, Nat.add_mul (_ + _) 1 P]; omega
  · rw [e2]; omega
  · rw [e2, Nat.add_mul (_ + _) 1 P]; omega
  · exact Nat.div_mul_le_self _ _
  · rw [Nat.add_mul, Nat.one_mul, Nat.mul_comm]; exact Nat.lt_mul_div_succ _ hV
  · exact Nat.div_lt_of_lt_mul (by rw [Nat.mul_comm]; exact hU)

theorem wrap_div (a b : Nat) (h : a < 18446744073709551616) : IntKind.u64.wrap ((a : Int) / (b : Int)) = ((a / b : Nat) : Int) := by
  have h1 : a / b ≤ a := Nat.div_le_self a b
  rw [show (a : Int) / (b : Int) = ((a / b : Nat) : Int) by simp]
  generalize a / b = y at *
  simp only [IntKind.wrap, IntKind.bits, IntKind.signed]
  simp
  omega
theorem vint_eq {k : IntKind} {a b : Int} (h : a = b) : Value.int k a = Value.int k b := by rw [h]
/-- The guess is the digit or one more. -/
def RetGuess (w : World) (q : Nat) (e : Ending) (w' : World) : Prop := ∃ g : Nat, e = .returned (.int .u64 g) ∧ q ≤ g ∧ g ≤ q + 1 ∧ g < 4294967296 ∧ Below w.heap.size w w'

set_option maxHeartbeats 4000000 in
theorem guess_any (A B : Option Addr) (S v : List Nat) (N n a b c d : Nat) (w : World) (hr : Es w w.heap.size A N S) (hs : Es w w.heap.size B n v) (hN : N = n + 1) (hn : n = a + 1) (ha : a = b + 1) (hv1 : 4294967296 ≤ 2 * nth v a) (hU : valB 4294967296 S < 4294967296 * valB 4294967296 v) (hm : n ≤ 1000000) :
    Calls Try.prog 103 #[.slice A N c, .slice B n d] w (RetGuess w (valB 4294967296 S / valB 4294967296 v)) := by
  have HK := Lib.hid (show Knuth 4294967296 (valB 4294967296 S) (valB 4294967296 v) (nth v a) (nth v b) (nth S n * 4294967296 + nth S a) (nth S b) (4294967296 ^ b) (valB 4294967296 S / valB 4294967296 v) by
    subst ha hn hN
    exact knuth_of hr.len.symm hs.len.symm hr.2.2 hs.2.2 hv1 hU)
  clear hU
  obtain ⟨ad, rfl, hb0, c0⟩ := hr.at_ (show n < N by omega)
  obtain ⟨ad', e, _, c1⟩ := hr.at_ (show a < N by omega)
  cases e
  obtain ⟨ad', e, _, c2⟩ := hr.at_ (show b < N by omega)
  cases e
  obtain ⟨bd, rfl, hb1, c3⟩ := hs.at_ (show a < n by omega)
  obtain ⟨bd', e, _, c4⟩ := hs.at_ (show b < n by omega)
  cases e
  have l0 := hr.lt (show n < N by omega)
  have l1 := hr.lt (show a < N by omega)
  have l2 := hr.lt (show b < N by omega)
  have l3 := hs.lt (show a < n by omega)
  have l4 := hs.lt (show b < n by omega)
  clear hr hs
  generalize nth S n = u0 at *
  generalize nth S a = u1 at *
  generalize nth S b = u2 at *
  generalize nth v a = v1 at *
  generalize nth v b = v2 at *
  generalize valB 4294967296 S / valB 4294967296 v = q at *
  generalize valB 4294967296 S = U at *
  generalize valB 4294967296 v = V at *
  have i0 : IntKind.i64.wrap ((n : Int) - 1) = (a : Int) := by rw [IntWalk.i64_in _ (by omega)]; omega
  have i1 : IntKind.i64.wrap ((n : Int) - 2) = (b : Int) := by rw [IntWalk.i64_in _ (by omega)]; omega
  have i2 : (n : Int) - 1 = (a : Int) := by omega
  have i3 : (n : Int) - 2 = (b : Int) := by omega
  have n1 : n < N := by omega
  have n2 : a < n := by omega
  have n3 : b < a := by omega
  have n4 : (n : Int) < (N : Int) := by omega
  have n5 : (a : Int) < (N : Int) := by omega
  have n6 : (a : Int) < (n : Int) := by omega
  have n7 : (b : Int) < (n : Int) := by omega
  have n8 : (b : Int) < (N : Int) := by omega
  clear hN hn ha
  have hj := Lib.hid (join32 u0 u1 l0 l1)
  go_enter Try.func103, Try.ntmps103
  go_wp2_with fail
  go_quiet (fail)
  rw [hj.out]
  obtain ⟨top, htop⟩ : ∃ top, top = u0 * 4294967296 + u1 := ⟨_, rfl⟩
  rw [← htop]
  have HK := Lib.hid (show Knuth 4294967296 U V v1 v2 top u2 (4294967296 ^ b) q by rw [htop]; exact HK.out)
  have htl : top < 18446744073709551616 := by omega
  have HT := Lib.hid htop; clear htop hj
  have hv1p : 0 < v1 := by omega
  obtain ⟨w0, hw0⟩ : ∃ w0 : World, w0 = w.drewN nq := ⟨_, rfl⟩
  rw [← hw0]
  have e0 : ∀ p : Addr, w0.cell? p = w.cell? p := by rw [hw0]; intro p; rfl
  have HBw := Lib.hid (show Below w.heap.size w w0 by rw [hw0]; exact below_drewN (Below.refl _ _) _)
  rw [← e0] at c0 c1 c2 c3 c4
  clear e0 hw0 c0 c1
  go_wp2_with fail
  have HC := Lib.hid (And.intro c2 (And.intro c3 c4)); clear c2 c3 c4
  go_loopw [7, 8] (fun gv rv wr => ∃ g r : Nat, gv = .int .u64 g ∧ rv = .int .u64 r ∧ g ≤ 4294967297 ∧ r < 4294967296 ∧ Hid (g * v1 + r = top ∧ q ≤ g ∧ (∀ p : Addr, wr.cell? p = w0.cell? p) ∧ Below w.heap.size w wr)) (fun gv _ _ => (intOf gv).toNat)
  case atStart =>
    refine ⟨top / v1, top % v1, by rw [wrap_div _ _ htl], by simp, HK.out.g0, ?_, Lib.hid ⟨?_, HK.out.ge0, fun _ => rfl, HBw.out⟩⟩
    · have := Nat.mod_lt top hv1p; omega
    · rw [Nat.mul_comm]; exact Nat.div_add_mod _ _
  case round =>
    obtain ⟨g, r, rfl, rfl, hg, hr, HJ⟩ := hrel
    have d2 : wr.cell? (ad.add b) = some (.int .u32 u2) := by rw [HJ.out.2.2.1]; exact HC.out.1
    have d3 : wr.cell? (bd.add a) = some (.int .u32 v1) := by rw [HJ.out.2.2.1]; exact HC.out.2.1
    have d4 : wr.cell? (bd.add b) = some (.int .u32 v2) := by rw [HJ.out.2.2.1]; exact HC.out.2.2
    have hj := Lib.hid (join32 r u2 hr l2)
    by_cases hbig : 4294967295 < g
    · have hgd : decide ((4294967295 : Int) < (g : Int)) = true := by simp; omega
      have hq : q < g := by have := HK.out.hqp; omega
      have hg1 : 1 ≤ g := by omega
      have HQ := Lib.hid hq; clear hq
      by_cases hrr : 4294967295 < r + v1
      · go_wp2_with fail
        go_quiet (fail)
        go_wp2_with fail
        go_ret
        have hnew : (g - 1) * v1 + (r + v1) = top := by
          have h1 := HJ.out.1
          obtain ⟨g', rfl⟩ : ∃ g', g = g' + 1 := ⟨g - 1, by omega⟩
          rw [Nat.add_mul, Nat.one_mul] at h1
          rw [Nat.add_sub_cancel]; omega
        have hle := HK.out.end2 hnew (by omega) (by omega)
        have hqp := HK.out.hqp
        have hq := HQ.out
        exact ⟨g - 1, ret_int (by omega), by omega, by omega, by omega, below_drewN HJ.out.2.2.2 _⟩
      · go_wp2_with fail
        go_quiet (fail)
        go_wp2_with fail
        have hnew : (g - 1) * v1 + (r + v1) = top := by
          have h1 := HJ.out.1
          obtain ⟨g', rfl⟩ : ∃ g', g = g' + 1 := ⟨g - 1, by omega⟩
          rw [Nat.add_mul, Nat.one_mul] at h1
          rw [Nat.add_sub_cancel]; omega
        refine ⟨⟨g - 1, r + v1, vint_eq (by omega), vint_eq (by omega), by omega, by omega, Lib.hid ⟨hnew, by have := HQ.out; omega, HJ.out.2.2.1, below_drewN HJ.out.2.2.2 _⟩⟩, by simp [intOf]; omega⟩
    · have hgd : decide ((4294967295 : Int) < (g : Int)) = false := by simp; omega
      have hprod : g * v2 < 18446744073709551616 := by
        have : g * v2 ≤ 4294967295 * 4294967295 := Nat.mul_le_mul (by omega) (by omega)
        omega
      by_cases htest : r * 4294967296 + u2 < g * v2
      · have hq : q < g := HK.out.down HJ.out.1 htest
        have hg1 : 1 ≤ g := by omega
        have HQ := Lib.hid hq; clear hq
        by_cases hrr : 4294967295 < r + v1
        · go_wp2_with fail
          go_quiet (fail)
          rw [hj.out]
          go_wp2_with fail
          go_ret
          have hnew : (g - 1) * v1 + (r + v1) = top := by
            have h1 := HJ.out.1
            obtain ⟨g', rfl⟩ : ∃ g', g = g' + 1 := ⟨g - 1, by omega⟩
            rw [Nat.add_mul, Nat.one_mul] at h1
            rw [Nat.add_sub_cancel]; omega
          have hle := HK.out.end2 hnew (by omega) (by omega)
          have hqp := HK.out.hqp
          have hq := HQ.out
          exact ⟨g - 1, ret_int (by omega), by omega, by omega, by omega, below_drewN HJ.out.2.2.2 _⟩
        · go_wp2_with fail
          go_quiet (fail)
          rw [hj.out]
          go_wp2_with fail
          have hnew : (g - 1) * v1 + (r + v1) = top := by
            have h1 := HJ.out.1
            obtain ⟨g', rfl⟩ : ∃ g', g = g' + 1 := ⟨g - 1, by omega⟩
            rw [Nat.add_mul, Nat.one_mul] at h1
            rw [Nat.add_sub_cancel]; omega
          refine ⟨⟨g - 1, r + v1, vint_eq (by omega), vint_eq (by omega), by omega, by omega, Lib.hid ⟨hnew, by have := HQ.out; omega, HJ.out.2.2.1, below_drewN HJ.out.2.2.2 _⟩⟩, by simp [intOf]; omega⟩
      · have HTEST := Lib.hid htest
        go_wp2_with fail
        go_quiet (fail)
        rw [hj.out]
        go_wp2_with fail
        go_ret
        exact ⟨g, rfl, HJ.out.2.1, HK.out.end1 HJ.out.1 (by have := HTEST.out; omega) (by omega), by omega, below_drewN HJ.out.2.2.2 _⟩

end Go.Proofs.Ytpnklmgfdihjfaa
namespace Go.Proofs.Ytpnklmgfdihjfaa
open Go.RowKit

def SubInv (l f L : List Nat) (i b : Nat) : Prop := L.length = l.length ∧ (∀ d ∈ L, d < 4294967296) ∧ valB 4294967296 (L.take i) + valB 4294967296 (f.take i) = valB 4294967296 (l.take i) + 4294967296 ^ i * b ∧ b ≤ 1
theorem SubInv.step {l f L : List Nat} {i b y : Nat} (h : SubInv l f L i b) (hi : i < l.length) (hl : ∀ d ∈ l, d < 4294967296) (hy : y = if i < f.length then nth f i else 0) (hy2 : y < 4294967296) :
    SubInv l f (L.set i ((nth l i + 4294967296 - b - y) % 4294967296)) (i + 1) (if nth l i < b + y then 1 else 0) := by
  obtain ⟨h1, h2, h3, h4⟩ := h
  have d1 := hl _ (nth_mem hi)
  have e1 := valB_take (b := 4294967296) hi
  have e2 : valB 4294967296 (f.take (i + 1)) = valB 4294967296 (f.take i) + 4294967296 ^ i * y := by
    subst hy
    split
    · rename_i hlt; exact valB_take hlt
    · rw [List.take_of_length_le (by omega), List.take_of_length_le (by omega)]; simp
  have e3 : valB 4294967296 ((L.set i ((nth l i + 4294967296 - b - y) % 4294967296)).take (i + 1)) = valB 4294967296 (L.take i) + 4294967296 ^ i * ((nth l i + 4294967296 - b - y) % 4294967296) := by
    rw [take_set_lt (by omega), valB_snoc, List.length_take, Nat.min_eq_left (by omega)]
  refine ⟨by rw [List.length_set]; exact h1, mem_set h2 (Nat.mod_lt _ (by omega)), ?_, by split <;> omega⟩
  rw [e1, e2, e3, Nat.pow_succ]
  by_cases hb : nth l i < b + y
  · rw [if_pos hb]
    have hd : (nth l i + 4294967296 - b - y) % 4294967296 + y + b = nth l i + 4294967296 := by omega
    have hm : 4294967296 ^ i * ((nth l i + 4294967296 - b - y) % 4294967296) + 4294967296 ^ i * y + 4294967296 ^ i * b = 4294967296 ^ i * nth l i + 4294967296 ^ i * 4294967296 := by
      rw [← Nat.mul_add, ← Nat.mul_add, hd, Nat.mul_add]
    rw [Nat.mul_one]
    omega
  · rw [if_neg hb]
    have hd : (nth l i + 4294967296 - b - y) % 4294967296 + y + b = nth l i := by omega
    have hm : 4294967296 ^ i * ((nth l i + 4294967296 - b - y) % 4294967296) + 4294967296 ^ i * y + 4294967296 ^ i * b = 4294967296 ^ i * nth l i := by
      rw [← Nat.mul_add, ← Nat.mul_add, hd]
    rw [Nat.mul_zero]
    omega

theorem u64_wrap (x : Int) : IntKind.u64.wrap x = x % 18446744073709551616 := by simp [IntKind.wrap, IntKind.bits, IntKind.signed]
theorem sub_lo (a b y : Nat) (ha : a < 4294967296) (hb : b ≤ 1) (hy : y < 4294967296) : IntKind.u64.wrap (IntKind.u64.wrap ((a : Int) - b) - y) % 4294967296 = (((a + 4294967296 - b - y) % 4294967296 : Nat) : Int) := by
  rw [u64_wrap, u64_wrap]; omega
theorem sub_hi (a b y : Nat) (ha : a < 4294967296) (hb : b ≤ 1) (hy : y < 4294967296) : IntKind.u64.wrap (IntKind.u64.wrap ((a : Int) - b) - y) / 9223372036854775808 = ((if a < b + y then 1 else 0 : Nat) : Int) := by
  rw [u64_wrap, u64_wrap]
  split <;> omega
theorem sub_lo0 (a b : Nat) (ha : a < 4294967296) (hb : b ≤ 1) : IntKind.u64.wrap ((a : Int) - b) % 4294967296 = (((a + 4294967296 - b - 0) % 4294967296 : Nat) : Int) := by
  rw [u64_wrap]; omega
theorem sub_hi0 (a b : Nat) (ha : a < 4294967296) (hb : b ≤ 1) : IntKind.u64.wrap ((a : Int) - b) / 9223372036854775808 = ((if a < b + 0 then 1 else 0 : Nat) : Int) := by
  rw [u64_wrap]
  split <;> omega
theorem SubInv.done {l f L : List Nat} {b N M : Nat} (h : SubInv l f L l.length b) (hN : Nrm 4294967296 l N) (hM : Nrm 4294967296 f M) (hle : M ≤ N) : valB 4294967296 L = N - M := by
  obtain ⟨h1, h2, h3, h4⟩ := h
  have hf : f.length ≤ l.length := by
    rcases Nat.lt_or_ge l.length f.length with h | h
    · have := hN.len_lt hM (by omega) h; omega
    · exact h
  rw [List.take_of_length_le (by omega), List.take_of_length_le hf, List.take_of_length_le (Nat.le_refl _), hN.1, hM.1] at h3
  have h5 := valB_lt h2
  rw [h1] at h5
  have : b = 0 ∨ b = 1 := by omega
  rcases this with rfl | rfl
  · omega
  · omega

/-- Sub's answers. -/
def RetSub (w : World) (x y : Nat) (e : Ending) (w' : World) : Prop :=
  (x < y → e = .returned (.tuple #[.slice none 0 0, .int .i64 19]) ∧ Below w.heap.size w w') ∧
  (y ≤ x → ∃ A k c l, e = .returned (.tuple #[.slice A k c, .int .i64 0]) ∧ k ≤ c ∧ Es w' w'.heap.size A k l ∧ Nrm 4294967296 l (x - y) ∧ Below w.heap.size w w')

set_option maxHeartbeats 4000000 in
theorem sub_any (A : Option Addr) (ds : List Nat) (n c : Nat) (hc : n ≤ c) (B : Option Addr) (fs : List Nat) (m d : Nat) (hd : m ≤ d) (w : World) (hr : Es w w.heap.size A n ds) (hs : Es w w.heap.size B m fs) (hn : n ≤ 1000000) :
    Calls Try.prog 39 #[.slice A n c, .slice B m d] w (RetSub w (valB 4294967296 ds) (valB 4294967296 fs)) := by
  have HR := Lib.hid hr; clear hr
  have HS := Lib.hid hs; clear hs
  go_enter Try.func39, Try.ntmps39
  go_wp2_with fail
  refine (trim_any A ds n c hc _ HR.out).mono ?_
  rintro e w1 ⟨k, l, rfl, hk, hl, hN, rfl⟩
  have H1 := Lib.hid hl; clear hl
  have N1 := Lib.hid hN; clear hN
  go_wp2_with fail
  refine (trim_any B fs m d hd _ HS.out).mono ?_
  rintro e w2 ⟨j, f, rfl, hj, hf, hM, rfl⟩
  have H2 := Lib.hid hf; clear hf
  have N2 := Lib.hid hM; clear hM
  have hk2 := H1.out.le
  have hj2 := H2.out.le
  go_wp2_with fail
  refine (ncmp_any A l k k (Nat.le_refl _) B f j j (Nat.le_refl _) _ H1.out H2.out).mono ?_
  rintro e w3 ⟨rfl, hb⟩
  rw [N1.out.1, N2.out.1]
  have HB := Lib.hid hb; clear hb
  by_cases hlt : valB 4294967296 ds < valB 4294967296 fs
  · rw [show cmpN (valB 4294967296 ds) (valB 4294967296 fs) = -1 by simp [cmpN, hlt]]
    have HLT := Lib.hid hlt; clear hlt
    go_wp2_with fail
    go_ret2
    exact ⟨fun _ => ⟨rfl, HB.out⟩, fun h => by have := HLT.out; omega⟩
  · have hge : 0 ≤ cmpN (valB 4294967296 ds) (valB 4294967296 fs) := by
      simp only [cmpN, if_neg hlt]; split <;> omega
    generalize cmpN (valB 4294967296 ds) (valB 4294967296 fs) = cv at *
    have HLT := Lib.hid hlt; clear hlt
    have hmk := mk_nat k (by omega)
    have hs3 := HB.out.size
    go_wp2_with fail
    clear hmk
    go_loopw [7, 8, 9, 23] (fun bv _ _ i wr => ∃ (i' b : Nat) (L : List Nat), i' ≤ k ∧ b ≤ 1 ∧ i = .int .i64 i' ∧ bv = .int .u64 b ∧ Hid (SubInv l f L i' b ∧ Blk wr w3.heap.size 25 (urow L) ∧ Below w.heap.size w wr)) (fun _ _ _ i _ => k - (intOf i).toNat)
    case atStart =>
      refine ⟨0, 0, zer k, Nat.zero_le _, by omega, rfl, rfl, Lib.hid ⟨⟨?_, ?_, ?_, by omega⟩, Blk.new _ _ _, HB.out.alloc HB.out.size _⟩⟩
      · rw [zer_length, H1.out.len]
      · intro d hd
        have := List.eq_of_mem_replicate hd
        omega
      · simp [valB]
    case round =>
      obtain ⟨i, b, L, hi, hb, rfl, rfl, HJ⟩ := hrel
      by_cases hlt : i < k
      · obtain ⟨ad, rfl, hb1, hcell⟩ := (H1.out.below HJ.out.2.2).at_ hlt
        have hli : i < l.length := by have := H1.out.len; omega
        have hd1 := H1.out.lt hlt
        have hL : i < L.length := by rw [HJ.out.1.1]; omega
        have cR : wr.cell? ⟨w3.heap.size, i, none⟩ = some (.int .u32 (nth L i : Int)) := by rw [HJ.out.2.1.cell, urow_get hL]
        have fR : wr.frozen? ⟨w3.heap.size, i, none⟩ = false := HJ.out.2.1.frozen i
        clear hL
        by_cases hf : i < j
        · obtain ⟨ad2, rfl, hb2, hcell2⟩ := (H2.out.below HJ.out.2.2).at_ hf
          have hfi : i < f.length := by have := H2.out.len; omega
          have hd2 := H2.out.lt hf
          have hst := Lib.hid (HJ.out.1.step hli H1.out.2.2 (y := nth f i) (by rw [if_pos hfi]) hd2)
          go_wp2_with fail
          rw [sub_lo _ _ _ hd1 hb hd2, sub_hi _ _ _ hd1 hb hd2]
          refine ⟨⟨i + 1, _, _, by omega, hst.out.2.2.2, by go_num, rfl, Lib.hid ⟨hst.out, ?_, HJ.out.2.2.setCell hs3 _⟩⟩, by simp [intOf]; omega⟩
          have := HJ.out.2.1.set_ i (.int .u32 (((nth l i + 4294967296 - b - nth f i) % 4294967296 : Nat) : Int))
          rwa [urow_set] at this
        · have hfi : ¬ i < f.length := by have := H2.out.len; omega
          have hst := Lib.hid (HJ.out.1.step hli H1.out.2.2 (y := 0) (by rw [if_neg hfi]) (by omega))
          go_wp2_with fail
          rw [sub_lo0 _ _ hd1 hb, sub_hi0 _ _ hd1 hb]
          refine ⟨⟨i + 1, _, _, by omega, hst.out.2.2.2, by go_num, rfl, Lib.hid ⟨hst.out, ?_, HJ.out.2.2.setCell hs3 _⟩⟩, by simp [intOf]; omega⟩
          have := HJ.out.2.1.set_ i (.int .u32 (((nth l i + 4294967296 - b - 0) % 4294967296 : Nat) : Int))
          rwa [urow_set] at this
      · obtain rfl : i = k := by omega
        go_wp2_with fail
        have hlen : L.length = i := by rw [HJ.out.1.1, H1.out.len]
        have hE := Es.of_blk HJ.out.2.1 (by omega) HJ.out.1.2.1
        rw [hlen] at hE
        have hv : valB 4294967296 L = valB 4294967296 ds - valB 4294967296 fs := by
          have h1 := HJ.out.1
          rw [H1.out.len] at h1
          exact h1.done N1.out N2.out (by have := HLT.out; omega)
        refine (trim_any _ _ i i (Nat.le_refl _) _ hE).mono ?_
        rintro e w4 ⟨k2, l2, rfl, hk2, hl2, hN2, rfl⟩
        rw [hv] at hN2
        have HE := Lib.hid hl2
        have HN := Lib.hid hN2
        clear hl2 hN2 hE hv hlen
        go_wp2_with fail
        go_ret2
        exact ⟨fun h => by have := HLT.out; omega, fun _ => ⟨_, k2, k2, l2, rfl, Nat.le_refl _, HE.out, HN.out, HJ.out.2.2⟩⟩

end Go.Proofs.Ytpnklmgfdihjfaa
namespace Go.Proofs.Ytpnklmgfdihjfaa
open Go.RowKit

/-- The product so far: i digits of l are done, of the next j digits of f. L is the row; cr the carry. -/
def MulInv (b : Nat) (l f L : List Nat) (i j cr : Nat) : Prop := L.length = l.length + f.length ∧ (∀ d ∈ L, d < b) ∧ cr < b ∧
  (∀ t, i + f.length ≤ t → t < L.length → nth L t = 0) ∧
  valB b L + b ^ (i + j) * cr = valB b (l.take i) * valB b f + b ^ i * (nth l i * valB b (f.take j))

theorem mul_bound {a b c d : Nat} (ha : a < 4294967296) (hb : b < 4294967296) (hc : c < 4294967296) (hd : d < 4294967296) : d + (a * b + c) < 18446744073709551616 := by
  have : a * b ≤ 4294967295 * 4294967295 := Nat.mul_le_mul (by omega) (by omega)
  omega
theorem mul_bound' {p a b c d : Nat} (ha : a < p) (hb : b < p) (hc : c < p) (hd : d < p) : d + (a * b + c) < p * p := by
  obtain ⟨q, rfl⟩ : ∃ q, p = q + 1 := ⟨p - 1, by omega⟩
  have h : a * b ≤ q * q := Nat.mul_le_mul (by omega) (by omega)
  have e : (q + 1) * (q + 1) = q * q + q + q + 1 := by rw [Nat.add_mul, Nat.mul_add]; omega
  omega
theorem MulInv.step {p : Nat} {l f L : List Nat} {i j cr s : Nat} (h : MulInv p l f L i j cr) (hi : i < l.length) (hj : j < f.length) (hl : ∀ d ∈ l, d < p) (hf : ∀ d ∈ f, d < p)
    (hs : s = cr + (nth l i * nth f j + nth L (i + j))) : MulInv p l f (L.set (i + j) (s % p)) i (j + 1) (s / p) := by
  obtain ⟨h1, h2, h3, h4, h5⟩ := h
  have d1 := hl _ (nth_mem hi)
  have d2 := hf _ (nth_mem hj)
  have d3 := h2 _ (nth_mem (show i + j < L.length by omega))
  have hb := mul_bound' d1 d2 d3 h3
  rw [← hs] at hb
  refine ⟨by rw [List.length_set]; exact h1, mem_set h2 (Nat.mod_lt _ (by omega)), Nat.div_lt_of_lt_mul hb, fun t ht1 ht2 => ?_, ?_⟩
  · rw [nth_set (by omega), if_neg (by omega)]
    exact h4 t ht1 (by rw [List.length_set] at ht2; exact ht2)
  · have e1 := valB_set (b := p) (l := L) (k := i + j) (x := s % p) (by omega)
    have e2 := valB_take (b := p) hj
    rw [e2]
    have e3 : p ^ (i + (j + 1)) * (s / p) = p ^ (i + j) * (p * (s / p)) := by
      rw [← Nat.add_assoc, Nat.pow_succ, Nat.mul_assoc]
    have e4 : p ^ (i + j) * s = p ^ (i + j) * cr + p ^ (i + j) * (nth l i * nth f j) + p ^ (i + j) * nth L (i + j) := by
      rw [hs, Nat.mul_add, Nat.mul_add, Nat.add_assoc]
    have e5 : p ^ (i + j) * (s % p) + p ^ (i + j) * (p * (s / p)) = p ^ (i + j) * s := by
      rw [← Nat.mul_add, Nat.mod_add_div]
    have e6 : p ^ i * (nth l i * (valB p (f.take j) + p ^ j * nth f j)) = p ^ i * (nth l i * valB p (f.take j)) + p ^ (i + j) * (nth l i * nth f j) := by
      rw [Nat.mul_add, Nat.mul_add, Nat.pow_add]
      congr 1
      rw [Nat.mul_assoc (p ^ i), Nat.mul_left_comm (nth l i)]
    rw [e3, e6]
    omega
theorem MulInv.row {p : Nat} {l f L : List Nat} {i cr : Nat} (h : MulInv p l f L i f.length cr) (hi : i < l.length) : MulInv p l f (L.set (i + f.length) cr) (i + 1) 0 0 := by
  obtain ⟨h1, h2, h3, h4, h5⟩ := h
  have h0 := h4 (i + f.length) (Nat.le_refl _) (by omega)
  refine ⟨by rw [List.length_set]; exact h1, mem_set h2 h3, by omega, fun t ht1 ht2 => ?_, ?_⟩
  · rw [nth_set (by omega), if_neg (by omega)]
    exact h4 t (by omega) (by rw [List.length_set] at ht2; exact ht2)
  · have e1 := valB_set (b := p) (l := L) (k := i + f.length) (x := cr) (by omega)
    rw [h0, Nat.mul_zero, Nat.add_zero] at e1
    rw [List.take_length] at h5
    have e2 := valB_take (b := p) hi
    rw [e1, h5, e2, Nat.add_mul, Nat.mul_assoc]
    simp [valB]

set_option maxHeartbeats 4000000 in
theorem mul_any (A : Option Addr) (ds : List Nat) (n c : Nat) (hc : n ≤ c) (B : Option Addr) (fs : List Nat) (m d : Nat) (hd : m ≤ d) (w : World) (hr : Es w w.heap.size A n ds) (hs : Es w w.heap.size B m fs) (hn : n ≤ 1000000) (hm : m ≤ 1000000) :
    Calls Try.prog 19 #[.slice A n c, .slice B m d] w (RetNat w (valB 4294967296 ds * valB 4294967296 fs)) := by
  have HR := Lib.hid hr; clear hr
  have HS := Lib.hid hs; clear hs
  go_enter Try.func19, Try.ntmps19
  go_wp2_with fail
  refine (trim_any A ds n c hc _ HR.out).mono ?_
  rintro e w1 ⟨k, l, rfl, hk, hl, hN, rfl⟩
  have H1 := Lib.hid hl; clear hl
  have N1 := Lib.hid hN; clear hN
  go_wp2_with fail
  refine (trim_any B fs m d hd _ HS.out).mono ?_
  rintro e w2 ⟨j, f, rfl, hj, hf, hM, rfl⟩
  have H2 := Lib.hid hf; clear hf
  have N2 := Lib.hid hM; clear hM
  have hmk := mk_nat (k + j) (by omega)
  simp only [Int.natCast_add] at hmk
  go_wp2_with fail
  clear hmk
  go_loopw [6, 7, 8, 21] (fun _ _ _ i wr => ∃ (i' : Nat) (L : List Nat), i' ≤ k ∧ i = .int .i64 i' ∧ Hid (MulInv 4294967296 l f L i' 0 0 ∧ Blk wr w.heap.size 25 (urow L) ∧ Below w.heap.size w wr)) (fun _ _ _ i _ => k - (intOf i).toNat)
  case atStart =>
    refine ⟨0, zer (k + j), Nat.zero_le _, rfl, Lib.hid ⟨⟨?_, ?_, by omega, ?_, ?_⟩, Blk.new _ _ _, al _ _⟩⟩
    · rw [zer_length, ← H1.out.len, ← H2.out.len]
    · intro d hd
      have := List.eq_of_mem_replicate hd
      omega
    · intro t _ _; exact nth_zer _ _
    · simp [valB, zer, valB_zero]
  case round =>
    obtain ⟨i, L, hi, rfl, HJ⟩ := hrel
    by_cases hlt : i < k
    · have hli : i < l.length := by have := H1.out.len; omega
      have hd1 := H1.out.lt hlt
      obtain ⟨wo, rfl⟩ : ∃ wo : World, wo = wr := ⟨_, rfl⟩
      go_wp2_with fail
      go_loopw [7, 8, 26] (fun cv _ q wr => ∃ (j' cr : Nat) (L : List Nat), j' ≤ j ∧ cr < 4294967296 ∧ q = .int .i64 j' ∧ cv = .int .u64 cr ∧ Hid (MulInv 4294967296 l f L i j' cr ∧ Blk wr w.heap.size 25 (urow L) ∧ Below w.heap.size w wr)) (fun _ _ q _ => j - (intOf q).toNat)
      case atStart => exact ⟨0, 0, L, Nat.zero_le _, by omega, rfl, rfl, HJ⟩
      case round =>
        obtain ⟨j', cr, L, hj', hcr, rfl, rfl, HJ⟩ := hrel
        by_cases hjt : j' < j
        · obtain ⟨ad, rfl, hb1, hcell⟩ := (H1.out.below HJ.out.2.2).at_ hlt
          obtain ⟨ad2, rfl, hb2, hcell2⟩ := (H2.out.below HJ.out.2.2).at_ hjt
          have hfj : j' < f.length := by have := H2.out.len; omega
          have hd2 := H2.out.lt hjt
          have hL : i + j' < L.length := by rw [HJ.out.1.1]; omega
          have hd3 := HJ.out.1.2.1 _ (nth_mem hL)
          have cR : wr.cell? ⟨w.heap.size, i + j', none⟩ = some (.int .u32 (nth L (i + j') : Int)) := by rw [HJ.out.2.1.cell, urow_get hL]
          have fR : wr.frozen? ⟨w.heap.size, i + j', none⟩ = false := HJ.out.2.1.frozen _
          clear hL
          have hbd := mul_bound hd1 hd2 hd3 hcr
          have hst := Lib.hid (HJ.out.1.step hli hfj H1.out.2.2 H2.out.2.2 rfl)
          have i1 : IntKind.i64.wrap ((i : Int) + (j' : Int)) = (i : Int) + (j' : Int) := IntWalk.i64_in _ (by omega)
          have i2 : (0 : Int) ≤ (i : Int) + (j' : Int) := by omega
          have i3 : ((i : Int) + (j' : Int)).toNat = i + j' := by omega
          have i4 : (i : Int) + (j' : Int) < ((k + j : Nat) : Int) := by omega
          go_wp2_with fail
          go_quiet (fail)
          rw [show ((cr : Int) + ((nth l i : Int) * (nth f j' : Int) + (nth L (i + j') : Int))) = ((cr + (nth l i * nth f j' + nth L (i + j')) : Nat) : Int) by simp]
          generalize cr + (nth l i * nth f j' + nth L (i + j')) = sm at *
          clear i1 i2 i3 i4
          go_wp2_with fail
          have hset := (HJ.out.2.1.drewN nq).set_ (i + j') (.int .u32 ((sm % 4294967296 : Nat) : Int))
          rw [urow_set] at hset
          refine ⟨⟨j' + 1, sm / 4294967296, _, by omega, hst.out.2.2.1, by go_num, by simp, Lib.hid ⟨hst.out, ?_, (below_drewN HJ.out.2.2 _).setCell (Nat.le_refl _) _⟩⟩, by simp [intOf]; omega⟩
          simpa using hset
        · obtain rfl : j' = j := by omega
          have hL : i + j' < L.length := by rw [HJ.out.1.1, ← H2.out.len]; omega
          have cR : wr.cell? ⟨w.heap.size, i + j', none⟩ = some (.int .u32 (nth L (i + j') : Int)) := by rw [HJ.out.2.1.cell, urow_get hL]
          have fR : wr.frozen? ⟨w.heap.size, i + j', none⟩ = false := HJ.out.2.1.frozen _
          have HL := Lib.hid hL; clear hL
          go_wp2_with fail
          have hset := HJ.out.2.1.set_ (i + j') (.int .u32 (cr : Int))
          rw [urow_set] at hset
          have h1 := HJ.out.1
          rw [H2.out.len] at h1
          have h2 := h1.row hli
          rw [← H2.out.len] at h2
          exact ⟨⟨i + 1, _, by omega, by go_num, Lib.hid ⟨h2, hset, HJ.out.2.2.setCell (Nat.le_refl _) _⟩⟩, by simp [intOf]; omega⟩
    · obtain rfl : i = k := by omega
      go_wp2_with fail
      have hlen : L.length = i + j := by rw [HJ.out.1.1, H1.out.len, H2.out.len]
      have hE := Es.of_blk HJ.out.2.1 (by omega) HJ.out.1.2.1
      rw [hlen] at hE
      have hv : valB 4294967296 L = valB 4294967296 ds * valB 4294967296 fs := by
        have h1 := HJ.out.1.2.2.2.2
        rw [List.take_of_length_le (by rw [H1.out.len]; exact Nat.le_refl _), N1.out.1, N2.out.1] at h1
        simpa [valB] using h1
      refine (trim_any _ _ (i + j) (i + j) (Nat.le_refl _) _ hE).mono ?_
      rintro e w4 ⟨k2, l2, rfl, hk2, hl2, hN2, rfl⟩
      rw [hv] at hN2
      have HE := Lib.hid hl2
      have HN := Lib.hid hN2
      clear hl2 hN2 hE hv hlen
      go_wp2_with fail
      go_ret
      exact ⟨_, k2, k2, l2, rfl, Nat.le_refl _, HE.out, HN.out, HJ.out.2.2⟩

end Go.Proofs.Ytpnklmgfdihjfaa
namespace Go.Proofs.Ytpnklmgfdihjfaa
open Go.RowKit

def SpInv (p : Nat) (S0 S v : List Nat) (f i cr bw : Nat) : Prop := S.length = S0.length ∧ (∀ d ∈ S, d < p) ∧ cr < p ∧ bw ≤ 1 ∧ S.drop i = S0.drop i ∧ valB p (S.take i) + f * valB p (v.take i) = valB p (S0.take i) + p ^ i * (cr + bw)
theorem nth_of_drop {L M : List Nat} {i k : Nat} (h : L.drop i = M.drop i) (hk : i ≤ k) : nth L k = nth M k := by
  have h1 : (L.drop i)[k - i]? = (M.drop i)[k - i]? := by rw [h]
  simp only [List.getElem?_drop, show i + (k - i) = k by omega] at h1
  simp [nth, List.getD, h1]
theorem SpInv.step {p : Nat} {S0 S v : List Nat} {f i cr bw c x b : Nat} (h : SpInv p S0 S v f i cr bw) (hi : i < v.length) (hS : i < S0.length) (d0 : ∀ d ∈ S0, d < p) (dv : ∀ d ∈ v, d < p) (hf : f < p)
    (hc : c = cr + f * nth v i) (hx : x + c % p + bw = nth S0 i + p * b) (hxp : x < p) (hb : b ≤ 1) : SpInv p S0 (S.set i x) v f (i + 1) (c / p) b ∧ c < p * p := by
  obtain ⟨h1, h2, h3, h4, h5, h6⟩ := h
  have e0 := d0 _ (nth_mem hS)
  have e1 := dv _ (nth_mem hi)
  have hcp : c < p * p := by have := mul_bound' hf e1 h3 (show 0 < p by omega); omega
  refine ⟨⟨by rw [List.length_set]; exact h1, mem_set h2 hxp, Nat.div_lt_of_lt_mul hcp, hb, ?_, ?_⟩, hcp⟩
  · rw [List.drop_set, if_pos (by omega)]
    have := congrArg (List.drop 1) h5
    rw [List.drop_drop, List.drop_drop] at this
    exact this
  · rw [take_set_lt (by omega), valB_snoc, List.length_take, Nat.min_eq_left (by omega), valB_take hi, valB_take hS, Nat.mul_add, Nat.pow_succ]
    have q1 : f * (p ^ i * nth v i) = p ^ i * (f * nth v i) := by rw [Nat.mul_left_comm]
    have q2 : p ^ i * p * (c / p + b) = p ^ i * (p * (c / p)) + p ^ i * (p * b) := by rw [Nat.mul_assoc, Nat.mul_add, Nat.mul_add]
    have q3 : p ^ i * x + p ^ i * (c % p) + p ^ i * bw = p ^ i * nth S0 i + p ^ i * (p * b) := by rw [← Nat.mul_add, ← Nat.mul_add, hx, Nat.mul_add]
    have q4 : p ^ i * (c % p) + p ^ i * (p * (c / p)) = p ^ i * cr + p ^ i * (f * nth v i) := by rw [← Nat.mul_add, Nat.mod_add_div, hc, Nat.mul_add]
    have q5 : p ^ i * (cr + bw) = p ^ i * cr + p ^ i * bw := Nat.mul_add _ _ _
    rw [q1, q2]
    omega
/-- The end: the top digit. -/
theorem SpInv.done {p : Nat} {S0 S v : List Nat} {f n cr bw x b : Nat} (h : SpInv p S0 S v f n cr bw) (hS : S0.length = n + 1) (hv : v.length = n)
    (hx : x + cr + bw = nth S0 n + p * b) (hxp : x < p) (hb : b ≤ 1) :
    (b = 0 → f * valB p v ≤ valB p S0 ∧ valB p (S.set n x) = valB p S0 - f * valB p v) ∧ (b = 1 → valB p S0 < f * valB p v ∧ valB p (S.set n x) + f * valB p v = valB p S0 + p ^ (n + 1)) := by
  obtain ⟨h1, h2, h3, h4, h5, h6⟩ := h
  have e1 : valB p (S.set n x) = valB p (S.take n) + p ^ n * x := by
    have : (S.set n x).take (n + 1) = S.set n x := List.take_of_length_le (by rw [List.length_set]; omega)
    rw [← this, take_set_lt (by omega), valB_snoc, List.length_take, Nat.min_eq_left (by omega)]
  have e2 : valB p S0 = valB p (S0.take n) + p ^ n * nth S0 n := by
    have := valB_take (b := p) (l := S0) (k := n) (by omega)
    rwa [List.take_of_length_le (by omega)] at this
  rw [List.take_of_length_le (by omega : v.length ≤ n)] at h6
  have e3 : p ^ n * x + p ^ n * cr + p ^ n * bw = p ^ n * nth S0 n + p ^ n * (p * b) := by rw [← Nat.mul_add, ← Nat.mul_add, hx, Nat.mul_add]
  have e4 : p ^ n * (cr + bw) = p ^ n * cr + p ^ n * bw := Nat.mul_add _ _ _
  have hlt : valB p (S.set n x) < p ^ (n + 1) := by
    have := valB_lt (b := p) (l := S.set n x) (mem_set h2 hxp)
    rwa [List.length_set, h1, hS] at this
  constructor
  · rintro rfl
    simp only [Nat.mul_zero] at e3
    constructor <;> omega
  · rintro rfl
    have e5 : p ^ n * (p * 1) = p ^ (n + 1) := by rw [Nat.mul_one, Nat.pow_succ]
    rw [e5] at e3
    constructor <;> omega

theorem sp_lo (a y b : Nat) (ha : a < 4294967296) (hy : y < 4294967296) (hb : b ≤ 1) : IntKind.u64.wrap (IntKind.u64.wrap ((a : Int) - y) - b) % 4294967296 = (((a + 8589934592 - y - b) % 4294967296 : Nat) : Int) := by
  rw [u64_wrap, u64_wrap]; omega
theorem sp_hi (a y b : Nat) (ha : a < 4294967296) (hy : y < 4294967296) (hb : b ≤ 1) : IntKind.u64.wrap (IntKind.u64.wrap ((a : Int) - y) - b) / 9223372036854775808 = ((if a < y + b then 1 else 0 : Nat) : Int) := by
  rw [u64_wrap, u64_wrap]
  split <;> omega
theorem mask_nat (c : Nat) (h : c < 18446744073709551616) : bits .and .u64 (c : Int) 4294967295 = ((c % 4294967296 : Nat) : Int) := by
  rw [show (4294967295 : Int) = ((4294967295 : Nat) : Int) from rfl, u64_and_nat _ _ h (by omega)]
  have := Nat.and_two_pow_sub_one_eq_mod c 32
  simp only [show (2 : Nat) ^ 32 - 1 = 4294967295 from rfl, show (2 : Nat) ^ 32 = 4294967296 from rfl] at this
  rw [this]
theorem sp_digit (a y b : Nat) (ha : a < 4294967296) (hy : y < 4294967296) (hb : b ≤ 1) : (a + 8589934592 - y - b) % 4294967296 + y + b = a + 4294967296 * (if a < y + b then 1 else 0) := by
  split <;> omega

/-- subProduct's answer. -/
def RetSp (w : World) (g : Nat) (t : TypeId) (P S R : List Nat) (X : List Value) (v : List Nat) (f : Nat) (e : Ending) (w' : World) : Prop :=
  ∃ (S' : List Nat) (neg : Bool), e = .returned (.bool neg) ∧ S'.length = S.length ∧ (∀ d ∈ S', d < 4294967296) ∧ Blk w' g t (urowX (P ++ S' ++ R) X) ∧ w.grownBy w' (some g) ∧
    (neg = false → f * valB 4294967296 v ≤ valB 4294967296 S ∧ valB 4294967296 S' = valB 4294967296 S - f * valB 4294967296 v) ∧
    (neg = true → valB 4294967296 S < f * valB 4294967296 v ∧ valB 4294967296 S' + f * valB 4294967296 v = valB 4294967296 S + 4294967296 ^ S.length)

set_option maxHeartbeats 4000000 in
theorem subProduct_any (g gv j N n c d f : Nat) (P S R v : List Nat) (X Xv : List Value) (w : World) (hb : Blk w g 25 (urowX (P ++ S ++ R) X)) (hbv : Blk w gv 25 (urowX v Xv)) (hg : g ≠ gv) (hj : P.length = j) (hN : N = n + 1) (hS : S.length = N) (hv : v.length = n)
    (dS : ∀ d ∈ S, d < 4294967296) (dv : ∀ d ∈ v, d < 4294967296) (hf : f < 4294967296) (hn : n ≤ 1000000) :
    Calls Try.prog 104 #[.slice (some ⟨g, j, none⟩) N c, .slice (some ⟨gv, 0, none⟩) n d, .int .u64 f] w (RetSp w g 25 P S R X v f) := by
  have HB := Lib.hid hb; clear hb
  have HV := Lib.hid hbv; clear hbv
  have HE := Lib.hid (And.intro hj (And.intro hS hv)); clear hj hS hv
  have HD := Lib.hid (And.intro dS dv); clear dS dv
  have hnN : n < N := by omega
  have HN := Lib.hid hN; clear hN
  have HG := Lib.hid hg; clear hg
  go_enter Try.func104, Try.ntmps104
  go_wp2_with fail
  go_loopw [7, 8, 9, 10, 14] (fun cv bv _ _ i wr => ∃ (i' cr bw : Nat) (S' : List Nat), i' ≤ n ∧ i = .int .i64 i' ∧ cv = .int .u64 cr ∧ bv = .int .u64 bw ∧ cr < 4294967296 ∧ bw ≤ 1 ∧ Hid (SpInv 4294967296 S S' v f i' cr bw ∧ Blk wr g 25 (urowX (P ++ S' ++ R) X) ∧ w.grownBy wr (some g))) (fun _ _ _ _ i _ => n - (intOf i).toNat)
  case atStart =>
    refine ⟨0, 0, 0, S, Nat.zero_le _, rfl, rfl, rfl, by omega, by omega, Lib.hid ⟨⟨rfl, HD.out.1, by omega, by omega, rfl, ?_⟩, HB.out, World.grownBy.refl w _⟩⟩
    simp [valB]
  case round =>
    obtain ⟨i, cr, bw, S', hi, rfl, rfl, rfl, hcr, hbw, HJ⟩ := hrel
    by_cases hlt : i < n
    · have hvi : i < v.length := by rw [HE.out.2.2]; exact hlt
      have hSi : i < S.length := by rw [HE.out.2.1]; omega
      have hS'i : i < S'.length := by rw [HJ.out.1.1]; exact hSi
      have hbv := HV.out.grown HJ.out.2.2 (by intro e; cases e; exact HG.out rfl)
      have cV : wr.cell? ⟨gv, i, none⟩ = some (.int .u32 (nth v i : Int)) := by rw [hbv.cell, urowX_get hvi]
      have hx : nth S' i = nth S i := nth_of_drop HJ.out.1.2.2.2.2.1 (Nat.le_refl _)
      have cS : wr.cell? ⟨g, j + i, none⟩ = some (.int .u32 (nth S i : Int)) := by
        rw [HJ.out.2.1.cell, urowX_get (by simp [HE.out.1]; omega), nth_mid HE.out.1 hS'i, hx]
      have fS : wr.frozen? ⟨g, j + i, none⟩ = false := HJ.out.2.1.frozen _
      have dv1 := HD.out.2 _ (nth_mem hvi)
      have ds1 := HD.out.1 _ (nth_mem hSi)
      have HX := Lib.hid (And.intro hvi (And.intro hSi hS'i)); clear hvi hSi hS'i hbv hx
      have hbd : cr + f * nth v i < 18446744073709551616 := by
        have : f * nth v i ≤ 4294967295 * 4294967295 := Nat.mul_le_mul (by omega) (by omega)
        omega
      have hprod : f * nth v i < 18446744073709551616 := by omega
      go_wp2_with fail
      rw [show ((cr : Int) + (f : Int) * (nth v i : Int)) = ((cr + f * nth v i : Nat) : Int) by simp, mask_nat _ hbd]
      have hy : (cr + f * nth v i) % 4294967296 < 4294967296 := Nat.mod_lt _ (by omega)
      rw [sp_lo _ _ _ ds1 hy hbw, sp_hi _ _ _ ds1 hy hbw]
      have hst := (HJ.out.1.step HX.out.1 HX.out.2.1 HD.out.1 HD.out.2 hf rfl (sp_digit _ _ _ ds1 hy hbw) (Nat.mod_lt _ (by omega)) (by split <;> omega)).1
      have hset := HJ.out.2.1.set_ (j + i) (.int .u32 (((nth S i + 8589934592 - (cr + f * nth v i) % 4294967296 - bw) % 4294967296 : Nat) : Int))
      rw [urowX_set _ _ _ _ (by have h1 := HE.out.1; have h2 := HX.out.2.2; simp; omega), set_mid HE.out.1 HX.out.2.2] at hset
      exact ⟨⟨i + 1, _, _, _, by omega, by go_num, vint_eq (by simp), rfl, hst.2.2.1, hst.2.2.2.1, Lib.hid ⟨hst, hset, only_setCell HJ.out.2.2 (.inl rfl) _⟩⟩, by simp [intOf]; omega⟩
    · obtain rfl : i = n := by omega
      have hSi : i < S.length := by rw [HE.out.2.1]; omega
      have hS'i : i < S'.length := by rw [HJ.out.1.1]; exact hSi
      have hx : nth S' i = nth S i := nth_of_drop HJ.out.1.2.2.2.2.1 (Nat.le_refl _)
      have cS : wr.cell? ⟨g, j + i, none⟩ = some (.int .u32 (nth S i : Int)) := by
        rw [HJ.out.2.1.cell, urowX_get (by simp [HE.out.1]; omega), nth_mid HE.out.1 hS'i, hx]
      have fS : wr.frozen? ⟨g, j + i, none⟩ = false := HJ.out.2.1.frozen _
      have ds1 := HD.out.1 _ (nth_mem hSi)
      have HX := Lib.hid hS'i; clear hSi hS'i hx
      go_wp2_with fail
      go_ret
      rw [sp_lo _ _ _ ds1 hcr hbw, sp_hi _ _ _ ds1 hcr hbw]
      have hset := HJ.out.2.1.set_ (j + i) (.int .u32 (((nth S i + 8589934592 - cr - bw) % 4294967296 : Nat) : Int))
      rw [urowX_set _ _ _ _ (by have h1 := HE.out.1; have h2 := HX.out; simp; omega), set_mid HE.out.1 HX.out] at hset
      have hdn := HJ.out.1.done (by rw [HE.out.2.1]; exact HN.out) HE.out.2.2 (sp_digit _ _ _ ds1 hcr hbw) (Nat.mod_lt _ (by omega)) (by split <;> omega)
      refine ⟨_, decide (nth S i < cr + bw), ret_bool ?_, by rw [List.length_set]; exact HJ.out.1.1, mem_set HJ.out.1.2.1 (Nat.mod_lt _ (by omega)), hset, only_setCell HJ.out.2.2 (.inl rfl) _, fun h => ?_, fun h => ?_⟩
      · by_cases h : nth S i < cr + bw <;> simp [h]
      · exact hdn.1 (by simp at h; rw [if_neg (by omega)])
      · have := hdn.2 (by simp at h; rw [if_pos h])
        rw [HE.out.2.1, HN.out]
        exact this

/-- addBack so far. -/
def AbInv (p : Nat) (S0 S v : List Nat) (i cr : Nat) : Prop := S.length = S0.length ∧ (∀ d ∈ S, d < p) ∧ cr ≤ 1 ∧ S.drop i = S0.drop i ∧ valB p (S.take i) + p ^ i * cr = valB p (S0.take i) + valB p (v.take i)
theorem AbInv.step {p : Nat} {S0 S v : List Nat} {i cr s : Nat} (h : AbInv p S0 S v i cr) (hi : i < v.length) (hS : i < S0.length) (d0 : ∀ d ∈ S0, d < p) (dv : ∀ d ∈ v, d < p)
    (hs : s = cr + (nth S0 i + nth v i)) : AbInv p S0 (S.set i (s % p)) v (i + 1) (s / p) := by
  obtain ⟨h1, h2, h3, h4, h5⟩ := h
  have e0 := d0 _ (nth_mem hS)
  have e1 := dv _ (nth_mem hi)
  have hp : 0 < p := by omega
  refine ⟨by rw [List.length_set]; exact h1, mem_set h2 (Nat.mod_lt _ hp), ?_, ?_, ?_⟩
  · have : s < p * 2 := by omega
    have := Nat.div_lt_of_lt_mul this
    omega
  · rw [List.drop_set, if_pos (by omega)]
    have := congrArg (List.drop 1) h4
    rw [List.drop_drop, List.drop_drop] at this
    exact this
  · rw [take_set_lt (by omega), valB_snoc, List.length_take, Nat.min_eq_left (by omega), valB_take hi, valB_take hS, Nat.pow_succ]
    have q1 : p ^ i * (s % p) + p ^ i * p * (s / p) = p ^ i * s := by rw [Nat.mul_assoc, ← Nat.mul_add, Nat.mod_add_div]
    rw [Nat.add_assoc, q1, hs, Nat.mul_add, Nat.mul_add]
    omega
theorem AbInv.done {p : Nat} {S0 S v : List Nat} {n cr : Nat} (h : AbInv p S0 S v n cr) (hS : S0.length = n + 1) (hv : v.length = n) :
    valB p (S.set n ((nth S0 n + cr) % p)) % p ^ (n + 1) = (valB p S0 + valB p v) % p ^ (n + 1) := by
  obtain ⟨h1, h2, h3, h4, h5⟩ := h
  have e1 : valB p (S.set n ((nth S0 n + cr) % p)) = valB p (S.take n) + p ^ n * ((nth S0 n + cr) % p) := by
    have : (S.set n ((nth S0 n + cr) % p)).take (n + 1) = S.set n ((nth S0 n + cr) % p) := List.take_of_length_le (by rw [List.length_set]; omega)
    rw [← this, take_set_lt (by omega), valB_snoc, List.length_take, Nat.min_eq_left (by omega)]
  have e2 : valB p S0 = valB p (S0.take n) + p ^ n * nth S0 n := by
    have := valB_take (b := p) (l := S0) (k := n) (by omega)
    rwa [List.take_of_length_le (by omega)] at this
  rw [List.take_of_length_le (by omega : v.length ≤ n)] at h5
  have e3 : p ^ n * (nth S0 n + cr) = p ^ n * ((nth S0 n + cr) % p) + p ^ (n + 1) * ((nth S0 n + cr) / p) := by
    rw [Nat.pow_succ, Nat.mul_assoc, ← Nat.mul_add, Nat.mod_add_div]
  have e4 : p ^ n * (nth S0 n + cr) = p ^ n * nth S0 n + p ^ n * cr := Nat.mul_add _ _ _
  have e5 : valB p S0 + valB p v = valB p (S.set n ((nth S0 n + cr) % p)) + p ^ (n + 1) * ((nth S0 n + cr) / p) := by omega
  rw [e5, Nat.add_mul_mod_self_left]

/-- addBack's answer. -/
def RetAb (w : World) (g : Nat) (t : TypeId) (P S R : List Nat) (X : List Value) (v : List Nat) (e : Ending) (w' : World) : Prop :=
  ∃ S' : List Nat, e = .returned (.tuple #[]) ∧ S'.length = S.length ∧ (∀ d ∈ S', d < 4294967296) ∧ Blk w' g t (urowX (P ++ S' ++ R) X) ∧ w.grownBy w' (some g) ∧
    valB 4294967296 S' % 4294967296 ^ S.length = (valB 4294967296 S + valB 4294967296 v) % 4294967296 ^ S.length

set_option maxHeartbeats 4000000 in
theorem addBack_any (g gv j N n c d : Nat) (P S R v : List Nat) (X Xv : List Value) (w : World) (hb : Blk w g 25 (urowX (P ++ S ++ R) X)) (hbv : Blk w gv 25 (urowX v Xv)) (hg : g ≠ gv) (hj : P.length = j) (hN : N = n + 1) (hS : S.length = N) (hv : v.length = n)
    (dS : ∀ d ∈ S, d < 4294967296) (dv : ∀ d ∈ v, d < 4294967296) (hn : n ≤ 1000000) :
    Calls Try.prog 105 #[.slice (some ⟨g, j, none⟩) N c, .slice (some ⟨gv, 0, none⟩) n d] w (RetAb w g 25 P S R X v) := by
  have HB := Lib.hid hb; clear hb
  have HV := Lib.hid hbv; clear hbv
  have HE := Lib.hid (And.intro hj (And.intro hS hv)); clear hj hS hv
  have HD := Lib.hid (And.intro dS dv); clear dS dv
  have hnN : n < N := by omega
  have HN := Lib.hid hN; clear hN
  have HG := Lib.hid hg; clear hg
  go_enter Try.func105, Try.ntmps105
  go_wp2_with fail
  go_loopw [4, 5, 8] (fun cv _ i wr => ∃ (i' cr : Nat) (S' : List Nat), i' ≤ n ∧ i = .int .i64 i' ∧ cv = .int .u64 cr ∧ cr ≤ 1 ∧ Hid (AbInv 4294967296 S S' v i' cr ∧ Blk wr g 25 (urowX (P ++ S' ++ R) X) ∧ w.grownBy wr (some g))) (fun _ _ i _ => n - (intOf i).toNat)
  case atStart =>
    refine ⟨0, 0, S, Nat.zero_le _, rfl, rfl, by omega, Lib.hid ⟨⟨rfl, HD.out.1, by omega, rfl, ?_⟩, HB.out, World.grownBy.refl w _⟩⟩
    simp [valB]
  case round =>
    obtain ⟨i, cr, S', hi, rfl, rfl, hcr, HJ⟩ := hrel
    by_cases hlt : i < n
    · have hvi : i < v.length := by rw [HE.out.2.2]; exact hlt
      have hSi : i < S.length := by rw [HE.out.2.1]; omega
      have hS'i : i < S'.length := by rw [HJ.out.1.1]; exact hSi
      have hbv := HV.out.grown HJ.out.2.2 (by intro e; cases e; exact HG.out rfl)
      have cV : wr.cell? ⟨gv, i, none⟩ = some (.int .u32 (nth v i : Int)) := by rw [hbv.cell, urowX_get hvi]
      have hx : nth S' i = nth S i := nth_of_drop HJ.out.1.2.2.2.1 (Nat.le_refl _)
      have cS : wr.cell? ⟨g, j + i, none⟩ = some (.int .u32 (nth S i : Int)) := by
        rw [HJ.out.2.1.cell, urowX_get (by simp [HE.out.1]; omega), nth_mid HE.out.1 hS'i, hx]
      have fS : wr.frozen? ⟨g, j + i, none⟩ = false := HJ.out.2.1.frozen _
      have dv1 := HD.out.2 _ (nth_mem hvi)
      have ds1 := HD.out.1 _ (nth_mem hSi)
      have HX := Lib.hid (And.intro hvi (And.intro hSi hS'i)); clear hvi hSi hS'i hbv hx
      go_wp2_with fail
      go_quiet (fail)
      go_wp2_with fail
      rw [show ((cr : Int) + ((nth S i : Int) + (nth v i : Int))) = ((cr + (nth S i + nth v i) : Nat) : Int) by simp]
      have hst := HJ.out.1.step HX.out.1 HX.out.2.1 HD.out.1 HD.out.2 rfl
      have hset := (HJ.out.2.1.drewN nq).set_ (j + i) (.int .u32 (((cr + (nth S i + nth v i)) % 4294967296 : Nat) : Int))
      rw [urowX_set _ _ _ _ (by have h1 := HE.out.1; have h2 := HX.out.2.2; simp; omega), set_mid HE.out.1 HX.out.2.2] at hset
      refine ⟨⟨i + 1, _, _, by omega, by go_num, vint_eq (by simp), hst.2.2.1, Lib.hid ⟨hst, ?_, only_setCell (only_drewN HJ.out.2.2 _) (.inl rfl) _⟩⟩, by simp [intOf]; omega⟩
      simpa using hset
    · obtain rfl : i = n := by omega
      have hSi : i < S.length := by rw [HE.out.2.1]; omega
      have hS'i : i < S'.length := by rw [HJ.out.1.1]; exact hSi
      have hx : nth S' i = nth S i := nth_of_drop HJ.out.1.2.2.2.1 (Nat.le_refl _)
      have cS : wr.cell? ⟨g, j + i, none⟩ = some (.int .u32 (nth S i : Int)) := by
        rw [HJ.out.2.1.cell, urowX_get (by simp [HE.out.1]; omega), nth_mid HE.out.1 hS'i, hx]
      have fS : wr.frozen? ⟨g, j + i, none⟩ = false := HJ.out.2.1.frozen _
      have ds1 := HD.out.1 _ (nth_mem hSi)
      have HX := Lib.hid hS'i; clear hSi hS'i hx
      go_wp2_with fail
      refine bodyPost_end (results_none rfl _ _ _) rfl ?_
      rw [show (((nth S i : Int) + (cr : Int)) % 4294967296) = (((nth S i + cr) % 4294967296 : Nat) : Int) by simp]
      have hset := HJ.out.2.1.set_ (j + i) (.int .u32 (((nth S i + cr) % 4294967296 : Nat) : Int))
      rw [urowX_set _ _ _ _ (by have h1 := HE.out.1; have h2 := HX.out; simp; omega), set_mid HE.out.1 HX.out] at hset
      refine ⟨_, rfl, by rw [List.length_set]; exact HJ.out.1.1, mem_set HJ.out.1.2.1 (Nat.mod_lt _ (by omega)), hset, only_setCell HJ.out.2.2 (.inl rfl) _, ?_⟩
      rw [HE.out.2.1, HN.out]
      exact HJ.out.1.done (by rw [HE.out.2.1]; exact HN.out) HE.out.2.2

end Go.Proofs.Ytpnklmgfdihjfaa
namespace Go.Proofs.Ytpnklmgfdihjfaa
open Go.RowKit

theorem bitLen_spec : ∀ (k x : Nat), x < 2 ^ k → k ≤ 64 → x ≠ 0 → 1 ≤ Lib.bitLen x ∧ 2 ^ (Lib.bitLen x - 1) ≤ x ∧ x < 2 ^ Lib.bitLen x := by
  intro k
  induction k with
  | zero => intro x h _ h0; simp at h; omega
  | succ k ih =>
    intro x h hk h0
    have hx : x < 2 ^ 64 := Nat.lt_of_lt_of_le h (two_pow_le hk)
    rw [Lib.bitLen_half x h0 hx]
    by_cases h1 : x / 2 = 0
    · have : x = 1 := by omega
      subst this
      have e : Lib.bitLen (1 / 2) = 0 := by decide
      rw [e]; decide
    · obtain ⟨a1, a2, a3⟩ := ih (x / 2) (by rw [Nat.pow_succ] at h; omega) (by omega) h1
      generalize Lib.bitLen (x / 2) = t at *
      refine ⟨by omega, ?_, ?_⟩
      · rw [show 1 + t - 1 = (t - 1) + 1 by omega, Nat.pow_succ]; omega
      · rw [Nat.add_comm, Nat.pow_succ]; omega

theorem Es.of_mid {w : World} {g t j : Nat} {P S R : List Nat} {X : List Value} (h : Blk w g t (urowX (P ++ S ++ R) X)) (hj : P.length = j) (hl : S.length ≤ 9223372036854775807) (hb : ∀ e ∈ S, e < 4294967296) : Es w w.heap.size (some ⟨g, j, none⟩) S.length S :=
  ⟨⟨by simp [U32_length], fun _ => ⟨_, rfl, h.lt, fun i u hu => by
    have e : (Addr.add ⟨g, j, none⟩ i) = ⟨g, j + i, none⟩ := by unfold Addr.add; split <;> simp_all
    have hi : i < S.length := by have := (List.getElem?_eq_some_iff.1 hu).1; rwa [U32_length] at this
    rw [e, h.cell, urowX_get (by simp; omega), nth_mid hj hi, U32_get hu]⟩⟩, ⟨rfl, hl⟩, hb⟩
theorem urow_split (L : List Nat) (n : Nat) : urow L = urowX (L.take n) (U32 (L.drop n)) := by
  simp only [urow, urowX, U32, ← List.map_append, List.take_append_drop]

/-- One step of the long division, plainly. -/
structure DlInv (p : Nat) (la n : Nat) (u Q : List Nat) (V W j : Nat) : Prop where
  ul : u.length = la + 1
  ud : ∀ d ∈ u, d < p
  ql : Q.length = la - n + 1
  qd : ∀ d ∈ Q, d < p
  eq : valB p u + V * (p ^ j * valB p (Q.drop j)) = W
  lt : valB p (u.drop j) < V

theorem DlInv.seg {p la n V W j : Nat} {u Q : List Nat} (h : DlInv p la n u Q V W (j + 1)) (hj : j + n ≤ la) (hV : V ≤ p ^ n) :
    valB p ((u.drop j).take (n + 1)) < p * V ∧ valB p (u.drop (j + (n + 1))) = 0 ∧ ((u.drop j).take (n + 1)).length = n + 1 ∧ (u.take j).length = j ∧ u = u.take j ++ (u.drop j).take (n + 1) ++ u.drop (j + (n + 1)) := by
  have hl := h.ul
  have hju : j < u.length := by omega
  have e1 : u = u.take j ++ (u.drop j).take (n + 1) ++ u.drop (j + (n + 1)) := by
    rw [← List.drop_drop, List.append_assoc, List.take_append_drop, List.take_append_drop]
  have z : valB p (u.drop (j + (n + 1))) = 0 := by
    have h1 := valB_split p (u.drop (j + 1)) n (by rw [List.length_drop]; omega)
    rw [List.drop_drop, show j + 1 + n = j + (n + 1) by omega] at h1
    have h2 := h.lt
    rw [h1] at h2
    rcases Nat.eq_zero_or_pos (valB p (u.drop (j + (n + 1)))) with h0 | h0
    · exact h0
    · have : p ^ n * 1 ≤ p ^ n * valB p (u.drop (j + (n + 1))) := Nat.mul_le_mul_left _ h0
      omega
  have hU : valB p ((u.drop j).take (n + 1)) = valB p (u.drop j) := by
    have h1 := valB_split p (u.drop j) (n + 1) (by rw [List.length_drop]; omega)
    rw [List.drop_drop, z, Nat.mul_zero, Nat.add_zero] at h1
    exact h1.symm
  refine ⟨?_, z, by simp; omega, by simp; omega, e1⟩
  rw [hU, valB_drop hju]
  have d1 := h.ud _ (nth_mem hju)
  have h2 := h.lt
  have h3 : p * (valB p (u.drop (j + 1)) + 1) ≤ p * V := Nat.mul_le_mul_left p h2
  rw [Nat.mul_add] at h3
  omega
theorem DlInv.step {p la n V W j : Nat} {u Q S' : List Nat} (h : DlInv p la n u Q V W (j + 1)) (hj : j + n ≤ la) (hV : V ≤ p ^ n) (hV0 : 0 < V)
    (hS : S'.length = n + 1) (hSd : ∀ d ∈ S', d < p) (hv : valB p S' = valB p ((u.drop j).take (n + 1)) % V) :
    DlInv p la n (u.take j ++ S' ++ u.drop (j + (n + 1))) (Q.set j (valB p ((u.drop j).take (n + 1)) / V)) V W j := by
  obtain ⟨hU, z, l1, l2, e1⟩ := h.seg hj hV
  have hl := h.ul
  have hql := h.ql
  generalize hSg : (u.drop j).take (n + 1) = S at *
  refine ⟨by simp [hS]; omega, ?_, by rw [List.length_set]; exact hql, mem_set h.qd (Nat.div_lt_of_lt_mul (by rw [Nat.mul_comm]; exact hU)), ?_, ?_⟩
  · intro d hd
    simp only [List.mem_append] at hd
    rcases hd with (hd | hd) | hd
    · exact h.ud d (List.mem_of_mem_take hd)
    · exact hSd d hd
    · exact h.ud d (List.mem_of_mem_drop hd)
  · have q1 : valB p (u.take j ++ S' ++ u.drop (j + (n + 1))) = valB p (u.take j) + p ^ j * (valB p S % V) := by
      rw [valB_append, valB_append, z, l2, hv]; simp
    have q2 : valB p u = valB p (u.take j) + p ^ j * valB p S := by
      have e2 := congrArg (valB p) e1
      rw [valB_append, valB_append, z, l2] at e2
      simpa using e2
    have q3 : valB p ((Q.set j (valB p S / V)).drop j) = valB p S / V + p * valB p (Q.drop (j + 1)) := by
      rw [valB_drop (by rw [List.length_set]; omega), nth_set (by omega), if_pos rfl, List.drop_set, if_pos (by omega)]
    have q4 := h.eq
    rw [q2] at q4
    rw [q1, q3]
    have q5 : p ^ j * valB p S = p ^ j * (valB p S % V) + p ^ j * (V * (valB p S / V)) := by rw [← Nat.mul_add, Nat.mod_add_div]
    have q6 : V * (p ^ j * (valB p S / V + p * valB p (Q.drop (j + 1)))) = p ^ j * (V * (valB p S / V)) + V * (p ^ (j + 1) * valB p (Q.drop (j + 1))) := by
      rw [Nat.mul_add (p ^ j), Nat.mul_add V, Nat.mul_left_comm V, Nat.pow_succ, Nat.mul_assoc (p ^ j) p]
    rw [q6]
    omega
  · have : (u.take j ++ S' ++ u.drop (j + (n + 1))).drop j = S' ++ u.drop (j + (n + 1)) := by
      rw [List.append_assoc, List.drop_append_of_le_length (by omega), List.drop_of_length_le (by omega), List.nil_append]
    rw [this, valB_append, z, Nat.mul_zero, Nat.add_zero, hv]
    exact Nat.mod_lt _ hV0
/-- What the two ways of a step come to. -/
theorem step_val {g q U V a : Nat} (hq : q = U / V) (hV : 0 < V) (h1 : q ≤ g) (h2 : g ≤ q + 1) (hle : g * V ≤ U) (ha : a = U - g * V) : g = q ∧ a = U % V := by
  have : g ≤ q := by rw [hq, Nat.le_div_iff_mul_le hV]; exact hle
  have hg : g = q := by omega
  refine ⟨hg, ?_⟩
  have h3 := Nat.div_add_mod U V
  rw [ha, hg, hq, Nat.mul_comm]; omega
theorem step_back {M g q U V a b : Nat} (hq : q = U / V) (h2 : g ≤ q + 1) (hlt : U < g * V) (ha : a + g * V = U + M) (hb : b % M = (a + V) % M) (hbM : b < M) (hUM : U < M) : g = q + 1 ∧ b = U % V := by
  have hg : g = q + 1 := by
    rcases Nat.lt_or_ge g (q + 1) with h | h
    · have h4 : g * V ≤ q * V := Nat.mul_le_mul_right V (by omega)
      have h5 : q * V ≤ U := by rw [hq]; exact Nat.div_mul_le_self _ _
      omega
    · omega
  refine ⟨hg, ?_⟩
  have h3 := Nat.div_add_mod U V
  rw [hg, Nat.add_mul, Nat.one_mul, hq, Nat.mul_comm] at ha
  have e : a + V = M + U % V := by omega
  rw [e, Nat.add_mod_left, Nat.mod_eq_of_lt hbM, Nat.mod_eq_of_lt (Nat.lt_of_le_of_lt (Nat.mod_le _ _) hUM)] at hb
  exact hb
theorem dl_back {p g q V : Nat} {S S' S2 v : List Nat} (hq : q = valB p S / V) (h2 : g ≤ q + 1) (hlt : valB p S < g * V) (ha : valB p S' + g * V = valB p S + p ^ S.length) (hb : valB p S2 % p ^ S'.length = (valB p S' + valB p v) % p ^ S'.length) (hv : valB p v = V)
    (l1 : S'.length = S.length) (l2 : S2.length = S'.length) (d2 : ∀ d ∈ S2, d < p) (hSM : valB p S < p ^ S.length) : g = q + 1 ∧ valB p S2 = valB p S % V := by
  have h3 := valB_lt d2
  rw [l2, l1] at h3
  rw [l1, hv] at hb
  exact step_back hq h2 hlt ha hb h3 hSM
theorem dl_eq0 {p V W j : Nat} {u Q : List Nat} (h : valB p u = W) (hQ : Q.length ≤ j) : valB p u + V * (p ^ j * valB p (Q.drop j)) = W := by
  rw [h, List.drop_of_length_le hQ]; simp [valB]
theorem DlInv.done {p la n M s : Nat} {u Q : List Nat} {N : Nat} (h : DlInv p la n u Q (M * 2 ^ s) (N * 2 ^ s) 0) (hM : 0 < M) (hV : M * 2 ^ s ≤ p ^ n) (hn : n ≤ la) :
    valB p Q = N / M ∧ valB p (u.take n) / 2 ^ s = N % M := by
  have h1 := h.eq
  have h2 := h.lt
  have hs := pow2_pos s
  simp only [List.drop_zero, Nat.pow_zero, Nat.one_mul] at h1 h2
  have z : valB p (u.take n) = valB p u := by
    have h3 := valB_split p u n (by rw [h.ul]; omega)
    rcases Nat.eq_zero_or_pos (valB p (u.drop n)) with h0 | h0
    · rw [h0] at h3; omega
    · have : p ^ n * 1 ≤ p ^ n * valB p (u.drop n) := Nat.mul_le_mul_left _ h0
      omega
  have e1 : M * 2 ^ s * valB p Q = (M * valB p Q) * 2 ^ s := by rw [Nat.mul_right_comm]
  rw [e1] at h1
  have e2 : valB p u % 2 ^ s = 0 := by
    have : (valB p u + M * valB p Q * 2 ^ s) % 2 ^ s = 0 := by rw [h1]; exact Nat.mul_mod_left _ _
    rwa [Nat.add_mul_mod_self_right] at this
  obtain ⟨r, hr⟩ : ∃ r, valB p u = r * 2 ^ s := ⟨valB p u / 2 ^ s, by have := Nat.div_add_mod (valB p u) (2 ^ s); rw [e2, Nat.add_zero, Nat.mul_comm] at this; exact this.symm⟩
  rw [hr, ← Nat.add_mul] at h1
  have e3 : r + M * valB p Q = N := Nat.eq_of_mul_eq_mul_right hs h1
  have e4 : r < M := by rw [hr] at h2; exact Nat.lt_of_mul_lt_mul_right h2
  rw [z, hr, Nat.mul_div_cancel _ hs]
  constructor
  · rw [← e3, Nat.add_mul_div_left _ _ hM, Nat.div_eq_of_lt e4, Nat.zero_add]
  · rw [← e3, Nat.add_mul_mod_self_left, Nat.mod_eq_of_lt e4]

/-- divLong's answer. -/
def RetQR (w : World) (N M : Nat) (e : Ending) (w' : World) : Prop :=
  ∃ A k c l A' k' c' l', e = .returned (.tuple #[.slice A k c, .slice A' k' c']) ∧ (k ≤ c ∧ Es w' w'.heap.size A k l ∧ valB 4294967296 l = N / M) ∧ (k' ≤ c' ∧ Es w' w'.heap.size A' k' l' ∧ valB 4294967296 l' = N % M) ∧ Below w.heap.size w w'

/-- The shift that brings the top bit up. -/
theorem shift_ok {x : Nat} (h0 : x ≠ 0) (hx : x < 4294967296) : Lib.bitLen x ≤ 32 ∧ 1 ≤ Lib.bitLen x ∧ 2147483648 ≤ x * 2 ^ (32 - Lib.bitLen x) ∧ (x + 1) * 2 ^ (32 - Lib.bitLen x) ≤ 4294967296 := by
  obtain ⟨h1, h2, h3⟩ := bitLen_spec 32 x hx (by omega) h0
  have hb : Lib.bitLen x ≤ 32 := by
    rcases Nat.lt_or_ge 32 (Lib.bitLen x) with h | h
    · have := two_pow_le (n := 32) (m := Lib.bitLen x - 1) (by omega)
      omega
    · exact h
  generalize Lib.bitLen x = t at *
  refine ⟨hb, h1, ?_, ?_⟩
  · have := Nat.mul_le_mul_right (2 ^ (32 - t)) h2
    rw [← Nat.pow_add, show t - 1 + (32 - t) = 31 by omega] at this
    exact this
  · have := Nat.mul_le_mul_right (2 ^ (32 - t)) (show x + 1 ≤ 2 ^ t from h3)
    rw [← Nat.pow_add, show t + (32 - t) = 32 by omega] at this
    exact this

theorem dl_setup {p q hh : Nat} {f : List Nat} {n n1 M : Nat} (hM : Nrm p f M) (hfl : n = f.length) (hn1 : n = n1 + 1) (s3 : hh ≤ nth f n1 * q) (s4 : (nth f n1 + 1) * q ≤ p) (hq : 0 < q) (hp : 0 < p) :
    M * q < p ^ n ∧ p ^ n1 * q ≤ M * q ∧ p ^ n1 * hh ≤ M * q ∧ 0 < M := by
  have h1 := valB_take (b := p) (l := f) (k := n1) (by omega)
  rw [← hn1, List.take_of_length_le (by omega), hM.1] at h1
  have h2 : valB p (f.take n1) < p ^ n1 := by
    have := valB_lt (b := p) (l := f.take n1) (fun d h => hM.2.1 d (List.mem_of_mem_take h))
    rwa [List.length_take, Nat.min_eq_left (by omega)] at this
  have hpos : p ^ n1 ≤ M := by have := hM.pos (by omega); rwa [← hfl, hn1, Nat.add_sub_cancel] at this
  have hpp : 0 < p ^ n1 := Nat.pow_pos hp
  refine ⟨?_, Nat.mul_le_mul_right _ hpos, ?_, by omega⟩
  · have h3 : M < p ^ n1 * (nth f n1 + 1) := by rw [h1, Nat.mul_add]; omega
    have h4 : M * q < p ^ n1 * (nth f n1 + 1) * q := Nat.mul_lt_mul_of_pos_right h3 hq
    have h5 : p ^ n1 * (nth f n1 + 1) * q ≤ p ^ n1 * p := by rw [Nat.mul_assoc]; exact Nat.mul_le_mul_left _ s4
    rw [hn1, Nat.pow_succ]
    omega
  · have h3 : p ^ n1 * nth f n1 ≤ M := by omega
    have h4 := Nat.mul_le_mul_right q h3
    have h5 := Nat.mul_le_mul_left (p ^ n1) s3
    rw [← Nat.mul_assoc] at h5
    omega
theorem dl_v {p n V : Nat} {Lv : List Nat} (h : valB p Lv = V) (hl : Lv.length = n + 1) (hV : V < p ^ n) : valB p (Lv.take n) = V := by
  have h1 := valB_split p Lv n (by omega)
  rw [h] at h1
  rcases Nat.eq_zero_or_pos (valB p (Lv.drop n)) with h0 | h0
  · rw [h0] at h1; omega
  · have h3 : p ^ n * 1 ≤ p ^ n * valB p (Lv.drop n) := Nat.mul_le_mul_left _ h0
    omega
theorem dl_top {p hh n n1 V : Nat} {v : List Nat} (h : valB p v = V) (hl : v.length = n) (hn1 : n = n1 + 1) (hd : ∀ d ∈ v, d < p) (hV : p ^ n1 * hh ≤ V) : hh ≤ nth v n1 := by
  have h1 := valB_take (b := p) (l := v) (k := n1) (by omega)
  rw [← hn1, List.take_of_length_le (by omega), h] at h1
  have h2 : valB p (v.take n1) < p ^ n1 := by
    have := valB_lt (b := p) (l := v.take n1) (fun d h => hd d (List.mem_of_mem_take h))
    rwa [List.length_take, Nat.min_eq_left (by omega)] at this
  have h4 : p ^ n1 * hh < p ^ n1 * (nth v n1 + 1) := by rw [Nat.mul_add]; omega
  have := Nat.lt_of_mul_lt_mul_left h4
  omega
theorem dl_start {p q N M la dj n1 : Nat} {l Lu : List Nat} (hN : Nrm p l N) (hla : la = l.length) (h : valB p Lu = N * q) (hl : Lu.length = la + 1) (hdj : la = dj + 1 + n1) (hq : 0 < q) (hV : p ^ n1 * q ≤ M * q) : valB p (Lu.drop (dj + 1)) < M * q := by
  have h1 := valB_split p Lu (dj + 1) (by omega)
  rw [h] at h1
  have h2 : N < p ^ la := by have := hN.lt; rwa [← hla] at this
  have h3 : N * q < p ^ la * q := Nat.mul_lt_mul_of_pos_right h2 hq
  have h4 : p ^ la * q = p ^ (dj + 1) * (p ^ n1 * q) := by rw [← Nat.mul_assoc, ← Nat.pow_add, ← hdj]
  rw [h4] at h3
  have h5 : p ^ (dj + 1) * valB p (Lu.drop (dj + 1)) < p ^ (dj + 1) * (p ^ n1 * q) := by omega
  have h6 := Nat.lt_of_mul_lt_mul_left h5
  omega

set_option maxHeartbeats 8000000 in
theorem divLong_any (A B : Option Addr) (l f : List Nat) (la n ca cb N M : Nat) (w : World) (hr : Es w w.heap.size A la l) (hs : Es w w.heap.size B n f) (hN : Nrm 4294967296 l N) (hM : Nrm 4294967296 f M) (hn2 : 2 ≤ n) (hle : n ≤ la) (hla : la ≤ 1000000) :
    Calls Try.prog 97 #[.slice A la ca, .slice B n cb] w (RetQR w N M) := by
  obtain ⟨n1, hn1⟩ : ∃ n1, n = n1 + 1 := ⟨n - 1, by omega⟩
  obtain ⟨bd, rfl, hb1, cB⟩ := hs.at_ (show n1 < n by omega)
  have hfl := hs.len
  have ht : nth f n1 ≠ 0 := by
    rcases hM.2.2 with h | h
    · rw [h] at hfl; simp at hfl; omega
    · rwa [← hfl, hn1, Nat.add_sub_cancel] at h
  have htl := hs.lt (show n1 < n by omega)
  obtain ⟨s1, s2, s3, s4⟩ := shift_ok ht htl
  generalize hsd : 32 - Lib.bitLen (nth f n1) = s at *
  have hs32 : s < 32 := by omega
  have HSD := Lib.hid hsd; clear hsd
  have HV := Lib.hid (dl_setup hM hfl hn1 s3 s4 (pow2_pos s) (by omega)); clear s3 s4
  have HR := Lib.hid hr; clear hr
  have HS := Lib.hid hs; clear hs
  have HN := Lib.hid hN; clear hN
  have HM := Lib.hid hM; clear hM
  have HF := Lib.hid hfl; clear hfl
  have i0 : (n : Int) - 1 = (n1 : Int) := by omega
  have hn1n : n1 < n := by omega
  have HN1 := Lib.hid hn1; clear hn1
  go_enter Try.func97, Try.ntmps97
  go_wp2_with fail
  refine (Try.bits_LeadingZeros32 (nth f n1 : Int) _ (by omega) (by omega)).mono ?_
  rintro e w ⟨rfl, rfl⟩
  rw [show (32 : Int) - (Lib.bitLen ((nth f n1 : Nat) : Int).toNat : Int) = (s : Int) by rw [Int.toNat_natCast]; have := HSD.out; omega]
  clear ht s1 s2 cB
  go_wp2_with fail
  refine (shl_any _ f n cb s _ HS.out (by omega) hs32).mono ?_
  rintro e w1 ⟨Lv, rfl, hLv, dLv, vLv, bLv, hB1⟩
  rw [HM.out.1] at vLv
  have H1 := Lib.hid (And.intro hLv (And.intro dLv (And.intro vLv (And.intro bLv hB1)))); clear hLv dLv vLv bLv hB1
  go_wp2_with fail
  refine (shl_any _ l la ca s _ (HR.out.new H1.out.2.2.2.2) (by omega) hs32).mono ?_
  rintro e w2 ⟨Lu, rfl, hLu, dLu, vLu, bLu, hB2⟩
  rw [HN.out.1] at vLu
  have H2 := Lib.hid (And.intro hLu (And.intro dLu (And.intro vLu (And.intro bLu hB2)))); clear hLu dLu vLu bLu hB2
  have hz1 : w.heap.size < w1.heap.size := H1.out.2.2.2.1.lt
  have hz2 : w1.heap.size < w2.heap.size := H2.out.2.2.2.1.lt
  obtain ⟨dj, hdj⟩ : ∃ dj, la = dj + n := ⟨la - n, by omega⟩
  have HDJ := Lib.hid hdj
  have i1 : (la : Int) - (n : Int) = (dj : Int) := by omega
  have hmk := mk_nat (dj + 1) (by omega)
  simp only [Int.natCast_add, Int.natCast_one] at hmk
  have hdl : dj < la + 1 := by omega
  clear hdj
  go_wp2_with fail
  clear hmk
  -- the divisor's row: n digits and a zero
  have hV := Lib.hid (show Blk w1 w.heap.size 25 (urowX (Lv.take n) (U32 (Lv.drop n))) by rw [← urow_split]; exact H1.out.2.2.2.1)
  have hvv : valB 4294967296 (Lv.take n) = M * 2 ^ s := dl_v H1.out.2.2.1 H1.out.1 HV.out.1
  have hvl : (Lv.take n).length = n := by rw [List.length_take, H1.out.1]; omega
  have hvd : ∀ d ∈ Lv.take n, d < 4294967296 := fun d hd => H1.out.2.1 d (List.mem_of_mem_take hd)
  generalize Lv.take n = v at *
  generalize U32 (Lv.drop n) = Xv at *
  have hvtop : 4294967296 ≤ 2 * nth v n1 := by have := dl_top hvv hvl HN1.out hvd HV.out.2.2.1; omega
  have HW := Lib.hid (And.intro hvv (And.intro hvl (And.intro hvd hvtop))); clear hvv hvl hvd hvtop
  go_loopw [11, 12, 13] (fun jv _ _ wr => ∃ (j' : Nat) (u Q : List Nat), j' ≤ dj + 1 ∧ jv = .int .i64 ((j' : Int) - 1) ∧ Hid (DlInv 4294967296 la n u Q (M * 2 ^ s) (N * 2 ^ s) j' ∧ Blk wr w.heap.size 25 (urowX v Xv) ∧ Blk wr w1.heap.size 25 (urow u) ∧ Blk wr w2.heap.size 25 (urow Q) ∧ Below w.heap.size w wr)) (fun jv _ _ _ => (intOf jv + 1).toNat)
  case atStart =>
    refine ⟨dj + 1, Lu, zer (dj + 1), Nat.le_refl _, by go_num, Lib.hid ⟨⟨H2.out.1, H2.out.2.1, ?_, ?_, ?_, ?_⟩, ?_, ?_, ?_, ?_⟩⟩
    · rw [zer_length, HDJ.out]; omega
    · intro d hd
      have := List.eq_of_mem_replicate hd
      omega
    · exact dl_eq0 H2.out.2.2.1 (Nat.le_of_eq (zer_length _))
    · exact dl_start HN.out HR.out.len H2.out.2.2.1 H2.out.1 (by have := HDJ.out; have := HN1.out; omega) (pow2_pos s) HV.out.2.1
    · exact (hV.out.below H2.out.2.2.2.2 hV.out.lt).alloc _
    · exact H2.out.2.2.2.1.alloc _
    · exact Blk.new _ _ _
    · exact bthen (bthen H1.out.2.2.2.2 H2.out.2.2.2.2 H1.out.2.2.2.2.size) (al _ _) (by have := H1.out.2.2.2.2.size; omega)
  case round =>
    obtain ⟨j, u, Q, hj, rfl, HJ⟩ := hrel
    by_cases h0 : 0 < j
    · obtain ⟨j, rfl⟩ : ∃ m, j = m + 1 := ⟨j - 1, by omega⟩
      have i2 : ((j + 1 : Nat) : Int) - 1 = (j : Int) := by omega
      rw [i2]
      go_wp2_with fail
      have hjla : j + n ≤ la := by have := HDJ.out; omega
      obtain ⟨hU, z, l1, l2, e1⟩ := HJ.out.1.seg hjla (Nat.le_of_lt HV.out.1)
      have hbu : Blk wr w1.heap.size 25 (urowX (u.take j ++ (u.drop j).take (n + 1) ++ u.drop (j + (n + 1))) []) := by rw [← e1, ← urow_X]; exact HJ.out.2.2.1
      have dS : ∀ d ∈ (u.drop j).take (n + 1), d < 4294967296 := fun d hd => HJ.out.1.ud d (List.mem_of_mem_drop (List.mem_of_mem_take hd))
      have HST := Lib.hid (fun (S' : List Nat) (h1 : S'.length = n + 1) (h2 : ∀ d ∈ S', d < 4294967296) h3 => HJ.out.1.step (S' := S') hjla (Nat.le_of_lt HV.out.1) (Nat.mul_pos HV.out.2.2.2 (pow2_pos s)) h1 h2 h3)
      have HSM := Lib.hid (valB_lt dS)
      generalize (u.drop j).take (n + 1) = S at *
      generalize u.take j = P at *
      generalize u.drop (j + (n + 1)) = R at *
      have hV0 : 0 < M * 2 ^ s := Nat.mul_pos HV.out.2.2.2 (pow2_pos s)
      have hEs := Es.of_mid hbu l2 (by omega) dS
      rw [l1] at hEs
      have hEv := Es.of_blkX HJ.out.2.1 (by rw [HW.out.2.1]; omega) HW.out.2.2.1
      rw [HW.out.2.1] at hEv
      obtain ⟨n2, hn2'⟩ : ∃ n2, n1 = n2 + 1 := ⟨n1 - 1, by have := HN1.out; omega⟩
      have HN2 := Lib.hid hn2'; clear hn2'
      rw [show j + n + 1 - j = n + 1 by omega]
      refine (guess_any _ _ S v (n + 1) n n1 n2 _ _ wr hEs hEv rfl HN1.out HN2.out HW.out.2.2.2 (by rw [HW.out.1]; exact hU) (by omega)).mono ?_
      rw [HW.out.1]
      rintro e w3 ⟨g, rfl, hq1, hq2, hgl, hb3⟩
      have hbu3 := hbu.below hb3 hbu.lt
      have hbv3 := HJ.out.2.1.below hb3 HJ.out.2.1.lt
      have hbq3 := HJ.out.2.2.2.1.below hb3 HJ.out.2.2.2.1.lt
      have hB3 := bthen HJ.out.2.2.2.2 hb3 HJ.out.2.2.2.2.size
      obtain ⟨q, hq⟩ : ∃ q, q = valB 4294967296 S / (M * 2 ^ s) := ⟨_, rfl⟩
      rw [← hq] at hq1 hq2 HST
      have HQ := Lib.hid (And.intro hq (And.intro hq1 hq2)); clear hq hq1 hq2
      have H3 := Lib.hid (And.intro hbu3 (And.intro hbv3 (And.intro hbq3 hB3))); clear hbu3 hbv3 hbq3 hB3 hb3
      have HU := Lib.hid (And.intro hU (And.intro True.intro (And.intro l1 (And.intro l2 dS)))); clear hU l1 l2 dS
      have HV0 := Lib.hid hV0; clear hV0
      clear hEs hEv hbu e1 z
      go_wp2_with fail
      refine (subProduct_any w1.heap.size w.heap.size j (n + 1) n _ _ g P S R v [] Xv w3 H3.out.1 H3.out.2.1 (by omega) HU.out.2.2.2.1 rfl HU.out.2.2.1 HW.out.2.1 HU.out.2.2.2.2 HW.out.2.2.1 hgl (by omega)).mono ?_
      rintro e w4 ⟨S', neg, rfl, hl', hd', hbu4, hg4, hneg0, hneg1⟩
      rw [HW.out.1] at hneg0 hneg1
      have HNG := Lib.hid (And.intro hneg0 hneg1); clear hneg0 hneg1
      have hbv4 := H3.out.2.1.grown hg4 (by simp; omega)
      have hbq4 := H3.out.2.2.1.grown hg4 (by simp; omega)
      have hB4 := H3.out.2.2.2.grown hg4 (by have := H3.out.2.2.1.lt; omega) (fun k hk => by cases hk; omega)
      have H4 := Lib.hid (And.intro hbu4 (And.intro hbv4 (And.intro hbq4 (And.intro hB4 (And.intro hl' hd')))))
      clear hbu4 hbv4 hbq4 hB4 hl' hd' hg4
      have hQj : j < Q.length := by rw [HJ.out.1.ql]; have := HDJ.out; omega
      have HQJ := Lib.hid hQj; clear hQj
      cases neg with
      | true =>
        have hg0 : 1 ≤ g := by
          rcases Nat.eq_zero_or_pos g with h | h
          · have h1 := (HNG.out.2 rfl).1
            rw [h, Nat.zero_mul] at h1
            exact absurd h1 (Nat.not_lt_zero _)
          · exact h
        have HNH := Lib.hid (HNG.out.2 rfl); clear HNG
        go_wp2_with fail
        refine (addBack_any w1.heap.size w.heap.size j (n + 1) n _ _ P S' R v [] Xv w4 H4.out.1 H4.out.2.1 (by omega) HU.out.2.2.2.1 rfl (by rw [H4.out.2.2.2.2.1]; exact HU.out.2.2.1) HW.out.2.1 H4.out.2.2.2.2.2 HW.out.2.2.1 (by omega)).mono ?_
        rintro e w5 ⟨S2, rfl, hl2, hd2, hbu5, hg5, hval⟩
        have HVAL := Lib.hid hval; clear hval
        have hbv5 := H4.out.2.1.grown hg5 (by simp; omega)
        have hbq5 := H4.out.2.2.1.grown hg5 (by simp; omega)
        have hB5 := H4.out.2.2.2.1.grown hg5 (by have := H4.out.2.2.1.lt; omega) (fun k hk => by cases hk; omega)
        have cQ : w5.cell? ⟨w2.heap.size, j, none⟩ = some (.int .u32 (nth Q j : Int)) := by rw [hbq5.cell, urow_get HQJ.out]
        have fQ : w5.frozen? ⟨w2.heap.size, j, none⟩ = false := hbq5.frozen j
        have H5 := Lib.hid (And.intro hbu5 (And.intro hbv5 (And.intro hbq5 (And.intro hB5 (And.intro hl2 hd2)))))
        clear hbu5 hbv5 hbq5 hB5 hl2 hd2 hg5
        go_wp2_with fail
        obtain ⟨k1, k2⟩ := dl_back HQ.out.1 HQ.out.2.2 HNH.out.1 HNH.out.2 HVAL.out HW.out.1 H4.out.2.2.2.2.1 H5.out.2.2.2.2.1 H5.out.2.2.2.2.2 HSM.out
        have hnew := HST.out S2 (by rw [H5.out.2.2.2.2.1, H4.out.2.2.2.2.1, HU.out.2.2.1]) H5.out.2.2.2.2.2 k2
        have hset := H5.out.2.2.1.set_ j (.int .u32 (q : Int))
        rw [urow_set] at hset
        have e1 : (g : Int) - 1 = (q : Int) := by omega
        rw [e1]
        refine ⟨⟨j, _, _, by omega, rfl, Lib.hid ⟨hnew, H5.out.2.1.far (p := ⟨w2.heap.size, j, none⟩) (by show w.heap.size ≠ w2.heap.size; omega) _, ?_, hset, H5.out.2.2.2.1.setCell (p := ⟨w2.heap.size, j, none⟩) (by show w.heap.size ≤ w2.heap.size; omega) _⟩⟩, by simp [intOf]⟩
        rw [urow_X]
        exact H5.out.1.far (p := ⟨w2.heap.size, j, none⟩) (by show w1.heap.size ≠ w2.heap.size; omega) _
      | false =>
        have HNH := Lib.hid (HNG.out.1 rfl); clear HNG
        have cQ : w4.cell? ⟨w2.heap.size, j, none⟩ = some (.int .u32 (nth Q j : Int)) := by rw [H4.out.2.2.1.cell, urow_get HQJ.out]
        have fQ : w4.frozen? ⟨w2.heap.size, j, none⟩ = false := H4.out.2.2.1.frozen j
        go_wp2_with fail
        obtain ⟨k1, k2⟩ := step_val HQ.out.1 HV0.out HQ.out.2.1 HQ.out.2.2 HNH.out.1 HNH.out.2
        have hnew := HST.out S' (by rw [H4.out.2.2.2.2.1, HU.out.2.2.1]) H4.out.2.2.2.2.2 k2
        have hset := H4.out.2.2.1.set_ j (.int .u32 (g : Int))
        rw [urow_set] at hset
        rw [← k1] at hnew
        refine ⟨⟨j, _, _, by omega, rfl, Lib.hid ⟨hnew, H4.out.2.1.far (p := ⟨w2.heap.size, j, none⟩) (by show w.heap.size ≠ w2.heap.size; omega) _, ?_, hset, H4.out.2.2.2.1.setCell (p := ⟨w2.heap.size, j, none⟩) (by show w.heap.size ≤ w2.heap.size; omega) _⟩⟩, by simp [intOf]⟩
        rw [urow_X]
        exact H4.out.1.far (p := ⟨w2.heap.size, j, none⟩) (by show w1.heap.size ≠ w2.heap.size; omega) _
    · obtain rfl : j = 0 := by omega
      go_wp2_with fail
      have hul := HJ.out.1.ul
      have hE := (Es.of_blk HJ.out.2.2.1 (by omega) HJ.out.1.ud)
      rw [hul] at hE
      have hE2 := hE.take (show n ≤ la + 1 by omega)
      refine (shr_any _ (u.take n) n _ s _ hE2 (by omega) hs32).mono ?_
      rintro e w3 ⟨Lr, rfl, hLr, dLr, vLr, bLr, hB3⟩
      obtain ⟨k1, k2⟩ := HJ.out.1.done HV.out.2.2.2 (Nat.le_of_lt HV.out.1) (by omega)
      rw [k2] at vLr
      have hq3 := HJ.out.2.2.2.1.below hB3 HJ.out.2.2.2.1.lt
      have hEq := Es.of_blk hq3 (by rw [HJ.out.1.ql]; omega) HJ.out.1.qd
      have hEr := Es.of_blk bLr (by rw [hLr]; omega) dLr
      rw [HJ.out.1.ql, show la - n + 1 = dj + 1 by have := HDJ.out; omega] at hEq
      rw [hLr] at hEr
      have HF := Lib.hid (And.intro hEq (And.intro hEr (And.intro k1 (And.intro vLr (bthen HJ.out.2.2.2.2 hB3 HJ.out.2.2.2.2.size)))))
      clear hEq hEr k1 k2 vLr hB3 hq3 hE hE2 hul hLr dLr bLr
      go_wp2_with fail
      go_ret2
      exact ⟨_, _, _, Q, _, _, _, Lr, rfl, ⟨Nat.le_refl _, HF.out.1, HF.out.2.2.1⟩, ⟨Nat.le_refl _, HF.out.2.1, HF.out.2.2.2.1⟩, HF.out.2.2.2.2⟩

end Go.Proofs.Ytpnklmgfdihjfaa
namespace Go.Proofs.Ytpnklmgfdihjfaa
open Go.RowKit

/-- DivMod's answers. -/
def RetDM (w : World) (N M : Nat) (e : Ending) (w' : World) : Prop :=
  (M = 0 → e = .returned (.tuple #[.slice none 0 0, .slice none 0 0, .int .i64 18]) ∧ Below w.heap.size w w') ∧
  (M ≠ 0 → ∃ A k c l A' k' c' l', e = .returned (.tuple #[.slice A k c, .slice A' k' c', .int .i64 0]) ∧ (k ≤ c ∧ Es w' w'.heap.size A k l ∧ Nrm 4294967296 l (N / M)) ∧ (k' ≤ c' ∧ Es w' w'.heap.size A' k' l' ∧ Nrm 4294967296 l' (N % M)) ∧ Below w.heap.size w w')
theorem own_cap {w : World} {base : Nat} {e : TypeId} {n : Nat} {v : Value} {xs : List Value} (h : w.ownsRow base e 1 v n xs) : ∃ A c, v = .slice A n c ∧ n ≤ c := by
  rcases h.2 with ⟨rfl, hn⟩ | ⟨g, cap, cur, rfl, _, _, hc, _⟩
  · exact ⟨none, 0, by rw [hn], by omega⟩
  · exact ⟨_, _, rfl, hc⟩

set_option maxHeartbeats 8000000 in
theorem divMod_any (A : Option Addr) (ds : List Nat) (n c : Nat) (hc : n ≤ c) (B : Option Addr) (fs : List Nat) (m d : Nat) (hd : m ≤ d) (w : World) (hr : Es w w.heap.size A n ds) (hs : Es w w.heap.size B m fs) (hn : n ≤ 1000000) :
    Calls Try.prog 75 #[.slice A n c, .slice B m d] w (RetDM w (valB 4294967296 ds) (valB 4294967296 fs)) := by
  have HR := Lib.hid hr; clear hr
  have HS := Lib.hid hs; clear hs
  go_enter Try.func75, Try.ntmps75
  go_wp2_with fail
  refine (trim_any A ds n c hc _ HR.out).mono ?_
  rintro e w1 ⟨k, l, rfl, hk, hl, hN, rfl⟩
  have H1 := Lib.hid hl; clear hl
  have N1 := Lib.hid hN; clear hN
  go_wp2_with fail
  refine (trim_any B fs m d hd _ HS.out).mono ?_
  rintro e w2 ⟨j, f, rfl, hj, hf, hM, rfl⟩
  have H2 := Lib.hid hf; clear hf
  have N2 := Lib.hid hM; clear hM
  generalize valB 4294967296 ds = N at *
  generalize valB 4294967296 fs = M at *
  have hk2 := H1.out.le
  have hj2 := H2.out.le
  have HZ := Lib.hid (N2.out.zero_iff (by omega)); rw [← H2.out.len] at HZ
  by_cases hj0 : j = 0
  · have HM0 := Lib.hid (HZ.out.1 hj0)
    subst hj0
    clear HZ
    go_wp2_with fail
    go_ret3
    exact ⟨fun _ => ⟨rfl, Below.refl _ _⟩, fun h => absurd HM0.out h⟩
  have hM0 : M ≠ 0 := fun h => hj0 (HZ.out.2 h)
  have hjb : ((j : Int) == 0) = false := by simp; omega
  have HM0 := Lib.hid hM0; clear hM0
  go_wp2_with fail
  refine (ncmp_any A l k k (Nat.le_refl _) B f j j (Nat.le_refl _) _ H1.out H2.out).mono ?_
  rintro e w3 ⟨rfl, hb3⟩
  rw [N1.out.1, N2.out.1]
  have HB3 := Lib.hid hb3; clear hb3
  by_cases hlt : N < M
  · rw [show cmpN N M = -1 by simp [cmpN, hlt]]
    have HLT := Lib.hid hlt; clear hlt
    go_wp2_with fail
    refine (clone_any A l k k (by omega) _ (H1.out.new HB3.out)).mono ?_
    rintro e w4 ⟨v, rfl, hown, hb4⟩
    obtain ⟨A2, c2, rfl, hc2⟩ := own_cap hown
    obtain ⟨A3, c3, he, hE4⟩ := Es.of_own hown H1.out.2.2
    cases he
    have HF := Lib.hid (And.intro hE4 (bthen HB3.out hb4 HB3.out.size)); clear hE4 hb4 hown
    go_wp2_with fail
    go_ret3
    refine ⟨fun h => absurd h HM0.out, fun _ => ⟨none, 0, 0, [], _, k, c2, l, rfl, ⟨Nat.le_refl _, ⟨Reads.none_, ⟨rfl, by omega⟩, by simp⟩, ?_⟩, ⟨hc2, HF.out.1, ?_⟩, HF.out.2⟩⟩
    · rw [Nat.div_eq_of_lt HLT.out]; exact Nrm.nil _
    · rw [Nat.mod_eq_of_lt HLT.out]; exact N1.out
  · have hge : 0 ≤ cmpN N M := by simp only [cmpN, if_neg hlt]; split <;> omega
    generalize cmpN N M = cv at *
    have HLT := Lib.hid hlt; clear hlt
    have hjk : j ≤ k := by
      rcases Nat.lt_or_ge k j with h | h
      · have := N1.out.len_lt N2.out (by omega) (by rw [← H1.out.len, ← H2.out.len]; exact h)
        exact absurd this HLT.out
      · exact h
    by_cases hj1 : j = 1
    · subst hj1
      have H2c := Lib.hid (H2.out.below HB3.out)
      go_wp2_with fail
      refine (clone_any A l k k (by omega) _ (H1.out.new HB3.out)).mono ?_
      rintro e w4 ⟨v, rfl, hown, hb4⟩
      obtain ⟨g, c2, X, rfl, hg, hc2, hblk, hll⟩ := own_rowX hown (by omega)
      obtain ⟨bd, rfl, hbd, cB⟩ := ((H2.out.new HB3.out).new hb4).at_ (show 0 < 1 by omega)
      have cB0 : w4.cell? bd = some (.int .u32 (nth f 0 : Int)) := by simpa [Addr.add] using cB
      have hf0 := H2.out.lt (show 0 < 1 by omega)
      have hfM : M = nth f 0 := by
        have h1 := N2.out.1
        have h2 := H2.out.len
        obtain ⟨x, rfl⟩ : ∃ x, f = [x] := by
          match f, h2 with
          | [x], _ => exact ⟨x, rfl⟩
        rw [← h1]; simp [valB, nth, List.getD]
      have HF := Lib.hid (And.intro hblk (And.intro hll (And.intro (bthen HB3.out hb4 HB3.out.size) (And.intro hfM (And.intro hg hb4))))); clear hblk hll hfM hown hb4 cB
      go_wp2_with fail
      refine (divDigit_any g l X k c2 (nth f 0) w4 HF.out.2.1.symm HF.out.1 (by have h1 := HF.out.2.2.2.1; have h2 := HM0.out; omega) hf0 H1.out.2.2 (by omega)).mono ?_
      rintro e w5 ⟨rfl, L, hL1, hL2, hL3, hL4, hL5⟩
      rw [N1.out.1] at hL3 ⊢
      have hMf := HF.out.2.2.2.1
      rw [← hMf] at hL3 ⊢
      have HMf := Lib.hid hMf; clear hMf
      have hE5 := Es.of_blkX hL4 (by rw [hL1, HF.out.2.1]; omega) hL2
      rw [hL1, HF.out.2.1] at hE5
      have hB5 : Below w.heap.size w w5 := HF.out.2.2.1.grown hL5 HF.out.2.2.1.size (fun q hq => by cases hq; have := HF.out.2.2.2.2.1; have := HB3.out.size; omega)
      have H5 := Lib.hid (And.intro hE5 (And.intro hL3 hB5)); clear hE5 hL3 hB5 hL1 hL2 hL4 hL5
      go_wp2_with fail
      refine (trim_any _ L k c2 hc2 _ H5.out.1).mono ?_
      rintro e w6 ⟨k6, l6, rfl, hk6, hl6, hN6, rfl⟩
      rw [H5.out.2.1] at hN6
      have H6 := Lib.hid (And.intro hl6 hN6); clear hl6 hN6
      have hrl : N % M < 18446744073709551616 := by
        have := Nat.mod_lt N (show 0 < M by have := HM0.out; omega)
        have := HMf.out
        omega
      go_wp2_with fail
      refine (nof_any (N % M) hrl _).mono ?_
      rintro e w7 ⟨A7, k7, c7, l7, rfl, hk7, hE7, hN7, hb7⟩
      have H7 := Lib.hid (And.intro hE7 (And.intro hN7 hb7)); clear hE7 hN7 hb7
      go_wp2_with fail
      go_ret3
      exact ⟨fun h => absurd h HM0.out, fun _ => ⟨_, k6, k6, l6, A7, k7, c7, l7, rfl, ⟨Nat.le_refl _, H6.out.1.new H7.out.2.2, H6.out.2⟩, ⟨hk7, H7.out.1, H7.out.2.1⟩, bthen H5.out.2.2 H7.out.2.2 H5.out.2.2.size⟩⟩
    · have hj1b : ((j : Int) == 1) = false := by simp; omega
      go_wp2_with fail
      refine (divLong_any A B l f k j k j N M _ (H1.out.new HB3.out) (H2.out.new HB3.out) N1.out N2.out (by omega) hjk (by omega)).mono ?_
      rintro e w4 ⟨A4, k4, c4, l4, A5, k5, c5, l5, rfl, ⟨hk4, hE4, hv4⟩, ⟨hk5, hE5, hv5⟩, hb4⟩
      have HF := Lib.hid (And.intro hE4 (And.intro hv4 (And.intro hE5 (And.intro hv5 (bthen HB3.out hb4 HB3.out.size))))); clear hE4 hv4 hE5 hv5 hb4
      go_wp2_with fail
      refine (trim_any A4 l4 k4 c4 hk4 _ HF.out.1).mono ?_
      rintro e w6 ⟨k6, l6, rfl, hk6, hl6, hN6, rfl⟩
      rw [HF.out.2.1] at hN6
      have H6 := Lib.hid (And.intro hl6 hN6); clear hl6 hN6
      go_wp2_with fail
      refine (trim_any A5 l5 k5 c5 hk5 _ HF.out.2.2.1).mono ?_
      rintro e w7 ⟨k7, l7, rfl, hk7, hl7, hN7, rfl⟩
      rw [HF.out.2.2.2.1] at hN7
      have H7 := Lib.hid (And.intro hl7 hN7); clear hl7 hN7
      go_wp2_with fail
      go_ret3
      exact ⟨fun h => absurd h HM0.out, fun _ => ⟨_, k6, k6, l6, _, k7, k7, l7, rfl, ⟨Nat.le_refl _, H6.out⟩, ⟨Nat.le_refl _, H7.out⟩, HF.out.2.2.2.2⟩⟩

end Go.Proofs.Ytpnklmgfdihjfaa
