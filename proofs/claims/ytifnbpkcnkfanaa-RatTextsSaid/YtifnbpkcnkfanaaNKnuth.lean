/-
  The division of long numbers, plainly: the guess of a digit, the subtraction of a product, the step.
-/
import Derived.Test.YtifnbpkcnkfanaaNPlain
namespace Go.Proofs.Ytifnbpkcnkfanaa

theorem nth_mid {P S T : List Nat} {j i : Nat} (hj : P.length = j) (hi : i < S.length) : nth (P ++ S ++ T) (j + i) = nth S i := by
  subst hj
  rw [nth_eq (by simp; omega), nth_eq hi, List.getElem_append_left (by simp; omega), List.getElem_append_right (by omega)]
  congr 1
  omega
theorem set_mid {P S T : List Nat} {j i x : Nat} (hj : P.length = j) (hi : i < S.length) : (P ++ S ++ T).set (j + i) x = P ++ S.set i x ++ T := by
  subst hj
  rw [List.set_append_left _ _ (by simp; omega), List.set_append_right _ _ (by omega)]
  congr 3
  omega

/-- The two top digits of a number of n digits (n at least 2). -/
theorem top2 {p : Nat} {l : List Nat} {n : Nat} (hn : 2 ≤ n) (hl : l.length = n) (hd : ∀ d ∈ l, d < p) :
    ∃ r, r < p ^ (n - 2) ∧ valB p l = (nth l (n - 1) * p + nth l (n - 2)) * p ^ (n - 2) + r := by
  refine ⟨valB p (l.take (n - 2)), ?_, ?_⟩
  · have := valB_lt (b := p) (l := l.take (n - 2)) (fun d h => hd d (List.mem_of_mem_take h))
    rwa [List.length_take, Nat.min_eq_left (by omega)] at this
  · have h1 := valB_take (b := p) (l := l) (k := n - 1) (by omega)
    have h2 := valB_take (b := p) (l := l) (k := n - 2) (by omega)
    rw [show n - 1 + 1 = n by omega, List.take_of_length_le (by omega)] at h1
    rw [show n - 2 + 1 = n - 1 by omega] at h2
    rw [h1, h2, show n - 1 = (n - 2) + 1 by omega, Nat.pow_succ, Nat.add_mul, Nat.mul_comm (nth l (n - 2 + 1)) p, Nat.mul_comm (p ^ (n - 2)) p]
    rw [Nat.mul_assoc p, Nat.mul_assoc p, Nat.mul_comm (p ^ (n - 2)) (nth l (n - 2 + 1)), Nat.mul_comm (nth l (n - 2)) (p ^ (n - 2))]
    omega
theorem top3 {p : Nat} {l : List Nat} {n : Nat} (hn : 2 ≤ n) (hl : l.length = n + 1) (hd : ∀ d ∈ l, d < p) :
    ∃ r, r < p ^ (n - 2) ∧ valB p l = ((nth l n * p + nth l (n - 1)) * p + nth l (n - 2)) * p ^ (n - 2) + r := by
  obtain ⟨r, hr, h1⟩ := top2 (p := p) (l := l.take n) hn (by simp; omega) (fun d h => hd d (List.mem_of_mem_take h))
  refine ⟨r, hr, ?_⟩
  have h2 := valB_take (b := p) (l := l) (k := n) (by omega)
  rw [List.take_of_length_le (by omega), h1, nth_take (by omega), nth_take (by omega)] at h2
  rw [h2]
  have e : p ^ n = p * p * p ^ (n - 2) := by
    rw [show n = (n - 2) + 1 + 1 by omega, Nat.pow_succ, Nat.pow_succ, show n - 2 + 1 + 1 - 2 = n - 2 by omega, Nat.mul_comm (p ^ (n - 2)) p, Nat.mul_assoc p, Nat.mul_comm (p ^ (n - 2)) p, Nat.mul_assoc]
  rw [e]
  have e2 : ((nth l n * p + nth l (n - 1)) * p + nth l (n - 2)) * p ^ (n - 2) = (nth l (n - 1) * p + nth l (n - 2)) * p ^ (n - 2) + p * p * p ^ (n - 2) * nth l n := by
    rw [Nat.add_mul, Nat.add_mul, Nat.add_mul, Nat.add_mul, Nat.mul_comm (p * p * p ^ (n - 2)) (nth l n), Nat.mul_assoc (nth l n) p p, Nat.mul_assoc (nth l n) (p * p)]
    omega
  omega

/-- What is known of the guess g with rest r, while q is the true digit. -/
structure Guess (p U V v1 v2 top u2 P q g r : Nat) : Prop where
  eq : g * v1 + r = top
  ge : q ≤ g
/-- The frame of one guess: U is (top, u2, ..), V is (v1, v2, ..), P the weight of the digits left out. -/
structure Knuth (p U V v1 v2 top u2 P q : Nat) : Prop where
  hu : top * p * P + u2 * P ≤ U ∧ U < (top * p + u2 + 1) * P
  hv : (v1 * p + v2) * P ≤ V ∧ V < (v1 * p + v2 + 1) * P
  hq : q * V ≤ U ∧ U < (q + 1) * V
  hqp : q < p
  hP : 0 < P
  hv2 : v2 < p
  hu2 : u2 < p
  hv1 : v1 < p ∧ p ≤ 2 * v1
  hp : 1 < p

theorem Knuth.ge0 {p U V v1 v2 top u2 P q : Nat} (k : Knuth p U V v1 v2 top u2 P q) : q ≤ top / v1 := by
  have h0 : 0 < v1 := by have := k.hv1; have := k.hp; omega
  rw [Nat.le_div_iff_mul_le h0]
  -- q * v1 * (p * P) ≤ q * V ≤ U < (top + 1) * (p * P)
  have hpP : 0 < p * P := Nat.mul_pos (by have := k.hp; omega) k.hP
  have h1 : q * ((v1 * p + v2) * P) ≤ q * V := Nat.mul_le_mul_left q k.hv.1
  have h2 : q * v1 * (p * P) ≤ q * ((v1 * p + v2) * P) := by
    rw [Nat.mul_assoc q v1]; apply Nat.mul_le_mul_left; rw [← Nat.mul_assoc]; apply Nat.mul_le_mul_right; omega
  have h3 : (top * p + u2 + 1) * P ≤ (top + 1) * (p * P) := by
    rw [← Nat.mul_assoc]; apply Nat.mul_le_mul_right; rw [Nat.add_mul]; have := k.hu2; omega
  have h4 : q * v1 * (p * P) < (top + 1) * (p * P) := by have := k.hq.1; have := k.hu.2; omega
  have h5 : q * v1 < top + 1 := Nat.lt_of_mul_lt_mul_right h4
  omega
theorem Knuth.g0 {p U V v1 v2 top u2 P q : Nat} (k : Knuth p U V v1 v2 top u2 P q) : top / v1 ≤ p + 1 := by
  have h0 : 0 < v1 := by have := k.hv1; have := k.hp; omega
  have hP := k.hP
  -- top * p * P ≤ U < (q + 1) * V ≤ p * V < p * (v1 * p + v2 + 1) * P, so top < v1 * p + v2 + 1 <= (v1 + 1) * p
  have h1 : (q + 1) * V ≤ p * V := Nat.mul_le_mul_right V k.hqp
  have h2 : p * V ≤ p * ((v1 * p + v2 + 1) * P) := Nat.mul_le_mul_left p (Nat.le_of_lt k.hv.2)
  have h3 : top * p * P < p * ((v1 * p + v2 + 1) * P) := by have := k.hu.1; have := k.hq.2; omega
  have h4 : top * (p * P) < (v1 * p + v2 + 1) * (p * P) := by
    rw [← Nat.mul_assoc, ← Nat.mul_assoc, Nat.mul_comm (v1 * p + v2 + 1) p, Nat.mul_assoc p]; exact h3
  have h5 : top < v1 * p + v2 + 1 := Nat.lt_of_mul_lt_mul_right h4
  have h6 : top < (p + 2) * v1 := by
    have := k.hv2
    have := k.hv1
    rw [Nat.add_mul, Nat.mul_comm p v1]
    omega
  have := (Nat.div_lt_iff_lt_mul h0).2 h6
  omega
/-- A guess that is too great: the digit is below it. -/
theorem Knuth.down {p U V v1 v2 top u2 P q g r : Nat} (k : Knuth p U V v1 v2 top u2 P q) (h : g * v1 + r = top) (hb : r * p + u2 < g * v2) : q < g := by
  rcases Nat.lt_or_ge q g with h1 | h1
  · exact h1
  exfalso
  have e1 : g * ((v1 * p + v2) * P) ≤ q * V := Nat.le_trans (Nat.mul_le_mul_left g k.hv.1) (Nat.mul_le_mul_right V h1)
  have e2 : (top * p + u2 + 1) * P ≤ g * ((v1 * p + v2) * P) := by
    rw [← Nat.mul_assoc]
    apply Nat.mul_le_mul_right
    rw [Nat.mul_add, ← Nat.mul_assoc, ← h, Nat.add_mul]
    omega
  have := k.hq.1
  have := k.hu.2
  omega
/-- The end by the second digit: at most one too great. -/
theorem Knuth.end1 {p U V v1 v2 top u2 P q g r : Nat} (k : Knuth p U V v1 v2 top u2 P q) (h : g * v1 + r = top) (hb : g * v2 ≤ r * p + u2) (hg : g < p) : g ≤ q + 1 := by
  rcases Nat.lt_or_ge (q + 1) g with h1 | h1
  · exfalso
    have hv1 : 0 < v1 := by have := k.hv1; have := k.hp; omega
    -- g * V < g * (v1 p + v2) P + g P <= U + p P <= U + V
    have e1 : g * V ≤ g * ((v1 * p + v2 + 1) * P) := Nat.mul_le_mul_left g (Nat.le_of_lt k.hv.2)
    have e2 : g * ((v1 * p + v2 + 1) * P) = g * (v1 * p + v2) * P + g * P := by
      rw [← Nat.mul_assoc, Nat.mul_add g, Nat.mul_one, Nat.add_mul]
    have e3 : g * (v1 * p + v2) * P ≤ U := by
      refine Nat.le_trans ?_ k.hu.1
      rw [← Nat.add_mul]
      apply Nat.mul_le_mul_right
      rw [Nat.mul_add, ← Nat.mul_assoc, ← h, Nat.add_mul]
      omega
    have e4 : g * P < p * P := Nat.mul_lt_mul_of_pos_right hg k.hP
    have e5 : p * P ≤ V := by
      refine Nat.le_trans ?_ k.hv.1
      apply Nat.mul_le_mul_right
      have : 1 * p ≤ v1 * p := Nat.mul_le_mul_right p hv1
      omega
    have e6 : (q + 2) * V ≤ g * V := Nat.mul_le_mul_right V h1
    have e7 : (q + 2) * V = (q + 1) * V + V := by rw [Nat.add_mul, Nat.add_mul]; omega
    have := k.hq.2
    omega
  · exact h1
/-- The end by the rest: the guess is the digit. -/
theorem Knuth.end2 {p U V v1 v2 top u2 P q g r : Nat} (k : Knuth p U V v1 v2 top u2 P q) (h : g * v1 + r = top) (hr : p ≤ r) (hg : g ≤ p) : g ≤ q := by
  rcases Nat.lt_or_ge q g with h1 | h1
  · exfalso
    -- g V < g (v1 + 1) p P <= (top - p + g) p P <= top p P <= U
    have e1 : g * V ≤ g * ((v1 * p + v2 + 1) * P) := Nat.mul_le_mul_left g (Nat.le_of_lt k.hv.2)
    have e2 : g * ((v1 * p + v2 + 1) * P) ≤ g * (v1 + 1) * (p * P) := by
      rw [← Nat.mul_assoc, ← Nat.mul_assoc]
      apply Nat.mul_le_mul_right
      rw [Nat.mul_assoc g (v1 + 1)]
      apply Nat.mul_le_mul_left
      rw [Nat.add_mul]
      have := k.hv2
      omega
    have e3 : g * (v1 + 1) * (p * P) ≤ top * (p * P) := by
      apply Nat.mul_le_mul_right
      rw [Nat.mul_add]
      omega
    have e4 : top * (p * P) = top * p * P := by rw [Nat.mul_assoc]
    have e5 : (q + 1) * V ≤ g * V := Nat.mul_le_mul_right V h1
    have := k.hq.2
    have := k.hu.1
    omega
  · exact h1

end Go.Proofs.Ytifnbpkcnkfanaa
