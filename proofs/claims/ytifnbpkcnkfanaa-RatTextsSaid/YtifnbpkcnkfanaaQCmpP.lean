/-
  Plain facts: comparing fractions.
-/
import Derived.Test.YtifnbpkcnkfanaaQP
namespace Go.Proofs.Ytifnbpkcnkfanaa

/-- -1, 0 or 1. -/
def rcq (x y : Rat) : Int := if x < y then -1 else if y < x then 1 else 0
theorem num_neg {q : Rat} : q.num < 0 ↔ q < 0 := by rw [← Int.not_le, Rat.num_nonneg, Rat.not_le]
theorem num_pos {q : Rat} : 0 < q.num ↔ 0 < q := by
  constructor
  · intro h
    refine Rat.lt_of_le_of_ne (Rat.num_nonneg.1 (by omega)) (fun e => ?_)
    rw [← e] at h; simp at h
  · intro h
    have h1 := Rat.num_nonneg.2 (Rat.le_of_lt h)
    have h2 : q.num ≠ 0 := fun e => by rw [Rat.num_eq_zero] at e; rw [e] at h; exact Rat.lt_irrefl h
    omega
theorem sign_cases (q : Rat) : (q < 0 ∧ q.num.sign = -1) ∨ (q = 0 ∧ q.num.sign = 0) ∨ (0 < q ∧ q.num.sign = 1) := by
  rcases Int.lt_trichotomy q.num 0 with h | h | h
  · left; exact ⟨num_neg.1 h, Int.sign_eq_neg_one_of_neg h⟩
  · right; left; exact ⟨Rat.num_eq_zero.1 h, by rw [h]; rfl⟩
  · right; right; exact ⟨num_pos.1 h, Int.sign_eq_one_of_pos h⟩
theorem rcq_lt {x y : Rat} (h : x < y) : rcq x y = -1 := if_pos h
theorem rcq_gt {x y : Rat} (h : y < x) : rcq x y = 1 := by
  unfold rcq; rw [if_neg (by grind), if_pos h]
theorem rcq_eq {x y : Rat} (h : x = y) : rcq x y = 0 := by
  subst h; unfold rcq; rw [if_neg Rat.lt_irrefl, if_neg Rat.lt_irrefl]
theorem rcq_sign_ne {x y : Rat} (h : x.num.sign ≠ y.num.sign) : (if x.num.sign < y.num.sign then (-1 : Int) else if y.num.sign < x.num.sign then 1 else 0) = rcq x y := by
  rcases sign_cases x with ⟨h1, h2⟩ | ⟨h1, h2⟩ | ⟨h1, h2⟩ <;> rcases sign_cases y with ⟨k1, k2⟩ | ⟨k1, k2⟩ | ⟨k1, k2⟩ <;> rw [h2, k2] at h ⊢
  all_goals first
    | exact absurd rfl h
    | (rw [rcq_lt (by grind)]; rfl)
    | (rw [rcq_gt (by grind)]; rfl)
theorem frac_lt {a b c d : Nat} (hb : b ≠ 0) (hd : d ≠ 0) : (a : Rat) / (b : Rat) < (c : Rat) / (d : Rat) ↔ a * d < c * b := by
  have h1 : (0 : Rat) < (b : Rat) := Rat.natCast_pos.2 (by omega)
  have h2 : (0 : Rat) < (d : Rat) := Rat.natCast_pos.2 (by omega)
  rw [Rat.div_lt_iff h1, show (c : Rat) / (d : Rat) * (b : Rat) = ((c * b : Nat) : Rat) / (d : Rat) by rw [Rat.natCast_mul]; grind, Rat.lt_div_iff h2, ← Rat.natCast_mul, Rat.natCast_lt_natCast]
theorem qv_pos_lt {a b c d : Nat} (hb : b ≠ 0) (hd : d ≠ 0) : qv false a b < qv false c d ↔ a * d < c * b := by
  rw [qv_eq _ _ _ hb, qv_eq _ _ _ hd]; simp only [sg, Bool.false_eq_true, if_false, Rat.one_mul]; exact frac_lt hb hd
theorem qv_neg_lt {a b c d : Nat} (hb : b ≠ 0) (hd : d ≠ 0) : qv true a b < qv true c d ↔ c * b < a * d := by
  have h1 : qv true a b = - qv false a b := qv_negate false a b
  have h2 : qv true c d = - qv false c d := qv_negate false c d
  rw [h1, h2, Rat.neg_lt_neg_iff]; exact qv_pos_lt hd hb
theorem rcq_pos {a b c d : Nat} (hb : b ≠ 0) (hd : d ≠ 0) : rcq (qv false a b) (qv false c d) = if a * d < c * b then -1 else if c * b < a * d then 1 else 0 := by
  unfold rcq
  simp only [qv_pos_lt hb hd, qv_pos_lt hd hb]
theorem rcq_neg {a b c d : Nat} (hb : b ≠ 0) (hd : d ≠ 0) : rcq (qv true a b) (qv true c d) = -(if a * d < c * b then -1 else if c * b < a * d then 1 else 0) := by
  unfold rcq
  simp only [qv_neg_lt hb hd, qv_neg_lt hd hb]
  by_cases h1 : c * b < a * d
  · rw [if_pos h1, if_neg (show ¬ a * d < c * b by omega), if_pos h1]
  · rw [if_neg h1]
    by_cases h2 : a * d < c * b
    · rw [if_pos h2, if_pos h2]; rfl
    · rw [if_neg h2, if_neg h2, if_neg h1]; rfl
end Go.Proofs.Ytifnbpkcnkfanaa
