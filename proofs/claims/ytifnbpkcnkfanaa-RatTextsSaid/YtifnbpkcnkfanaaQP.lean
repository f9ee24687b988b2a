/-
  Plain facts on fractions: a sign, a numerator and a denominator as a rational number of Lean's own.
-/
import Derived.Test.YtifnbpkcnkfanaaNPlain
namespace Go.Proofs.Ytifnbpkcnkfanaa

/-- The value of a sign, a numerator and a denominator; a denominator of 0 counts as 1. -/
def qv (s : Bool) (N M : Nat) : Rat := mkRat (if s then -(N : Int) else (N : Int)) (if M = 0 then 1 else M)
theorem qv_zero (s : Bool) (M : Nat) : qv s 0 M = 0 := by
  unfold qv; cases s <;> simp
theorem qv_den0 (s : Bool) (N : Nat) : qv s N 0 = qv s N 1 := by simp [qv]
theorem natAbs_sg (s : Bool) (N : Nat) : (if s then -(N : Int) else (N : Int)).natAbs = N := by cases s <;> simp
theorem qv_num {s : Bool} {N M : Nat} (hM : M ≠ 0) : (qv s N M).num = if s then -((N / Nat.gcd N M : Nat) : Int) else ((N / Nat.gcd N M : Nat) : Int) := by
  unfold qv
  rw [if_neg hM, Rat.num_mkRat, if_neg hM, natAbs_sg, Nat.gcd_comm]
  have h : ((Nat.gcd N M : Nat) : Int) ∣ (N : Int) := Int.natCast_dvd_natCast.2 (Nat.gcd_dvd_left N M)
  cases s
  · simp
  · simp only [if_true]
    rw [Int.neg_ediv_of_dvd h]; simp
theorem qv_den {s : Bool} {N M : Nat} (hM : M ≠ 0) : (qv s N M).den = M / Nat.gcd N M := by
  unfold qv
  rw [if_neg hM, Rat.den_mkRat, if_neg hM, natAbs_sg, Nat.gcd_comm]
theorem qv_abs {s : Bool} {N M : Nat} (hM : M ≠ 0) : (qv s N M).num.natAbs = N / Nat.gcd N M := by
  rw [qv_num hM, natAbs_sg]
theorem qv_neg {s : Bool} {N M : Nat} (hM : M ≠ 0) (hN : N ≠ 0) : decide ((qv s N M).num < 0) = s := by
  rw [qv_num hM]
  have hg : 0 < Nat.gcd N M := Nat.gcd_pos_of_pos_left _ (by omega)
  have : 0 < N / Nat.gcd N M := Nat.div_pos (Nat.le_of_dvd (by omega) (Nat.gcd_dvd_left N M)) hg
  generalize N / Nat.gcd N M = k at *
  cases s <;> simp <;> omega
/-- A number is the fraction of its own parts. -/
theorem qv_self (x : Rat) : qv (decide (x.num < 0)) x.num.natAbs x.den = x := by
  unfold qv
  rw [if_neg x.den_nz]
  have : (if decide (x.num < 0) = true then -(x.num.natAbs : Int) else (x.num.natAbs : Int)) = x.num := by
    by_cases h : x.num < 0
    · rw [if_pos (by simpa using h)]; omega
    · rw [if_neg (by simpa using h)]; omega
  rw [this, Rat.mkRat_self]
def sg (s : Bool) : Rat := if s then -1 else 1
theorem qv_eq (s : Bool) (N M : Nat) (hM : M ≠ 0) : qv s N M = sg s * (N : Rat) / (M : Rat) := by
  unfold qv sg
  rw [if_neg hM, Rat.mkRat_eq_div]
  cases s
  · simp [Rat.one_mul]; rfl
  · simp only [if_true, Rat.intCast_neg]
    rw [Rat.neg_mul, Rat.one_mul]
    rfl
theorem cast_ne {M : Nat} (h : M ≠ 0) : (M : Rat) ≠ 0 := by
  intro h2
  apply h
  have : ((M : Rat)).num = (0 : Rat).num := by rw [h2]
  simpa using this
theorem sg_mul (s t : Bool) : sg s * sg t = sg (s != t) := by cases s <;> cases t <;> simp [sg] <;> grind
theorem sg_sq (s : Bool) : sg s * sg s = 1 := by rw [sg_mul]; simp [sg]
theorem qv_same {s : Bool} {a b c d : Nat} (hb : b ≠ 0) (hd : d ≠ 0) : qv s (a * d + c * b) (b * d) = qv s a b + qv s c d := by
  have hbd : b * d ≠ 0 := Nat.mul_ne_zero hb hd
  rw [qv_eq _ _ _ hbd, qv_eq _ _ _ hb, qv_eq _ _ _ hd, Rat.natCast_add, Rat.natCast_mul, Rat.natCast_mul, Rat.natCast_mul]
  have h1 := cast_ne hb
  have h2 := cast_ne hd
  generalize (a : Rat) = a at *
  generalize (b : Rat) = b at *
  generalize (c : Rat) = c at *
  generalize (d : Rat) = d at *
  generalize sg s = s at *
  grind
theorem sg_not (s : Bool) : sg (!s) = - sg s := by cases s <;> simp [sg]
theorem qv_diff {s : Bool} {a b c d : Nat} (hb : b ≠ 0) (hd : d ≠ 0) (h : c * b ≤ a * d) : qv s (a * d - c * b) (b * d) = qv s a b + qv (!s) c d := by
  have hbd : b * d ≠ 0 := Nat.mul_ne_zero hb hd
  have hs : ((a * d - c * b : Nat) : Rat) = (a : Rat) * (d : Rat) - (c : Rat) * (b : Rat) := by
    obtain ⟨k, hk⟩ := Nat.le.dest h
    rw [← hk, Nat.add_sub_cancel_left, ← Rat.natCast_mul, ← Rat.natCast_mul, ← hk, Rat.natCast_add]
    grind
  rw [qv_eq _ _ _ hbd, qv_eq _ _ _ hb, qv_eq _ _ _ hd, hs, Rat.natCast_mul, sg_not]
  have h1 := cast_ne hb
  have h2 := cast_ne hd
  generalize (a : Rat) = a at *
  generalize (b : Rat) = b at *
  generalize (c : Rat) = c at *
  generalize (d : Rat) = d at *
  generalize sg s = s at *
  grind
theorem qv_mul {s t : Bool} {a b c d : Nat} (hb : b ≠ 0) (hd : d ≠ 0) : qv (s != t) (a * c) (b * d) = qv s a b * qv t c d := by
  have hbd : b * d ≠ 0 := Nat.mul_ne_zero hb hd
  rw [qv_eq _ _ _ hbd, qv_eq _ _ _ hb, qv_eq _ _ _ hd, Rat.natCast_mul, Rat.natCast_mul, ← sg_mul]
  have h1 := cast_ne hb
  have h2 := cast_ne hd
  generalize (a : Rat) = a at *
  generalize (b : Rat) = b at *
  generalize (c : Rat) = c at *
  generalize (d : Rat) = d at *
  generalize sg s = s at *
  generalize sg t = t at *
  grind
theorem qv_inv {s : Bool} {a b : Nat} (ha : a ≠ 0) (hb : b ≠ 0) : qv s b a = (qv s a b)⁻¹ := by
  rw [qv_eq _ _ _ ha, qv_eq _ _ _ hb]
  have h1 := cast_ne ha
  have h2 := cast_ne hb
  have h3 := sg_sq s
  generalize (a : Rat) = a at *
  generalize (b : Rat) = b at *
  generalize sg s = s at *
  have h4 : s ≠ 0 := by intro h; rw [h] at h3; simp at h3
  symm
  apply Rat.inv_eq_of_mul_eq_one
  grind
theorem qv_negate (s : Bool) (N M : Nat) : qv (!s) N M = - qv s N M := by
  by_cases hM : M = 0
  · subst hM
    rw [qv_den0, qv_den0, qv_eq _ _ _ (by omega), qv_eq _ _ _ (by omega), sg_not]; grind
  · rw [qv_eq _ _ _ hM, qv_eq _ _ _ hM, sg_not]; grind
end Go.Proofs.Ytifnbpkcnkfanaa
