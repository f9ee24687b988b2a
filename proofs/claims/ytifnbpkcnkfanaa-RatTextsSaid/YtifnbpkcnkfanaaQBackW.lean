/-
  rat.Text and rat.Parse, said of values.
-/
import Derived.Test.YtifnbpkcnkfanaaQParse
import Derived.Test.YtifnbpkcnkfanaaQCnt
namespace Go.Proofs.Ytifnbpkcnkfanaa
open Go.RowKit

theorem Rw.parts {b : Nat} {x : Rat} {v : Value} {w : World} (h : Rw b x v w) : x.num.natAbs < PB b ∧ x.den < PB b ∧ 1 ≤ b := by
  obtain ⟨s, A, n, c, B, m, d, rfl, N, M, h1, h2, rfl⟩ := h
  have b1 := h1.2.1
  have n1 := h1.2.2.2.1
  have m1 := h2.2.2.2.1
  have p1 : 1 < PB b := by
    have : PB 1 ≤ PB b := PB_mono b1
    have : PB 1 = 4294967296 := by simp [PB]
    omega
  by_cases hM : M = 0
  · rw [hM, qv_den0, qv_abs (by omega), qv_den (by omega), Nat.gcd_one_right]
    exact ⟨by omega, by omega, b1⟩
  · rw [qv_abs hM, qv_den hM]
    exact ⟨Nat.lt_of_le_of_lt (Nat.div_le_self _ _) n1, Nat.lt_of_le_of_lt (Nat.div_le_self _ _) m1, b1⟩
theorem text_v {b : Nat} {x : Rat} {v : Value} {w : World} (h : Rw b x v w) (hb : b ≤ 4900) : Calls Try.prog 35 #[v] w (RV w (fun u _ => u = .string (txt x))) := by
  obtain ⟨s, A, n, c, B, m, d, rfl, h⟩ := h
  exact rv_one (qtext_any h (by omega))
theorem dT_size {n b : Nat} (h : n < PB b) (hb : 1 ≤ b) : (dT n).length ≤ 10 * b := by
  unfold dT; rw [bytes_length]; exact decT_size h hb
theorem txt_size {x : Rat} {b : Nat} (h1 : x.num.natAbs < PB b) (h2 : x.den < PB b) (hb : 1 ≤ b) : (txt x).size ≤ 20 * b + 2 := by
  have a1 := dT_size h1 hb
  have a2 := dT_size h2 hb
  rw [← bytes_length, bytes_txt]
  unfold tB
  by_cases h : x.den = 1
  · rw [if_pos h]; cases decide (x.num < 0) <;> simp <;> omega
  · rw [if_neg h]; cases decide (x.num < 0) <;> simp <;> omega
theorem parse_v {b : Nat} {x : Rat} (h1 : x.num.natAbs < PB b) (h2 : x.den < PB b) (hb : 1 ≤ b) (hb2 : b ≤ 100) (v : Value) (hv : v = .string (txt x)) (w : World) : Calls Try.prog 33 #[v] w (RV w (Dv 1201 x)) := by
  subst hv
  have hz := txt_size h1 h2 hb
  have a1 := dT_size h1 hb
  have a2 := dT_size h2 hb
  refine (qparse_any (txt x) (by omega) w).mono ?_
  rintro e w1 ⟨hb1, _, _, h3⟩
  obtain ⟨o1, o2⟩ := ok_txt x
  obtain ⟨q, rfl, h4⟩ := h3 (long_txt (by omega) (by omega)) o1
  rw [o2] at h4
  exact ⟨_, rfl, ⟨q, rfl, h4⟩, hb1⟩
theorem call_text : callsB Try.prog 35 = true := by kernel_rfl
theorem call_parse : callsB Try.prog 33 = true := by kernel_rfl
end Go.Proofs.Ytifnbpkcnkfanaa
