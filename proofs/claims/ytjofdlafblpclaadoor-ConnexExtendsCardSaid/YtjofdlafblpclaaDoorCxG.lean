/-
  Plain: no free-path where one edge holds all vertices.
-/
import Derived.Test.YtjofdlafblpclaaDoorCxC
import Derived.Test.YtjofdlafblpclaaDoorIns
import Derived.Test.YtjofdlafblpclaaDoorCxQ
namespace Go.Proofs.YtjofdlafblpclaaDoor
set_option linter.unusedVariables false
variable {n : Nat} {es : List Nat}
theorem bd_snoc {b : Nat} (hb : ∀ x ∈ es, x < 2 ^ n) (h : b < 2 ^ n) : ∀ x ∈ es ++ [b], x < 2 ^ n := by
  intro x hx
  rw [List.mem_append, List.mem_singleton] at hx
  rcases hx with h1 | rfl
  · exact hb x h1
  · exact h
theorem perm_snoc (b : Nat) : (b :: es).Perm (es ++ [b]) := (List.perm_append_comm (l₁ := es) (l₂ := [b])).symm
theorem acyc_within (hn : n ≤ 32) (hb : ∀ x ∈ es, x < 2 ^ n) {b : Nat} (h : b < 2 ^ n) {y : Nat} (hy : y ∈ es) (hs : sub b y) : Acyc n (es ++ [b]) ↔ Acyc n es := by
  rw [acyc_iff hn (bd_snoc hb h), acyc_iff hn hb]
  exact ⟨fun k => (Rip.perm (perm_snoc b).symm k).del hy hs, fun k => Rip.perm (perm_snoc b) (k.add hy hs)⟩
theorem rip_one (b : Nat) : Rip [b] := ⟨[b], List.Perm.refl _, .inl rfl, trivial⟩
theorem sub_full {x : Nat} (hx : x < 2 ^ n) : sub x (2 ^ n - 1) := by
  intro v hv
  have := testBit_lt hx hv
  simp [Nat.testBit_two_pow_sub_one, this]
theorem acyc_full (hn : n ≤ 32) (hb : ∀ x ∈ es, x < 2 ^ n) : Acyc n (es ++ [2 ^ n - 1]) := by
  rw [acyc_iff hn (bd_snoc hb (by have := pow2_pos n; omega))]
  exact (rip_extra es (fun x hx => ⟨2 ^ n - 1, by simp, sub_full (hb x hx)⟩)).2 (rip_one _)
theorem acyc_zero (hn : n ≤ 32) (hb : ∀ x ∈ es, x < 2 ^ n) (h : Acyc n es) : Acyc n (es ++ [2 ^ 0 - 1]) := by
  cases es with
  | nil =>
    rw [acyc_iff hn (bd_snoc hb (by have := pow2_pos n; omega))]
    exact rip_one _
  | cons e es => exact (acyc_within hn hb (by have := pow2_pos n; omega) (y := e) (by simp) (fun v hv => by simp at hv)).2 h
theorem acyc_inside (hn : n ≤ 32) (hb : ∀ x ∈ es, x < 2 ^ n) {f : Nat} (hf : f ≤ n) (h : Acyc n es) (hi : es.any (holdsB (2 ^ f - 1)) = true) : Acyc n (es ++ [2 ^ f - 1]) := by
  rw [List.any_eq_true] at hi
  obtain ⟨y, hy, h0⟩ := hi
  have h1 := below_pow hf
  have h2 : 2 ^ n ≤ 2 ^ 32 := two_pow_le hn
  exact (acyc_within hn hb h1 hy (sub_of_andn (by omega) (Nat.lt_of_lt_of_le (hb y hy) h2) (of_decide_eq_true h0))).2 h
end Go.Proofs.YtjofdlafblpclaaDoor
namespace Go.Proofs.YtjofdlafblpclaaDoor
set_option linter.unusedVariables false
theorem far_zero {n f a : Nat} {es : List Nat} (hn : n ≤ 32) (hb : ∀ x ∈ es, x < 2 ^ n) (hf : f ≤ n) (ha : a < f) : farF (adjRow n (es ++ [2 ^ n - 1])) f a = 0 := by
  have hb2 : ∀ x ∈ es ++ [2 ^ n - 1], x < 2 ^ n := bd_snoc hb (by have := pow2_pos n; omega)
  have hR := adjRow_lt9 hn hb2
  have h1 := below_lt9 (f := f) (by omega)
  have h2 := nth_lt32 hR a
  have h3 : 2 ^ a < 2 ^ 32 := Nat.pow_lt_pow_right (by decide) (by omega)
  refine zero_of_bits fun v => ?_
  unfold farF
  have h4 : andn (2 ^ f - 1) (nth (adjRow n (es ++ [2 ^ n - 1])) a) < 2 ^ 32 := Nat.lt_of_le_of_lt Nat.and_le_left h1
  rw [testBit_andn h3 h4, testBit_andn h2 h1]
  rw [nth_adjRow (by omega), if_pos (show a < n by omega), Nat.testBit_two_pow_sub_one, Nat.testBit_two_pow]
  by_cases hv : v < f
  · by_cases hva : a = v
    · simp [hva]
    · have : (adj (es ++ [2 ^ n - 1]) a).testBit v = true := (adj_bit (fun e he => Nat.lt_of_lt_of_le (hb2 e he) (two_pow_le hn)) (by omega)).2 ⟨fun h => hva h.symm, 2 ^ n - 1, by simp, by simp [Nat.testBit_two_pow_sub_one]; omega, by simp [Nat.testBit_two_pow_sub_one]; omega⟩
      simp [this]
  · simp [hv]
theorem path_full {n f : Nat} {es : List Nat} (hn : n ≤ 32) (hb : ∀ x ∈ es, x < 2 ^ n) (hf : f ≤ n) : pathF n (es ++ [2 ^ n - 1]) f = none := by
  refine pathF_none fun a ha => ?_
  cases h : (shF n (es ++ [2 ^ n - 1]) f).2 a with
  | zero => rfl
  | succ m =>
    obtain ⟨_, k, _, _, h4⟩ := sh_inv f a (show (shTo (adjRow n (es ++ [2 ^ n - 1])) (innF n f) f f).2 a ≠ 0 by
      show (shF n (es ++ [2 ^ n - 1]) f).2 a ≠ 0
      omega)
    have h5 : lastF (adjRow n (es ++ [2 ^ n - 1])) (innF n f) f a k = 0 := by
      unfold lastF; rw [far_zero hn hb hf ha]; simp
    rw [h5] at h4
    have h6 : (shF n (es ++ [2 ^ n - 1]) f).2 a = 0 := h4
    omega
theorem free_again {n f : Nat} {es : List Nat} (hn : n ≤ 32) (hb : ∀ x ∈ es, x < 2 ^ n) (hf : f ≤ n) (h : FreeCon n es f) : FreeCon n (es ++ [2 ^ f - 1]) f :=
  ⟨h.2, (acyc_within hn (bound_snoc hf hb) (below_pow hf) (y := 2 ^ f - 1) (by simp) (fun v hv => hv)).2 h.2⟩
theorem free_full {n f : Nat} {es : List Nat} (hn : n ≤ 32) (hb : ∀ x ∈ es, x < 2 ^ n) (hf : f ≤ n) : FreeCon n (es ++ [2 ^ n - 1]) f :=
  ⟨acyc_full hn hb, (acyc_within hn (bound_snoc (Nat.le_refl n) hb) (below_pow hf) (y := 2 ^ n - 1) (by simp) (sub_full (below_pow hf))).2 (acyc_full hn hb)⟩
end Go.Proofs.YtjofdlafblpclaaDoor
