/-
  Plain facts on decimal digits (the reference's arithmetic), no program in sight.
-/
import Derived.Test.YtifnbpkcnkfanaaNPlain
namespace Go.Proofs.Ytifnbpkcnkfanaa

theorem valB_push (b : Nat) (L : List Nat) (x : Nat) : valB b (L ++ [x]) = valB b L + b ^ L.length * x := by rw [valB_append, valB_single]
theorem mem_push {b : Nat} {L : List Nat} {x : Nat} (h : ∀ d ∈ L, d < b) (hx : x < b) : ∀ d ∈ L ++ [x], d < b := by
  intro d hd
  rcases List.mem_append.1 hd with h1 | h1
  · exact h d h1
  · simp at h1; omega
theorem take_all {l : List Nat} {i : Nat} (h : l.length ≤ i) : l.take i = l := List.take_of_length_le h

/-- Small so far. -/
def SmInv (D : List Nat) (f p : Nat) (L : List Nat) (i cr : Nat) : Prop :=
  L.length = i ∧ (∀ d ∈ L, d < 10) ∧ valB 10 L + 10 ^ i * cr = valB 10 (D.take i) * f + p ∧ cr * 10 ^ (i - D.length) ≤ 42949672960 ∧ i ≤ D.length + 11
theorem SmInv.start (D : List Nat) (f p : Nat) (hp : p ≤ 42949672960) : SmInv D f p [] 0 p := by
  refine ⟨rfl, by simp, by simp [valB], by simp; omega, by omega⟩
theorem SmInv.lt {D : List Nat} {f p : Nat} {L : List Nat} {i cr : Nat} (h : SmInv D f p L i cr) : cr ≤ 42949672960 := by
  have h1 := h.2.2.2.1
  have h2 : cr * 1 ≤ cr * 10 ^ (i - D.length) := Nat.mul_le_mul_left _ (Nat.pow_pos (by omega))
  omega
theorem SmInv.inside {D : List Nat} {f p : Nat} {L : List Nat} {i cr s : Nat} (h : SmInv D f p L i cr) (hi : i < D.length) (hD : ∀ d ∈ D, d < 10) (hf : f ≤ 4294967296) (hs : s = cr + nth D i * f) :
    SmInv D f p (L ++ [s % 10]) (i + 1) (s / 10) := by
  obtain ⟨h1, h2, h3, h4, h5⟩ := h
  have hd := hD _ (nth_mem hi)
  have h6 : nth D i * f ≤ 9 * 4294967296 := Nat.mul_le_mul (by omega) hf
  have hc : cr ≤ 42949672960 := by
    rw [show i - D.length = 0 by omega] at h4; simpa using h4
  refine ⟨by simp [h1], mem_push h2 (by omega), ?_, ?_, by omega⟩
  · rw [valB_push, valB_take hi, h1, Nat.pow_succ]
    have h7 : s = 10 * (s / 10) + s % 10 := by omega
    generalize s / 10 = q at *
    generalize s % 10 = r at *
    generalize 10 ^ i = P at *
    grind
  · rw [show i + 1 - D.length = 0 by omega]; omega
theorem SmInv.outside {D : List Nat} {f p : Nat} {L : List Nat} {i cr : Nat} (h : SmInv D f p L i cr) (hi : D.length ≤ i) (hc : 0 < cr) :
    SmInv D f p (L ++ [cr % 10]) (i + 1) (cr / 10) := by
  obtain ⟨h1, h2, h3, h4, h5⟩ := h
  have h6 : i - D.length ≤ 10 := by
    rcases Nat.lt_or_ge 10 (i - D.length) with h | h
    · have h7 : 10 ^ 11 ≤ 10 ^ (i - D.length) := Nat.pow_le_pow_right (by omega) h
      have h8 : 1 * 10 ^ (i - D.length) ≤ cr * 10 ^ (i - D.length) := Nat.mul_le_mul_right _ hc
      omega
    · exact h
  refine ⟨by simp [h1], mem_push h2 (by omega), ?_, ?_, by omega⟩
  · rw [valB_push, take_all (by omega), h1, Nat.pow_succ]
    rw [take_all hi] at h3
    have h7 : cr = 10 * (cr / 10) + cr % 10 := by omega
    generalize cr / 10 = q at *
    generalize cr % 10 = r at *
    generalize 10 ^ i = P at *
    grind
  · rw [show i + 1 - D.length = (i - D.length) + 1 by omega, Nat.pow_succ]
    have h7 : cr / 10 * 10 ≤ cr := by omega
    have h8 := Nat.mul_le_mul_right (10 ^ (i - D.length)) h7
    generalize 10 ^ (i - D.length) = P at *
    generalize cr / 10 = q at *
    have : q * (P * 10) = q * 10 * P := by grind
    omega
theorem SmInv.done {D : List Nat} {f p : Nat} {L : List Nat} {i : Nat} (h : SmInv D f p L i 0) (hi : D.length ≤ i) : valB 10 L = valB 10 D * f + p := by
  obtain ⟨h1, h2, h3, h4, h5⟩ := h
  rw [take_all hi] at h3
  simpa using h3

/-- Add so far. -/
def DaInv (D F : List Nat) (L : List Nat) (i cr : Nat) : Prop :=
  L.length = i ∧ (∀ d ∈ L, d < 10) ∧ valB 10 L + 10 ^ i * cr = valB 10 (D.take i) + valB 10 (F.take i) ∧ cr ≤ 1 ∧ (i ≤ D.length ∨ i ≤ F.length ∨ (i ≤ max D.length F.length + 1 ∧ cr = 0)) ∧
  (i = 0 ∨ (max D.length F.length ≤ i → cr = 1 ∨ nth L (i - 1) ≠ 0))
theorem DaInv.start (D F : List Nat) : DaInv D F [] 0 0 := ⟨rfl, by simp, by simp [valB], by omega, by omega, .inl rfl⟩
theorem nth_push (L : List Nat) (x : Nat) : nth (L ++ [x]) L.length = x := by simp [nth, List.getD]
theorem valB_take' {b : Nat} {l : List Nat} {k : Nat} : valB b (l.take (k + 1)) = valB b (l.take k) + b ^ k * (if k < l.length then nth l k else 0) := by
  by_cases h : k < l.length
  · rw [if_pos h, valB_take h]
  · rw [if_neg h, take_all (by omega), take_all (by omega)]; simp
theorem last_pos {D : List Nat} {V : Nat} (h : Nrm 10 D V) {i : Nat} (hi : i + 1 = D.length) : 0 < nth D i := by
  rcases h.2.2 with h0 | h0
  · subst h0; simp at hi
  · rw [show D.length - 1 = i by omega] at h0; omega
theorem DaInv.step {D F : List Nat} {N M : Nat} {L : List Nat} {i cr s : Nat} (h : DaInv D F L i cr) (hD : Nrm 10 D N) (hF : Nrm 10 F M) (hi : i < D.length ∨ i < F.length ∨ 0 < cr)
    (hs : s = cr + (if i < D.length then nth D i else 0) + (if i < F.length then nth F i else 0)) : DaInv D F (L ++ [s % 10]) (i + 1) (s / 10) := by
  obtain ⟨h1, h2, h3, h4, h5, h6⟩ := h
  have hd : (if i < D.length then nth D i else 0) < 10 := by
    split
    · rename_i h; exact hD.2.1 _ (nth_mem h)
    · omega
  have hf : (if i < F.length then nth F i else 0) < 10 := by
    split
    · rename_i h; exact hF.2.1 _ (nth_mem h)
    · omega
  have hpos : max D.length F.length ≤ i + 1 → 0 < s := by
    intro hm
    by_cases a1 : i < D.length
    · rw [if_pos a1] at hs
      by_cases a2 : i + 1 = D.length
      · have := last_pos hD a2; omega
      · omega
    · by_cases a2 : i < F.length
      · rw [if_pos a2] at hs
        by_cases a3 : i + 1 = F.length
        · have := last_pos hF a3; omega
        · omega
      · omega
  refine ⟨by simp [h1], mem_push h2 (by omega), ?_, by omega, ?_, .inr fun hm => ?_⟩
  · rw [valB_push, valB_take', valB_take', h1, Nat.pow_succ]
    generalize (if i < D.length then nth D i else 0) = x at *
    generalize (if i < F.length then nth F i else 0) = y at *
    have h7 : s = 10 * (s / 10) + s % 10 := by omega
    generalize s / 10 = q at *
    generalize s % 10 = r at *
    generalize 10 ^ i = P at *
    grind
  · by_cases a1 : i < D.length
    · left; omega
    · by_cases a2 : i < F.length
      · right; left; omega
      · right; right
        rw [if_neg a1, if_neg a2] at hs
        omega
  · have h7 := hpos hm
    have h8 : nth (L ++ [s % 10]) (i + 1 - 1) = s % 10 := by rw [show i + 1 - 1 = L.length by omega, nth_push]
    rw [h8]
    omega
theorem DaInv.done {D F : List Nat} {N M : Nat} {L : List Nat} {i : Nat} (h : DaInv D F L i 0) (hD : Nrm 10 D N) (hF : Nrm 10 F M) (hi : D.length ≤ i) (hj : F.length ≤ i) : Nrm 10 L (N + M) := by
  obtain ⟨h1, h2, h3, h4, h5, h6⟩ := h
  rw [take_all hi, take_all hj, hD.1, hF.1] at h3
  refine ⟨by simpa using h3, h2, ?_⟩
  rcases h6 with h0 | h0
  · left; exact List.eq_nil_of_length_eq_zero (by omega)
  · right
    rcases h0 (by omega) with h0 | h0
    · omega
    · rw [h1]; exact h0

/-- Sub so far. -/
def DsInv (D F : List Nat) (L : List Nat) (i br : Nat) : Prop :=
  L.length = i ∧ (∀ d ∈ L, d < 10) ∧ valB 10 L + valB 10 (F.take i) = valB 10 (D.take i) + 10 ^ i * br ∧ br ≤ 1
theorem DsInv.start (D F : List Nat) : DsInv D F [] 0 0 := ⟨rfl, by simp, by simp [valB], by omega⟩
theorem DsInv.step {D F : List Nat} {L : List Nat} {i br x y r br' : Nat} (h : DsInv D F L i br) (hi : i < D.length) (hx : x = nth D i) (hy : y = if i < F.length then nth F i else 0)
    (hb : br' ≤ 1) (hr : r < 10) (he : r + y + br = x + 10 * br') : DsInv D F (L ++ [r]) (i + 1) br' := by
  obtain ⟨h1, h2, h3, h4⟩ := h
  refine ⟨by simp [h1], mem_push h2 hr, ?_, hb⟩
  rw [valB_push, valB_take', valB_take', h1, Nat.pow_succ, ← hy, if_pos hi, ← hx]
  generalize 10 ^ i = P at *
  grind
theorem DsInv.done {D F : List Nat} {N M : Nat} {L : List Nat} {br : Nat} (h : DsInv D F L D.length br) (hD : Nrm 10 D N) (hF : Nrm 10 F M) (hle : M ≤ N) : valB 10 L = N - M := by
  obtain ⟨h1, h2, h3, h4⟩ := h
  have hlen : F.length ≤ D.length := by
    rcases Nat.lt_or_ge D.length F.length with h | h
    · have := hD.len_lt hF (by omega) h; omega
    · exact h
  rw [take_all (Nat.le_refl _), take_all hlen, hD.1, hF.1] at h3
  have h5 := valB_lt h2
  rw [h1] at h5
  rcases Nat.lt_or_ge br 1 with h6 | h6
  · have : br = 0 := by omega
    subst this
    simp at h3; omega
  · have : br = 1 := by omega
    subst this
    rw [Nat.mul_one] at h3
    omega
theorem Nrm.small_lt {D : List Nat} {N b : Nat} (h : Nrm 10 D N) (hb : N < 10 ^ b) : D.length ≤ b := by
  rcases Nat.lt_or_ge b D.length with h1 | h1
  · have h2 := h.pos (by omega)
    have h3 : 10 ^ b ≤ 10 ^ (D.length - 1) := Nat.pow_le_pow_right (by omega) (by omega)
    omega
  · exact h1
end Go.Proofs.Ytifnbpkcnkfanaa
