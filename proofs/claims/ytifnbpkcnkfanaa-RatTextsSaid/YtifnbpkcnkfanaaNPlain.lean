/-
  Plain facts on numbers as lists of digits, least significant first (no program in sight).
-/
import Derived.Test.YtifnbpkcnkfanaaPlain
namespace Go.Proofs.Ytifnbpkcnkfanaa

/-- The value of a list of digits in base b. -/
def valB (b : Nat) : List Nat → Nat
  | [] => 0
  | d :: l => d + b * valB b l
/-- Digits below b, the last one not 0; they are worth n. -/
def Nrm (b : Nat) (l : List Nat) (n : Nat) : Prop := valB b l = n ∧ (∀ d ∈ l, d < b) ∧ (l = [] ∨ nth l (l.length - 1) ≠ 0)

theorem valB_append (b : Nat) (l m : List Nat) : valB b (l ++ m) = valB b l + b ^ l.length * valB b m := by
  induction l with
  | nil => simp [valB]
  | cons d l ih => simp only [List.cons_append, valB, ih, List.length_cons, Nat.pow_succ]; rw [Nat.mul_add, Nat.add_assoc, ← Nat.mul_assoc, Nat.mul_comm b (b ^ l.length)]
theorem valB_single (b d : Nat) : valB b [d] = d := by simp [valB]
theorem valB_lt {b : Nat} {l : List Nat} (h : ∀ d ∈ l, d < b) : valB b l < b ^ l.length := by
  induction l with
  | nil => simp [valB]
  | cons d l ih =>
    have h1 := ih (fun x hx => h x (by simp [hx]))
    have h2 := h d (by simp)
    simp only [valB, List.length_cons, Nat.pow_succ]
    have h3 : b * (valB b l + 1) ≤ b * b ^ l.length := Nat.mul_le_mul_left b h1
    rw [Nat.mul_comm (b ^ l.length) b]
    rw [Nat.mul_add] at h3
    omega
theorem valB_take {b : Nat} {l : List Nat} {k : Nat} (h : k < l.length) : valB b (l.take (k + 1)) = valB b (l.take k) + b ^ k * nth l k := by
  rw [List.take_succ_eq_append_getElem h, valB_append, valB_single, nth_eq h, List.length_take, Nat.min_eq_left (by omega)]
theorem valB_split (b : Nat) (l : List Nat) (k : Nat) (h : k ≤ l.length) : valB b l = valB b (l.take k) + b ^ k * valB b (l.drop k) := by
  have h1 := valB_append b (l.take k) (l.drop k)
  rw [List.take_append_drop, List.length_take, Nat.min_eq_left h] at h1
  exact h1
theorem valB_drop {b : Nat} {l : List Nat} {k : Nat} (h : k < l.length) : valB b (l.drop k) = nth l k + b * valB b (l.drop (k + 1)) := by
  rw [List.drop_eq_getElem_cons h, valB, nth_eq h]
theorem valB_zero (b n : Nat) : valB b (List.replicate n 0) = 0 := by
  induction n with
  | zero => rfl
  | succ n ih => simp [List.replicate_succ, valB, ih]
theorem valB_set {b : Nat} {l : List Nat} {k x : Nat} (h : k < l.length) : valB b (l.set k x) + b ^ k * nth l k = valB b l + b ^ k * x := by
  have h1 := valB_split b (l.set k x) k (by simp; omega)
  have h2 := valB_split b l k (by omega)
  have h3 : (l.set k x).take k = l.take k := by rw [List.take_set]; exact List.set_eq_of_length_le (by simp; omega)
  have h4 : valB b ((l.set k x).drop k) = x + b * valB b (l.drop (k + 1)) := by
    rw [valB_drop (by simp; exact h), nth_eq (by simp; exact h)]
    simp [List.drop_set]
  rw [h3, h4, Nat.mul_add] at h1
  rw [valB_drop h, Nat.mul_add] at h2
  omega
theorem valB_all_zero {b : Nat} {l : List Nat} (h : ∀ k, k < l.length → nth l k = 0) : valB b l = 0 := by
  induction l with
  | nil => rfl
  | cons d l ih =>
    have h0 := h 0 (by simp)
    simp only [nth, List.getD, List.getElem?_cons_zero, Option.getD_some] at h0
    rw [valB, h0, ih (fun k hk => ?_)]
    · simp
    · have := h (k + 1) (by simp; omega)
      simpa [nth, List.getD] using this
theorem nth_take {l : List Nat} {k j : Nat} (h : j < k) : nth (l.take k) j = nth l j := by
  simp [nth, List.getD, h]
/-- Taking off zeros at the end changes nothing. -/
theorem valB_trim {b : Nat} {l : List Nat} {k : Nat} (hk : k ≤ l.length) (h : ∀ j, k ≤ j → j < l.length → nth l j = 0) : valB b (l.take k) = valB b l := by
  rw [valB_split b l k hk, valB_all_zero (l := l.drop k) (fun j hj => ?_)]
  · simp
  · rw [List.length_drop] at hj
    have := h (k + j) (by omega) (by omega)
    simpa [nth, List.getD, List.getElem?_drop] using this
theorem Nrm.nil (b : Nat) : Nrm b [] 0 := ⟨rfl, by simp, .inl rfl⟩
theorem Nrm.pos {b : Nat} {l : List Nat} {n : Nat} (h : Nrm b l n) (hl : 0 < l.length) : b ^ (l.length - 1) ≤ n := by
  have h1 : nth l (l.length - 1) ≠ 0 := by
    rcases h.2.2 with h0 | h0
    · subst h0; simp at hl
    · exact h0
  have h2 := valB_take (b := b) (l := l) (k := l.length - 1) (by omega)
  rw [Nat.sub_add_cancel hl, List.take_length, h.1] at h2
  rw [h2]
  have : b ^ (l.length - 1) * 1 ≤ b ^ (l.length - 1) * nth l (l.length - 1) := Nat.mul_le_mul_left _ (by omega)
  omega
theorem Nrm.lt {b : Nat} {l : List Nat} {n : Nat} (h : Nrm b l n) : n < b ^ l.length := by
  rw [← h.1]; exact valB_lt h.2.1
theorem Nrm.zero_iff {b : Nat} {l : List Nat} {n : Nat} (h : Nrm b l n) (hb : 0 < b) : l.length = 0 ↔ n = 0 := by
  constructor
  · intro h0; have := h.lt; rw [h0] at this; simp at this; exact this
  · intro h0
    rcases Nat.eq_zero_or_pos l.length with h1 | h1
    · exact h1
    · have h2 := h.pos h1
      have h3 : 0 < b ^ (l.length - 1) := Nat.pow_pos hb
      omega
theorem Nrm.len_lt {b : Nat} {l m : List Nat} {x y : Nat} (h : Nrm b l x) (k : Nrm b m y) (hb : 0 < b) (hlt : l.length < m.length) : x < y := by
  have h1 := h.lt
  have h2 := k.pos (by omega)
  have h3 : b ^ l.length ≤ b ^ (m.length - 1) := Nat.pow_le_pow_right hb (by omega)
  omega
/-- Two lists of one length that agree above k, compared at k. -/
theorem val_cmp {b : Nat} {l m : List Nat} {k : Nat} (hl : ∀ d ∈ l, d < b) (hlen : l.length = m.length) (hk : k < l.length)
    (hd : l.drop (k + 1) = m.drop (k + 1)) (hlt : nth l k < nth m k) : valB b l < valB b m := by
  rw [valB_split b l (k + 1) (by omega), valB_split b m (k + 1) (by omega), hd, valB_take hk, valB_take (by omega)]
  have h1 : valB b (l.take k) < b ^ k := by
    have := valB_lt (b := b) (l := l.take k) (fun d hd => hl d (List.mem_of_mem_take hd))
    rwa [List.length_take, Nat.min_eq_left (by omega)] at this
  have h2 : b ^ k * (nth l k + 1) ≤ b ^ k * nth m k := Nat.mul_le_mul_left _ hlt
  rw [Nat.mul_add] at h2
  omega
theorem Nrm.mk_trim {b : Nat} {l : List Nat} {k : Nat} (hl : ∀ d ∈ l, d < b) (hk : k ≤ l.length) (h : ∀ j, k ≤ j → j < l.length → nth l j = 0) (hlast : k = 0 ∨ nth l (k - 1) ≠ 0) : Nrm b (l.take k) (valB b l) := by
  refine ⟨valB_trim hk h, fun d hd => hl d (List.mem_of_mem_take hd), ?_⟩
  rcases hlast with h0 | h0
  · left; subst h0; simp
  · by_cases hk0 : k = 0
    · left; subst hk0; simp
    · right
      rw [List.length_take, Nat.min_eq_left hk, nth_take (by omega)]
      exact h0
theorem Nrm.unique {b : Nat} {l m : List Nat} {x : Nat} (h : Nrm b l x) (k : Nrm b m x) (hb : 0 < b) : l = m := by
  have hlen : l.length = m.length := by
    rcases Nat.lt_trichotomy l.length m.length with h1 | h1 | h1
    · have := h.len_lt k hb h1; omega
    · exact h1
    · have := k.len_lt h hb h1; omega
  have : ∀ (l m : List Nat), l.length = m.length → (∀ d ∈ l, d < b) → (∀ d ∈ m, d < b) → valB b l = valB b m → l = m := by
    intro l
    induction l with
    | nil => intro m h1 _ _ _; exact (List.eq_nil_of_length_eq_zero h1.symm).symm
    | cons d l ih =>
      intro m h1 h2 h3 h4
      cases m with
      | nil => simp at h1
      | cons e m =>
        simp only [valB] at h4
        have hd := h2 d (by simp)
        have he := h3 e (by simp)
        have h5 : d = e := by
          have : (d + b * valB b l) % b = (e + b * valB b m) % b := by rw [h4]
          simpa [Nat.add_mul_mod_self_left, Nat.mod_eq_of_lt hd, Nat.mod_eq_of_lt he] using this
        subst h5
        have h6 : valB b l = valB b m := Nat.eq_of_mul_eq_mul_left hb (by omega)
        rw [ih m (by simpa using h1) (fun x hx => h2 x (by simp [hx])) (fun x hx => h3 x (by simp [hx])) h6]
  exact this l m hlen h.2.1 k.2.1 (h.1.trans k.1.symm)

end Go.Proofs.Ytifnbpkcnkfanaa
