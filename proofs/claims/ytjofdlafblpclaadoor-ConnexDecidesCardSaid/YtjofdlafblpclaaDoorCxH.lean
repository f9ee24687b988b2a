/-
  Plain: what connex.shortest finds is a way for connex.walk.
-/
import Derived.Test.YtjofdlafblpclaaDoorCxW
namespace Go.Proofs.YtjofdlafblpclaaDoor
set_option linter.unusedVariables false

def Symm (R : List Nat) : Prop := ∀ u v, u < 32 → v < 32 → (nth R u).testBit v = true → (nth R v).testBit u = true
section
variable {R : List Nat} {inn f a : Nat}
theorem bit_lt32 {x v : Nat} (hx : x < 4294967296) (h : x.testBit v = true) : v < 32 := by
  rcases Nat.lt_or_ge v 32 with h1 | h1
  · exact h1
  · rw [Nat.testBit_lt_two_pow (Nat.lt_of_lt_of_le (show x < 2 ^ 32 by omega) (Nat.pow_le_pow_right (by decide) h1))] at h; cases h
theorem stg_succ {last k : Nat} : stg R inn last (k + 1) = orTo R (stg R inn last k) 32 &&& inn := rfl
theorem wkC_succ {S : Nat → Nat} {len k : Nat} : wkC S R len f (k + 1) = lowb (S (len - 1 - k) &&& nth R (wkC S R len f k)) := rfl
theorem and_ne {x y v : Nat} (h1 : x.testBit v = true) (h2 : y.testBit v = true) : x &&& y ≠ 0 := by
  intro h
  have := congrArg (fun z => z.testBit v) h
  simp [Nat.testBit_and, h1, h2] at this
theorem bord_inn (hb : ∀ x ∈ R, x < 4294967296) {k v : Nat} (h : (bord R inn a k).2.testBit v = true) : inn.testBit v = true := by
  cases k with
  | zero =>
    have h' : (nth R a &&& inn).testBit v = true := h
    rw [Nat.testBit_and, Bool.and_eq_true] at h'
    exact h'.2
  | succ k =>
    obtain ⟨l1, l2⟩ := bord_lt (inn := inn) (a := a) hb k
    have h' : (andn (orTo R (bord R inn a k).2 32 &&& inn) ((bord R inn a k).1 ||| (bord R inn a k).2)).testBit v = true := h
    rw [testBit_andn (Nat.or_lt_two_pow (n := 32) l1 l2) (Nat.lt_of_le_of_lt Nat.and_le_left (orTo_lt9 hb _ 32))] at h'
    simp only [Nat.testBit_and, Bool.and_eq_true] at h'
    exact h'.1.2
theorem bord_back (hb : ∀ x ∈ R, x < 4294967296) {k v : Nat} (h : (bord R inn a (k + 1)).2.testBit v = true) : (orTo R (bord R inn a k).2 32).testBit v = true := by
  obtain ⟨l1, l2⟩ := bord_lt (inn := inn) (a := a) hb k
  have h' : (andn (orTo R (bord R inn a k).2 32 &&& inn) ((bord R inn a k).1 ||| (bord R inn a k).2)).testBit v = true := h
  rw [testBit_andn (Nat.or_lt_two_pow (n := 32) l1 l2) (Nat.lt_of_le_of_lt Nat.and_le_left (orTo_lt9 hb _ 32))] at h'
  simp only [Nat.testBit_and, Bool.and_eq_true] at h'
  exact h'.1.1
/-- One step back. -/
theorem stg_next (hb : ∀ x ∈ R, x < 4294967296) (hs : Symm R) {last j B u : Nat} (hl : last < 4294967296) (hB : B < 4294967296) (hBi : ∀ v, B.testBit v = true → inn.testBit v = true) (h1 : (stg R inn last j).testBit u = true) (h2 : (orTo R B 32).testBit u = true) :
    ∃ x, (stg R inn last (j + 1)).testBit x = true ∧ B.testBit x = true := by
  obtain ⟨x, hx, hxB, hg⟩ := orTo_bit.1 h2
  have hu := bit_lt32 (stg_lt hb hl j) h1
  refine ⟨x, ?_, hxB⟩
  show (orTo R (stg R inn last j) 32 &&& inn).testBit x = true
  rw [Nat.testBit_and, hBi x hxB, Bool.and_true]
  exact orTo_bit.2 ⟨u, hu, h1, hs x u hx hu hg⟩
theorem stg_meets (hb : ∀ x ∈ R, x < 4294967296) (hs : Symm R) (hf : f ≤ 32) {k : Nat} (hk : lastF R inn f a k ≠ 0) : ∀ j, j ≤ k → ∃ x, (stg R inn (lastF R inn f a k) (j + 1)).testBit x = true ∧ (bord R inn a (k - j)).2.testBit x = true
  | 0, _ => by
    obtain ⟨u, hu⟩ := nz_bit9 hk
    have hl : lastF R inn f a k < 4294967296 := Nat.lt_of_le_of_lt Nat.and_le_left (orTo_lt9 hb _ 32)
    refine stg_next hb hs (j := 0) (u := u) hl (bord_lt hb k).2 (fun v => bord_inn hb) hu ?_
    have h' : (orTo R (bord R inn a k).2 32 &&& farF R f a).testBit u = true := hu
    rw [Nat.testBit_and, Bool.and_eq_true] at h'
    exact h'.1
  | j + 1, h => by
    obtain ⟨x, h1, h2⟩ := stg_meets hb hs hf hk j (by omega)
    have hl : lastF R inn f a k < 4294967296 := Nat.lt_of_le_of_lt Nat.and_le_left (orTo_lt9 hb _ 32)
    rw [show k - j = (k - (j + 1)) + 1 by omega] at h2
    exact stg_next hb hs hl (bord_lt hb _).2 (fun v => bord_inn hb) h1 (bord_back hb h2)
theorem walk_ok (hb : ∀ x ∈ R, x < 4294967296) (hs : Symm R) (hf : f ≤ 32) {k : Nat} (hk : lastF R inn f a k ≠ 0) : ∀ j, j < k + 2 →
    stg R inn (lastF R inn f a k) (k + 2 - 1 - j) &&& nth R (wkC (stg R inn (lastF R inn f a k)) R (k + 2) a j) ≠ 0 := by
  have hl : lastF R inn f a k < 4294967296 := Nat.lt_of_le_of_lt Nat.and_le_left (orTo_lt9 hb _ 32)
  intro j
  induction j with
  | zero =>
    intro _
    obtain ⟨x, h1, h2⟩ := stg_meets hb hs hf hk k (Nat.le_refl k)
    rw [Nat.sub_self] at h2
    have h' : (nth R a &&& inn).testBit x = true := h2
    rw [Nat.testBit_and, Bool.and_eq_true] at h'
    exact and_ne h1 h'.1
  | succ j ih =>
    intro hj
    have h0 := ih (by omega)
    rw [wkC_succ]
    obtain ⟨h1, h2, _⟩ := lowb_spec (Nat.lt_of_le_of_lt Nat.and_le_left (stg_lt hb hl _)) h0
    rw [Nat.testBit_and, Bool.and_eq_true] at h2
    have h3 := h2.1
    generalize lowb (stg R inn (lastF R inn f a k) (k + 2 - 1 - j) &&& nth R (wkC (stg R inn (lastF R inn f a k)) R (k + 2) a j)) = y0 at h1 h3 ⊢
    obtain ⟨m, hm⟩ : ∃ m, m = k + 2 - 1 - (j + 1) := ⟨_, rfl⟩
    rw [show k + 2 - 1 - j = m + 1 by omega, stg_succ, Nat.testBit_and, Bool.and_eq_true] at h3
    rw [← hm]
    obtain ⟨y, hy, hyS, hg⟩ := orTo_bit.1 h3.1
    exact and_ne hyS (hs y _ hy h1 hg)
/-- What connex.shortest has found for a first vertex. -/
theorem sh_inv (b : Nat) : ∀ j, (shTo R inn f b).2 j ≠ 0 → j < b ∧ ∃ k, resF R inn f j = some k ∧ (shTo R inn f b).1 = k + 2 ∧ (shTo R inn f b).2 j = lastF R inn f j k := by
  induction b with
  | zero => intro j h; simp [shTo] at h
  | succ b ih =>
    intro j h
    rw [shTo] at h ⊢
    revert h
    unfold shStep
    cases hr : resF R inn f b with
    | none => intro h; obtain ⟨h1, h2⟩ := ih j h; exact ⟨by omega, h2⟩
    | some k =>
      simp only
      split
      · intro h
        simp only at h ⊢
        split at h
        · rename_i e; subst e
          exact ⟨by omega, k, hr, rfl, by rw [if_pos rfl]⟩
        · exact (h rfl).elim
      · split
        · rename_i h9 h8
          intro h
          simp only at h ⊢
          split at h
          · rename_i e; subst e
            exact ⟨by omega, k, hr, h8.symm, by rw [if_pos rfl]⟩
          · rename_i e
            rw [if_neg e]
            obtain ⟨h1, h2⟩ := ih j h
            exact ⟨by omega, h2⟩
        · intro h; obtain ⟨h1, h2⟩ := ih j h; exact ⟨by omega, h2⟩
end
theorem symm_adj {n : Nat} {es : List Nat} (hn : n ≤ 32) (hb : ∀ e ∈ es, e < 2 ^ n) : Symm (adjRow n es) := by
  intro u v hu hv h
  rw [nth_adjRow hu] at h
  rw [nth_adjRow hv]
  split at h
  · rename_i hun
    have hvn := adj_lt_n hn hb hu h
    rw [if_pos hvn]
    exact adj_symm hn hb hun h
  · simp at h
end Go.Proofs.YtjofdlafblpclaaDoor
