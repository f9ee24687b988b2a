/-
  Plain: walks within a set, and what hypergraph.distance says of them.
-/
import Derived.Test.YtjofdlafblpclaaDoorDistF
namespace Go.Proofs.YtjofdlafblpclaaDoor

/-- A walk of k edges from a to b; all its vertices but the first lie in I. -/
inductive Wk (G : Nat → Nat → Prop) (I : Nat → Prop) : Nat → Nat → Nat → Prop
  | nil (a : Nat) : Wk G I 0 a a
  | snoc {k a u v : Nat} : Wk G I k a u → G u v → I v → Wk G I (k + 1) a v
section
variable {G : Nat → Nat → Prop} {I J : Nat → Prop}
theorem Wk.mono (h : ∀ v, I v → J v) {k a b : Nat} (w : Wk G I k a b) : Wk G J k a b := by
  induction w with
  | nil a => exact .nil a
  | snoc _ g i ih => exact .snoc ih g (h _ i)
theorem Wk.cat {k l a b c : Nat} (w : Wk G I k a b) (w2 : Wk G I l b c) : Wk G I (k + l) a c := by
  induction w2 with
  | nil _ => exact w
  | snoc _ g i ih => exact .snoc (ih w) g i
theorem Wk.cons {k a b c : Nat} (g : G a b) (i : I b) (w : Wk G I k b c) : Wk G I (k + 1) a c := by
  have := (Wk.snoc (.nil a) g i).cat w
  rwa [Nat.add_comm] at this
theorem Wk.uncons {k a c : Nat} (w : Wk G I (k + 1) a c) : ∃ b, G a b ∧ I b ∧ Wk G I k b c := by
  generalize hm : k + 1 = m at w
  induction w generalizing k with
  | nil a => omega
  | @snoc j a u v w g i ih =>
    obtain rfl : j = k := by omega
    cases j with
    | zero =>
      cases w
      exact ⟨v, g, i, .nil v⟩
    | succ j =>
      obtain ⟨b, g1, i1, w1⟩ := ih rfl
      exact ⟨b, g1, i1, .snoc w1 g i⟩
theorem Wk.zero {a b : Nat} (w : Wk G I 0 a b) : a = b := by cases w; rfl
/-- Backwards, if the start lies in the set too. -/
theorem Wk.rev (hs : ∀ u v, G u v → G v u) {k a b : Nat} (w : Wk G I k a b) (ha : I a) : Wk G I k b a := by
  induction w with
  | nil a => exact .nil a
  | snoc _ g i ih =>
    rename_i k a u v w
    cases k with
    | zero => cases w; exact .snoc (.nil _) (hs _ _ g) ha
    | succ k =>
      cases w with
      | snoc w g' i' => exact Wk.cons (hs _ _ g) i' (ih ha)
/-- The start of a shortest walk is shortest. -/
theorem least_wk {a b k : Nat} (w : Wk G I k a b) : ∃ m, m ≤ k ∧ Wk G I m a b ∧ ∀ j, j < m → ¬ Wk G I j a b := by
  obtain ⟨m, h1, h2⟩ := least (P := fun k => Wk G I k a b) w
  refine ⟨m, ?_, h1, h2⟩
  rcases Nat.lt_or_ge k m with h | h
  · exact absurd w (h2 k h)
  · exact h
end
/-- The walk's graph and set, out of rows and a number. -/
def GR (R : List Nat) (u v : Nat) : Prop := (nth R u).testBit v = true
def InS (s v : Nat) : Prop := s.testBit v = true
section
variable {R : List Nat} {n : Nat}
theorem orTo_bit {f v : Nat} : ∀ {k : Nat}, (orTo R f k).testBit v = true ↔ ∃ u, u < k ∧ f.testBit u = true ∧ GR R u v
  | 0 => by simp [orTo]
  | k + 1 => by
    rw [orTo]
    split
    · rename_i h
      rw [Nat.testBit_or, Bool.or_eq_true, orTo_bit]
      constructor
      · rintro (⟨u, h1, h2, h3⟩ | h1)
        · exact ⟨u, by omega, h2, h3⟩
        · exact ⟨k, by omega, h, h1⟩
      · rintro ⟨u, h1, h2, h3⟩
        by_cases hu : u = k
        · subst hu; exact .inr h3
        · exact .inl ⟨u, by omega, h2, h3⟩
    · rename_i h
      rw [orTo_bit]
      constructor
      · rintro ⟨u, h1, h2, h3⟩; exact ⟨u, by omega, h2, h3⟩
      · rintro ⟨u, h1, h2, h3⟩
        have : u ≠ k := fun e => h (e ▸ h2)
        exact ⟨u, by omega, h2, h3⟩
theorem nextL_bit (hn : n ≤ 32) (hR : ∀ x ∈ R, x < 2 ^ n) {ins seen front v : Nat} (hs : seen < 2 ^ n) (hf : front < 2 ^ n) : (nextL R n ins seen front).testBit v = true ↔ (∃ u, front.testBit u = true ∧ GR R u v) ∧ ins.testBit v = true ∧ seen.testBit v = false ∧ front.testBit v = false := by
  unfold nextL
  have h1 : seen ||| front < 2 ^ 32 := Nat.lt_of_lt_of_le (Nat.or_lt_two_pow hs hf) (two_pow_le hn)
  have h2 : orTo R front n &&& ins < 2 ^ 32 := Nat.lt_of_le_of_lt Nat.and_le_left (Nat.lt_of_lt_of_le (orTo_lt hR front n) (two_pow_le hn))
  rw [testBit_andn h1 h2, Bool.and_eq_true, Nat.testBit_and, Bool.and_eq_true, orTo_bit, Nat.testBit_or, Bool.not_eq_true', Bool.or_eq_false_iff]
  constructor
  · rintro ⟨⟨⟨u, _, h3, h4⟩, h5⟩, h6, h7⟩; exact ⟨⟨u, h3, h4⟩, h5, h6, h7⟩
  · rintro ⟨⟨u, h3, h4⟩, h5, h6, h7⟩; exact ⟨⟨⟨u, testBit_lt hf h3, h3, h4⟩, h5⟩, h6, h7⟩
/-- At length m, exactly. -/
def Exact (R : List Nat) (ins a m v : Nat) : Prop := Wk (GR R) (InS ins) m a v ∧ ∀ j, j < m → ¬ Wk (GR R) (InS ins) j a v
theorem exact_before {ins a : Nat} : ∀ {m v : Nat}, Exact R ins a m v → ∀ j, j ≤ m → ∃ u, Exact R ins a j u
  | 0, v, h, j, hj => by
    obtain rfl : j = 0 := by omega
    exact ⟨v, h⟩
  | m + 1, v, h, j, hj => by
    rcases Nat.lt_or_ge j (m + 1) with h1 | h1
    · obtain ⟨w, hw⟩ := h
      cases w with
      | snoc w g i =>
        rename_i u
        exact exact_before (m := m) (v := u) ⟨w, fun j hj w2 => hw (j + 1) (by omega) (.snoc w2 g i)⟩ j (by omega)
    · obtain rfl : j = m + 1 := by omega
      exact ⟨v, h⟩
theorem dist_inv (hn : n ≤ 32) (hR : ∀ x ∈ R, x < 2 ^ n) {a b ins : Nat} (_ : a ≠ b) : ∀ (f seen front l d : Nat), distO R n b ins f seen front (l + 1) = some d → seen < 2 ^ n → front < 2 ^ n →
    (∀ v, seen.testBit v = true ↔ ∃ j, j < l ∧ Exact R ins a j v) → (∀ v, front.testBit v = true ↔ Exact R ins a l v) → (∀ j, j ≤ l → ¬ Exact R ins a j b) →
    (d = 0 ∧ ∀ k, ¬ Wk (GR R) (InS ins) k a b) ∨ (0 < d ∧ Exact R ins a d b) := by
  intro f
  induction f with
  | zero => intro seen front l d h; simp [distO] at h
  | succ f ih =>
    intro seen front l d h hs hf hS hF hB
    rw [distO] at h
    have hnext : ∀ v, (nextL R n ins seen front).testBit v = true ↔ Exact R ins a (l + 1) v := by
      intro v
      rw [nextL_bit hn hR hs hf]
      constructor
      · rintro ⟨⟨u, h1, h2⟩, h3, h4, h5⟩
        refine ⟨.snoc ((hF u).1 h1).1 h2 h3, fun j hj w => ?_⟩
        obtain ⟨m, hm, h6, h7⟩ := least_wk w
        rcases Nat.lt_or_ge m l with h8 | h8
        · have := (hS v).2 ⟨m, h8, h6, h7⟩
          rw [h4] at this; cases this
        · obtain rfl : m = l := by omega
          have := (hF v).2 ⟨h6, h7⟩
          rw [h5] at this; cases this
      · rintro ⟨w, hw⟩
        cases w with
        | snoc w g i =>
          rename_i u
          refine ⟨⟨u, (hF u).2 ⟨w, fun j hj w2 => hw (j + 1) (by omega) (.snoc w2 g i)⟩, g⟩, i, ?_, ?_⟩
          · cases h1 : seen.testBit v with
            | false => rfl
            | true =>
              obtain ⟨j, hj, w2, _⟩ := (hS v).1 h1
              exact absurd w2 (hw j (by omega))
          · cases h1 : front.testBit v with
            | false => rfl
            | true => exact absurd ((hF v).1 h1).1 (hw l (by omega))
    by_cases h0 : front = 0
    · rw [if_pos h0] at h
      injection h with h
      left
      refine ⟨h.symm, fun k w => ?_⟩
      obtain ⟨m, _, h6, h7⟩ := least_wk w
      rcases Nat.lt_or_ge l m with h8 | h8
      · obtain ⟨u, hu⟩ := exact_before (⟨h6, h7⟩ : Exact R ins a m b) l (by omega)
        have := (hF u).2 hu
        rw [h0] at this; simp at this
      · exact hB m h8 ⟨h6, h7⟩
    · rw [if_neg h0] at h
      by_cases h1 : (nextL R n ins seen front).testBit b = true
      · rw [if_pos h1] at h
        injection h with h
        right
        rw [← h]
        exact ⟨by omega, (hnext b).1 h1⟩
      · rw [if_neg h1] at h
        refine ih _ _ (l + 1) d h (Nat.or_lt_two_pow hs hf) (nextL_lt hR ins seen front) ?_ hnext ?_
        · intro v
          rw [Nat.testBit_or, Bool.or_eq_true, hS, hF]
          constructor
          · rintro (⟨j, h2, h3⟩ | h2)
            · exact ⟨j, by omega, h3⟩
            · exact ⟨l, by omega, h2⟩
          · rintro ⟨j, h2, h3⟩
            rcases Nat.lt_or_ge j l with h4 | h4
            · exact .inl ⟨j, h4, h3⟩
            · obtain rfl : j = l := by omega
              exact .inr h3
        · intro j hj h2
          rcases Nat.lt_or_ge j (l + 1) with h4 | h4
          · exact hB j (by omega) h2
          · obtain rfl : j = l + 1 := by omega
            exact h1 ((hnext b).2 h2)
/-- What the distance says. -/
theorem dist_spec (hn : n ≤ 32) (hR : ∀ x ∈ R, x < 2 ^ n) {a b : Nat} (ins : Nat) (ha : a < n) (hab : a ≠ b) :
    (distF R n a b ins = 0 ∧ ∀ k, ¬ Wk (GR R) (InS ins) k a b) ∨ (0 < distF R n a b ins ∧ Exact R ins a (distF R n a b ins) b) := by
  obtain ⟨⟨f, hf⟩, _⟩ := distF_spec hn hR ha b ins
  have hz : ∀ v, Exact R ins a 0 v ↔ v = a := by
    intro v
    constructor
    · rintro ⟨w, _⟩; exact w.zero.symm
    · rintro rfl; exact ⟨.nil _, fun j hj => by omega⟩
  refine dist_inv hn hR hab f 0 (2 ^ a) 0 _ hf (pow2_pos n) (Nat.pow_lt_pow_right (by omega) ha) ?_ ?_ ?_
  · intro v; simp
  · intro v
    rw [hz, Nat.testBit_two_pow, decide_eq_true_eq]; exact eq_comm
  · intro j hj h
    obtain rfl : j = 0 := by omega
    exact hab ((hz b).1 h).symm
theorem dist_of_exact (hn : n ≤ 32) (hR : ∀ x ∈ R, x < 2 ^ n) {a b ins d : Nat} (ha : a < n) (hab : a ≠ b) (h : Exact R ins a d b) : distF R n a b ins = d := by
  rcases dist_spec hn hR ins ha hab with ⟨_, h1⟩ | ⟨_, h1⟩
  · exact absurd h.1 (h1 d)
  · rcases Nat.lt_trichotomy (distF R n a b ins) d with h2 | h2 | h2
    · exact absurd h1.1 (h.2 _ h2)
    · exact h2
    · exact absurd h.1 (h1.2 _ h2)
end
end Go.Proofs.YtjofdlafblpclaaDoor
