/-
  Plain: the steps of a reduction, one by one.
-/
import Derived.Test.YtkiahnffepbgpaaAcy
namespace Go.Proofs.Ytkiahnffepbgpaa
set_option linter.unusedVariables false

/-- One step of the reduction, from one state to the next. -/
def StepAt (n : Nat) (r : List Nat) (g : List Bool) (t : Int × Int × Int) (r' : List Nat) (g' : List Bool) : Prop :=
  (∃ e f : Nat, t = ((e : Int), (f : Int), -1) ∧ AbsSpec r g (some (e, f)) ∧ r' = r.set e 0 ∧ g' = g.set e true) ∨
  (∃ e v : Nat, t = ((e : Int), -1, (v : Int)) ∧ AbsSpec r g none ∧ IsoSpec n r (some (e, v)) ∧ r' = r.set e (andn (nth r e) (2 ^ v)) ∧ g' = g)
section
variable {n : Nat} {r0 : List Nat} {g0 : List Bool}
theorem take_snoc {α : Type} (l : List α) (t : α) {i : Nat} (h : i ≤ l.length) : (l ++ [t]).take i = l.take i := List.take_append_of_le_length h
theorem getD_snoc (l : List (Int × Int × Int)) (t : Int × Int × Int) {i : Nat} (h : i < l.length) : (l ++ [t]).getD i (0, 0, 0) = l.getD i (0, 0, 0) := by simp [List.getElem?_append_left h]
theorem Run.succ {l : List (Int × Int × Int)} {r : List Nat} {g : List Bool} (h : Run n r0 g0 l r g) : ∀ i, i < l.length → ∃ r' g' r'' g'', Run n r0 g0 (l.take i) r' g' ∧ StepAt n r' g' (l.getD i (0, 0, 0)) r'' g'' ∧ Run n r0 g0 (l.take (i + 1)) r'' g'' := by
  induction h with
  | nil => intro i hi; simp at hi
  | @abs l r g e f h ha ih =>
    intro i hi
    rcases Nat.lt_or_ge i l.length with h1 | h1
    · obtain ⟨r', g', r'', g'', k1, k2, k3⟩ := ih i h1
      refine ⟨r', g', r'', g'', by rw [take_snoc l _ (by omega)]; exact k1, ?_, by rw [take_snoc l _ (by omega)]; exact k3⟩
      rw [getD_snoc l _ h1]; exact k2
    · have h2 : i = l.length := by simp at hi; omega
      subst h2
      refine ⟨r, g, _, _, by rw [take_snoc l _ (by omega), List.take_length]; exact h, .inl ⟨e, f, by simp, ha, rfl, rfl⟩, ?_⟩
      rw [List.take_of_length_le (by simp)]; exact h.abs ha
  | @iso l r g e v h ha hi' ih =>
    intro i hi
    rcases Nat.lt_or_ge i l.length with h1 | h1
    · obtain ⟨r', g', r'', g'', k1, k2, k3⟩ := ih i h1
      refine ⟨r', g', r'', g'', by rw [take_snoc l _ (by omega)]; exact k1, ?_, by rw [take_snoc l _ (by omega)]; exact k3⟩
      rw [getD_snoc l _ h1]; exact k2
    · have h2 : i = l.length := by simp at hi; omega
      subst h2
      refine ⟨r, g, _, _, by rw [take_snoc l _ (by omega), List.take_length]; exact h, .inr ⟨e, v, by simp, ha, hi', rfl, rfl⟩, ?_⟩
      rw [List.take_of_length_le (by simp)]; exact h.iso ha hi'
/-- An edge that is gone is empty. -/
theorem Run.gone_zero {l : List (Int × Int × Int)} {r : List Nat} {g : List Bool} (hz : ∀ e, bget g0 e = true → nth r0 e = 0) (h : Run n r0 g0 l r g) : ∀ e, bget g e = true → nth r e = 0 := by
  have set_get : ∀ (r : List Nat) (e x k : Nat), nth (r.set e x) k = if e = k ∧ k < r.length then x else nth r k := by
    intro r e x k
    unfold nth
    simp only [List.getD_eq_getElem?_getD, List.getElem?_set]
    by_cases h1 : e = k
    · subst h1
      by_cases h2 : e < r.length <;> simp [h2]
    · simp [h1]
  induction h with
  | nil => exact hz
  | @abs l r g e f h ha ih =>
    intro k hk
    rw [set_get]
    split
    · rfl
    · rename_i h1
      by_cases h2 : e = k
      · subst h2
        exact absurd ⟨rfl, ha.1⟩ h1
      · refine ih k ?_
        simpa [bget, List.getElem?_set, h2] using hk
  | @iso l r g e v h ha hi ih =>
    intro k hk
    rw [set_get]
    split
    · rename_i h1
      obtain ⟨rfl, h2⟩ := h1
      rw [ih _ hk]; simp [andn]
    · exact ih k hk
end
end Go.Proofs.Ytkiahnffepbgpaa
