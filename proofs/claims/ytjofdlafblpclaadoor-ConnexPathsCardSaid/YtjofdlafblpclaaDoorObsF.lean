/-
  Plain: hypergraph.Obstruction as a function.
-/
import Derived.Test.YtjofdlafblpclaaDoorScP
import Derived.Test.YtjofdlafblpclaaDoorClP
namespace Go.Proofs.YtjofdlafblpclaaDoor

theorem extF_length (R : List Nat) (n L : Nat) : ∀ (f : Nat) (p : List Nat) (bl : Nat), (extF R n L f p bl).length = p.length + f ∨ extF R n L f p bl = []
  | 0, p, bl => .inl rfl
  | f + 1, p, bl => by
    rw [extF]
    split
    · rename_i v _
      rcases extF_length R n L f (p ++ [v]) (afterF R p bl) with h | h
      · left; rw [h]; simp; omega
      · exact .inr h
    · exact .inr rfl
theorem firstNE_all {P : List Nat → Prop} : ∀ (l : List (List Nat)), (∀ x ∈ l, P x ∨ x = []) → P (firstNE l) ∨ firstNE l = []
  | [], _ => .inr rfl
  | x :: r, h => by
    rw [firstNE]
    split
    · exact firstNE_all r fun y hy => h y (by simp [hy])
    · rename_i hx
      exact .inl ((h x (by simp)).resolve_right hx)
theorem scF_length {R : List Nat} {n : Nat} (hn : n ≤ 32) (hR : ∀ x ∈ R, x < 2 ^ n) : (scF R n).length ≤ 35 := by
  unfold scF
  split
  · simp
  · rename_i h0
    have hL := (cylF_ok hn hR).resolve_left h0
    have h1 : ∀ s t, (scT R n (cylF R n) s t).length = cylF R n ∨ scT R n (cylF R n) s t = [] := by
      intro s t
      unfold scT
      split
      · rcases extF_length R n (cylF R n) (cylF R n - 2) [s, t] 0 with h | h
        · left; rw [h]; simp; omega
        · exact .inr h
      · exact .inr rfl
    have h2 : ∀ s, (scRow R n (cylF R n) s).length = cylF R n ∨ scRow R n (cylF R n) s = [] := fun s =>
      firstNE_all (P := fun l => l.length = cylF R n) _ fun x hx => by
        rw [List.mem_map] at hx
        obtain ⟨t, _, rfl⟩ := hx
        exact h1 s t
    rcases firstNE_all (P := fun l => l.length = cylF R n) ((List.range n).map (scRow R n (cylF R n))) (fun x hx => by
        rw [List.mem_map] at hx
        obtain ⟨s, _, rfl⟩ := hx
        exact h2 s) with h | h
    · rw [h]; omega
    · rw [h]; simp
theorem extF_mem (R : List Nat) (n L : Nat) : ∀ (f : Nat) (p : List Nat) (bl : Nat), (∀ x ∈ p, x < n) → ∀ x ∈ extF R n L f p bl, x < n
  | 0, p, bl, h => h
  | f + 1, p, bl, h => by
    rw [extF]
    split
    · rename_i v hv
      refine extF_mem R n L f (p ++ [v]) (afterF R p bl) fun x hx => ?_
      rw [List.mem_append, List.mem_singleton] at hx
      rcases hx with h1 | rfl
      · exact h x h1
      · have := List.mem_of_find?_eq_some hv
        simpa using this
    · intro x hx; cases hx
theorem firstNE_forall {P : List Nat → Prop} (h0 : P []) : ∀ (l : List (List Nat)), (∀ x ∈ l, P x) → P (firstNE l)
  | [], _ => h0
  | x :: r, h => by
    rw [firstNE]
    split
    · exact firstNE_forall h0 r fun y hy => h y (by simp [hy])
    · exact h x (by simp)
theorem scF_mem {R : List Nat} {n : Nat} : ∀ x ∈ scF R n, x < n := by
  unfold scF
  split
  · intro x hx; cases hx
  · refine firstNE_forall (P := fun l => ∀ x ∈ l, x < n) (fun x hx => by cases hx) _ fun l hl => ?_
    rw [List.mem_map] at hl
    obtain ⟨s, hs, rfl⟩ := hl
    refine firstNE_forall (P := fun l => ∀ x ∈ l, x < n) (fun x hx => by cases hx) _ fun l hl => ?_
    rw [List.mem_map] at hl
    obtain ⟨t, ht, rfl⟩ := hl
    unfold scT
    split
    · exact extF_mem _ _ _ _ _ _ fun x hx => by simp at hx hs ht; omega
    · intro x hx; cases hx
theorem grdy_mem (n : Nat) (es : List Nat) (len : Nat) : ∀ k, k ≤ n → ∀ x ∈ (grdy n es len k).1, x < n
  | 0, _ => fun x hx => by cases hx
  | k + 1, hk => by
    have ih := grdy_mem n es len k (by omega)
    rw [grdy]
    split
    · split
      · intro x hx
        simp only [List.mem_append, List.mem_singleton] at hx
        rcases hx with h | rfl
        · exact ih x h
        · omega
      · exact ih
    · exact ih
theorem clF_mem {n : Nat} {es : List Nat} {most : Nat} : ∀ x ∈ clF n es most, x < n := by
  unfold clF
  split
  · intro x hx; cases hx
  · split
    · exact grdy_mem n es _ n (Nat.le_refl _)
    · intro x hx; cases hx
/-- How two lists of numbers compare. -/
def lexLt : List Nat → List Nat → Bool
  | [], [] => false
  | [], _ :: _ => true
  | _ :: _, [] => false
  | x :: xs, y :: ys => if x < y then true else if y < x then false else lexLt xs ys
/-- hypergraph.Obstruction. -/
def pickF (cyc cl : List Nat) : List Nat × Bool :=
  if cl = [] then (cyc, decide (0 < cyc.length))
  else if cyc = [] then (cl, true)
  else if cl.length < cyc.length then (cl, true)
  else if lexLt cl cyc = true then (cl, true) else (cyc, true)
def mostF (n : Nat) (cyc : List Nat) : Nat := if cyc = [] then n else cyc.length
def obsF (R : List Nat) (n : Nat) (es : List Nat) : List Nat × Bool := pickF (scF R n) (clF n es (mostF n (scF R n)))
end Go.Proofs.YtjofdlafblpclaaDoor
