/-
  Plain: hypergraph.shortestCycle as a function.
-/
import Derived.Test.YtjofdlafblpclaaDoorDistF
namespace Go.Proofs.YtjofdlafblpclaaDoor

def lastN (p : List Nat) : Nat := nth p (p.length - 1)
/-- The vertices above s. -/
def aboveN (s : Nat) : Nat := 4294967295 - (2 ^ (s + 1) - 1)
/-- What is blocked behind the last vertex of a path. -/
def afterF (R : List Nat) (p : List Nat) (bl : Nat) : Nat := (bl ||| nth R (lastN p)) ||| 2 ^ lastN p
/-- The vertices that may follow. -/
def candF (R : List Nat) (p : List Nat) (bl : Nat) : Nat := andn (nth R (lastN p) &&& aboveN (nth p 0)) bl
/-- Where the rest of the cycle may lie. -/
def allowF (R : List Nat) (p : List Nat) (bl v : Nat) : Nat := andn (aboveN (nth p 0)) (afterF R p bl) ||| 2 ^ v ||| 2 ^ nth p 0
def okF (R : List Nat) (n L : Nat) (p : List Nat) (bl v : Nat) : Bool :=
  (candF R p bl).testBit v && decide (distF R n v (nth p 0) (allowF R p bl v) = L - p.length)
/-- The first cycle of length L that begins with p ([]: none), when f vertices lack. -/
def extF (R : List Nat) (n L : Nat) : Nat → List Nat → Nat → List Nat
  | 0, p, _ => p
  | f + 1, p, bl => match (List.range n).find? (okF R n L p bl) with
    | some v => extF R n L f (p ++ [v]) (afterF R p bl)
    | none => []
/-- The first that is not empty. -/
def firstNE : List (List Nat) → List Nat
  | [] => []
  | x :: r => if x = [] then firstNE r else x
def scT (R : List Nat) (n L s t : Nat) : List Nat := if decide (s < t) && (nth R s).testBit t then extF R n L (L - 2) [s, t] 0 else []
def scRow (R : List Nat) (n L s : Nat) : List Nat := firstNE ((List.range n).map (scT R n L s))
def scF (R : List Nat) (n : Nat) : List Nat := if cylF R n = 0 then [] else firstNE ((List.range n).map (scRow R n (cylF R n)))
theorem firstNE_at {g : Nat → List Nat} {k : Nat} : ∀ {n : Nat}, (∀ j, j < k → g j = []) → g k ≠ [] → k < n → firstNE ((List.range n).map g) = g k := by
  intro n h1 h2 h3
  have : ∀ (l : List Nat) (m : Nat), l = List.range' m (n - m) → m ≤ k → firstNE (l.map g) = g k := by
    intro l
    induction l with
    | nil =>
      intro m hl hm
      have := congrArg List.length hl
      simp at this; omega
    | cons x l ih =>
      intro m hl hm
      rw [range'_step (by omega)] at hl
      injection hl with hx hl
      subst hx
      rw [List.map_cons, firstNE]
      by_cases hk : x = k
      · subst hk; rw [if_neg h2]
      · rw [if_pos (h1 x (by omega))]; exact ih (x + 1) hl (by omega)
  exact this _ 0 (by rw [Nat.sub_zero, ← List.range_eq_range']) (Nat.zero_le _)
theorem firstNE_none {g : Nat → List Nat} {n : Nat} (h : ∀ j, j < n → g j = []) : firstNE ((List.range n).map g) = [] := by
  have : ∀ l : List Nat, (∀ x ∈ l, x < n) → firstNE (l.map g) = [] := by
    intro l
    induction l with
    | nil => intro _; rfl
    | cons x l ih =>
      intro hl
      rw [List.map_cons, firstNE, if_pos (h x (hl x (by simp)))]
      exact ih fun y hy => hl y (by simp [hy])
  exact this _ (by simp)
theorem find_at {p : Nat → Bool} {n k : Nat} (h1 : ∀ j, j < k → p j = false) (h2 : p k = true) (h3 : k < n) : (List.range n).find? p = some k := by
  rw [List.find?_eq_some_iff_append]
  refine ⟨h2, List.range k, List.range' (k + 1) (n - (k + 1)), ?_, fun a ha => by simp at ha; simp [h1 a ha]⟩
  rw [List.range_eq_range', List.range_eq_range']
  have e : List.range' 0 n = List.range' 0 k ++ List.range' k (n - k) := by
    have := @List.range'_append 0 k (n - k) 1
    simp only [Nat.one_mul, Nat.zero_add] at this
    rw [this]; congr 1; omega
  rw [e, range'_step h3]
theorem find_none {p : Nat → Bool} {n : Nat} (h : ∀ j, j < n → p j = false) : (List.range n).find? p = none := by
  rw [List.find?_eq_none]; intro x hx; simp at hx; simp [h x hx]
/-- A path of ints. -/
def ints (p : List Nat) : List Int := p.map fun (x : Nat) => (x : Int)
theorem ints_length (p : List Nat) : (ints p).length = p.length := by simp [ints]
theorem inth_ints {p : List Nat} {k : Nat} (h : k < p.length) : inth (ints p) k = (nth p k : Int) := by
  rw [inth_eq (by rw [ints_length]; exact h), nth_eq h]; simp [ints]
theorem ints_snoc (p : List Nat) (v : Nat) : ints (p ++ [v]) = ints p ++ [(v : Int)] := by simp [ints]
theorem aboveN_lt (s : Nat) : aboveN s < 4294967296 := by unfold aboveN; omega
end Go.Proofs.YtjofdlafblpclaaDoor
