/-
  Plain facts on disruptive trios: the list of the reference is the list of the program.
-/
import Derived.Test.YtkiahnffepbgpaaPlain
namespace Go.Proofs.Ytkiahnffepbgpaa

/-- Two different vertices in a common edge. -/
def adjB (es : List Nat) (a b : Nat) : Bool := decide (a ≠ b) && es.any fun e => e.testBit a && e.testBit b
/-- A disruptive trio (numbers of vertices). -/
def isT (es : List Nat) (m a b c : Nat) : Bool := decide (a < b ∧ b < c ∧ c < m) && (adjB es a c && (adjB es b c && !adjB es a b))
/-- All of them, as the reference lists them. -/
def rtrios (es : List Nat) (m : Nat) : List (Nat × Nat × Nat) :=
  (List.range' 0 m).flatMap fun a => (List.range' 0 m).flatMap fun b => ((List.range' 0 m).filter (isT es m a b)).map fun c => (a, b, c)

theorem testBit_adjB {es : List Nat} (h : ∀ e ∈ es, e < 2 ^ 32) {v : Nat} (hv : v < 32) (u : Nat) : (adj es v).testBit u = adjB es v u := by
  rw [testBit_adj h hv, adjB]
  congr 1
  exact decide_eq_decide.2 ⟨Ne.symm, Ne.symm⟩
theorem adjB_comm (es : List Nat) (a b : Nat) : adjB es a b = adjB es b a := by
  unfold adjB
  congr 1
  · exact decide_eq_decide.2 ⟨Ne.symm, Ne.symm⟩
  · congr 1; funext e; exact Bool.and_comm _ _
theorem range_split {m k : Nat} (hk : k ≤ m) : List.range' 0 m = List.range' 0 k ++ List.range' k (m - k) := by
  have h := List.range'_append (s := 0) (m := k) (n := m - k) (step := 1)
  rw [show 0 + 1 * k = k from by omega, show k + (m - k) = m from by omega] at h
  exact h.symm
theorem flatMap_from {α : Type} (f : Nat → List α) {m k : Nat} (h : ∀ x, x < k → f x = []) : (List.range' 0 m).flatMap f = (List.range' k (m - k)).flatMap f := by
  rcases Nat.le_total k m with hk | hk
  · rw [range_split hk, List.flatMap_append]
    have : (List.range' 0 k).flatMap f = [] := by
      rw [List.flatMap_eq_nil_iff]
      intro x hx
      exact h x (by simp [List.mem_range'] at hx; omega)
    rw [this, List.nil_append]
  · rw [show m - k = 0 from by omega]
    simp only [List.range'_zero, List.flatMap_nil]
    rw [List.flatMap_eq_nil_iff]
    intro x hx
    exact h x (by simp [List.mem_range'] at hx; omega)
theorem filter_from (p : Nat → Bool) {m k : Nat} (h : ∀ x, x < k → p x = false) : (List.range' 0 m).filter p = (List.range' k (m - k)).filter p := by
  rcases Nat.le_total k m with hk | hk
  · rw [range_split hk, List.filter_append]
    have : (List.range' 0 k).filter p = [] := by
      rw [List.filter_eq_nil_iff]
      intro x hx
      rw [h x (by simp [List.mem_range'] at hx; omega)]; simp
    rw [this, List.nil_append]
  · rw [show m - k = 0 from by omega]
    simp only [List.range'_zero, List.filter_nil]
    rw [List.filter_eq_nil_iff]
    intro x hx
    rw [h x (by simp [List.mem_range'] at hx; omega)]; simp
theorem flatMap_congr' {α : Type} {f g : Nat → List α} {l : List Nat} (h : ∀ x ∈ l, f x = g x) : l.flatMap f = l.flatMap g := by
  induction l with
  | nil => rfl
  | cons x l ih => simp only [List.flatMap_cons]; rw [h x (by simp), ih (fun y hy => h y (by simp [hy]))]
theorem trios_eq {es : List Nat} (h : ∀ e ∈ es, e < 2 ^ 32) {m : Nat} (hm : m ≤ 32) : trios es m = rtrios es m := by
  unfold trios restA rtrios
  rw [Nat.sub_zero]
  apply flatMap_congr'
  intro a ha
  have ha : a < m := by simp [List.mem_range'] at ha; omega
  rw [flatMap_from (k := a + 1) (fun b => ((List.range' 0 m).filter (isT es m a b)).map fun c => (a, b, c))]
  · unfold restB
    apply flatMap_congr'
    intro b hb
    have hb : a < b ∧ b < m := by simp [List.mem_range'] at hb; omega
    rw [testBit_adjB h (by omega)]
    cases hab : adjB es a b with
    | true =>
      simp only [if_true]
      have : (List.range' 0 m).filter (isT es m a b) = [] := by
        rw [List.filter_eq_nil_iff]
        intro x _
        simp [isT, hab]
      rw [this]; rfl
    | false =>
      simp only [Bool.false_eq_true, if_false]
      unfold restC
      rw [filter_from (k := b + 1) (isT es m a b)]
      · congr 1
        apply List.filter_congr
        intro c hc
        have hc : b < c ∧ c < m := by simp [List.mem_range'] at hc; omega
        rw [Nat.testBit_and, testBit_adjB h (by omega), testBit_adjB h (by omega)]
        simp [isT, hab]
        intro _ _; omega
      · intro x hx; simp [isT]; intro _ h1; omega
  · intro x hx
    have : (List.range' 0 m).filter (isT es m a x) = [] := by
      rw [List.filter_eq_nil_iff]
      intro y _
      simp [isT]; intro h1; omega
    rw [this]; rfl
theorem length_flatMap_le {α : Type} (f : Nat → List α) (k : Nat) : ∀ l : List Nat, (∀ x ∈ l, (f x).length ≤ k) → (l.flatMap f).length ≤ l.length * k := by
  intro l
  induction l with
  | nil => intro _; simp
  | cons x l ih =>
    intro h
    simp only [List.flatMap_cons, List.length_append, List.length_cons]
    have h1 := h x (by simp)
    have h2 := ih (fun y hy => h y (by simp [hy]))
    rw [Nat.add_mul]
    omega
theorem rtrios_length (es : List Nat) {m : Nat} (hm : m ≤ 32) : (rtrios es m).length ≤ 32768 := by
  have h1 : ∀ a b, (((List.range' 0 m).filter (isT es m a b)).map fun c => (a, b, c)).length ≤ 32 := by
    intro a b
    rw [List.length_map]
    have := List.length_filter_le (isT es m a b) (List.range' 0 m)
    rw [List.length_range'] at this
    omega
  have h2 : ∀ a, ((List.range' 0 m).flatMap fun b => ((List.range' 0 m).filter (isT es m a b)).map fun c => (a, b, c)).length ≤ 1024 := by
    intro a
    have := length_flatMap_le (fun b => ((List.range' 0 m).filter (isT es m a b)).map fun c => (a, b, c)) 32 (List.range' 0 m) (fun b _ => h1 a b)
    rw [List.length_range'] at this
    omega
  have := length_flatMap_le (fun a => (List.range' 0 m).flatMap fun b => ((List.range' 0 m).filter (isT es m a b)).map fun c => (a, b, c)) 1024 (List.range' 0 m) (fun a _ => h2 a)
  rw [List.length_range'] at this
  unfold rtrios
  omega
theorem mem_rtrios {es : List Nat} {m : Nat} {t : Nat × Nat × Nat} (h : t ∈ rtrios es m) : isT es m t.1 t.2.1 t.2.2 = true := by
  simp only [rtrios, List.mem_flatMap, List.mem_map, List.mem_filter] at h
  obtain ⟨a, _, b, _, c, ⟨_, hc⟩, rfl⟩ := h
  exact hc

/-- The two first vertices of a trio as a set. -/
theorem ends_all (x a b : Nat) : (x &&& (2 ^ a ||| 2 ^ b) = (2 ^ a ||| 2 ^ b)) ↔ x.testBit a = true ∧ x.testBit b = true := by
  constructor
  · intro h
    constructor
    · have := congrArg (·.testBit a) h
      simp only [Nat.testBit_and, Nat.testBit_or, Nat.testBit_two_pow_self] at this
      simpa using this
    · have := congrArg (·.testBit b) h
      simp only [Nat.testBit_and, Nat.testBit_or, Nat.testBit_two_pow_self] at this
      simpa using this
  · rintro ⟨h1, h2⟩
    apply Nat.eq_of_testBit_eq
    intro i
    simp only [Nat.testBit_and, Nat.testBit_or, Nat.testBit_two_pow]
    by_cases ha : a = i
    · subst ha; simp [h1]
    · by_cases hb : b = i
      · subst hb; simp [h2]
      · simp [ha, hb]
theorem ends_none (x a b : Nat) : (x &&& (2 ^ a ||| 2 ^ b) = 0) ↔ x.testBit a = false ∧ x.testBit b = false := by
  constructor
  · intro h
    constructor
    · have := congrArg (·.testBit a) h
      simp only [Nat.testBit_and, Nat.testBit_or, Nat.testBit_two_pow_self, Nat.zero_testBit] at this
      simpa using this
    · have := congrArg (·.testBit b) h
      simp only [Nat.testBit_and, Nat.testBit_or, Nat.testBit_two_pow_self, Nat.zero_testBit] at this
      simpa using this
  · rintro ⟨h1, h2⟩
    apply Nat.eq_of_testBit_eq
    intro i
    simp only [Nat.testBit_and, Nat.testBit_or, Nat.testBit_two_pow, Nat.zero_testBit]
    by_cases ha : a = i
    · subst ha; simp [h1]
    · by_cases hb : b = i
      · subst hb; simp [h2]
      · simp [ha, hb]
end Go.Proofs.Ytkiahnffepbgpaa
