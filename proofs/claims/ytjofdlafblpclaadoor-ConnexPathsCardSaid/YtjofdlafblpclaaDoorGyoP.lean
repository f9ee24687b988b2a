/-
  The reduction of a hypergraph, plainly: which step comes next, and runs of steps.
-/
import Derived.Test.YtjofdlafblpclaaDoorPlain
namespace Go.Proofs.YtjofdlafblpclaaDoor

def bget (l : List Bool) (k : Nat) : Bool := l.getD k false
/-- Edge e is removed into edge f. -/
def absorbs (r : List Nat) (g : List Bool) (e f : Nat) : Bool := decide (e ≠ f) && (!bget g e && (!bget g f && decide (andn (nth r e) (nth r f) = 0)))
/-- The first pair of edges of which one is removed into the other. -/
def AbsSpec (r : List Nat) (g : List Bool) : Option (Nat × Nat) → Prop
  | none => ∀ e f, e < r.length → f < r.length → absorbs r g e f = false
  | some (e, f) => e < r.length ∧ f < r.length ∧ absorbs r g e f = true ∧ (∀ e' f', e' < e → f' < r.length → absorbs r g e' f' = false) ∧ ∀ f', f' < f → absorbs r g e f' = false
/-- In how many edges a vertex is. -/
def occ (r : List Nat) (v : Nat) : Nat := r.countP fun e => e.testBit v
/-- The first vertex that is in one edge only, and that edge. -/
def IsoSpec (n : Nat) (r : List Nat) : Option (Nat × Nat) → Prop
  | none => ∀ v, v < n → occ r v ≠ 1
  | some (e, v) => v < n ∧ e < r.length ∧ (nth r e).testBit v = true ∧ occ r v = 1 ∧ ∀ v', v' < v → occ r v' ≠ 1
theorem AbsSpec.unique {r : List Nat} {g : List Bool} : ∀ {o o' : Option (Nat × Nat)}, AbsSpec r g o → AbsSpec r g o' → o = o'
  | none, none, _, _ => rfl
  | none, some (e, f), h, h' => by have h3 := h'.2.2.1; rw [h e f h'.1 h'.2.1] at h3; cases h3
  | some (e, f), none, h, h' => by have h3 := h.2.2.1; rw [h' e f h.1 h.2.1] at h3; cases h3
  | some (e, f), some (e', f'), h, h' => by
    obtain ⟨h1, h2, h3, h4, h5⟩ := h
    obtain ⟨k1, k2, k3, k4, k5⟩ := h'
    have he : e = e' := by
      rcases Nat.lt_trichotomy e e' with hlt | rfl | hlt
      · rw [k4 e f hlt h2] at h3; cases h3
      · rfl
      · rw [h4 e' f' hlt k2] at k3; cases k3
    subst he
    have hf : f = f' := by
      rcases Nat.lt_trichotomy f f' with hlt | rfl | hlt
      · rw [k5 f hlt] at h3; cases h3
      · rfl
      · rw [h5 f' hlt] at k3; cases k3
    subst hf; rfl
theorem countP_one {r : List Nat} {p : Nat → Bool} : ∀ {e e' : Nat}, e < r.length → e' < r.length → p (nth r e) = true → p (nth r e') = true → r.countP p = 1 → e = e' := by
  induction r with
  | nil => intro e e' h; simp at h
  | cons x r ih =>
    intro e e' h h' hp hp' hc
    rw [List.countP_cons] at hc
    have key : ∀ k, k < r.length → p (nth r k) = true → 0 < r.countP p := fun k hk hpk => List.countP_pos_iff.2 ⟨_, nth_mem hk, hpk⟩
    match e, e' with
    | 0, 0 => rfl
    | 0, k + 1 =>
      have h1 : p x = true := hp
      have := key k (by simpa using h') hp'
      rw [h1, if_pos rfl] at hc; omega
    | k + 1, 0 =>
      have h1 : p x = true := hp'
      have := key k (by simpa using h) hp
      rw [h1, if_pos rfl] at hc; omega
    | k + 1, k' + 1 =>
      have hk := key k (by simpa using h) hp
      have : r.countP p = 1 := by omega
      rw [ih (by simpa using h) (by simpa using h') hp hp' this]
theorem IsoSpec.unique {n : Nat} {r : List Nat} : ∀ {o o' : Option (Nat × Nat)}, IsoSpec n r o → IsoSpec n r o' → o = o'
  | none, none, _, _ => rfl
  | none, some (e, v), h, h' => absurd h'.2.2.2.1 (h v h'.1)
  | some (e, v), none, h, h' => absurd h.2.2.2.1 (h' v h.1)
  | some (e, v), some (e', v'), h, h' => by
    obtain ⟨h1, h2, h3, h4, h5⟩ := h
    obtain ⟨k1, k2, k3, k4, k5⟩ := h'
    have hv : v = v' := by
      rcases Nat.lt_trichotomy v v' with hlt | rfl | hlt
      · exact absurd h4 (k5 v hlt)
      · rfl
      · exact absurd k4 (h5 v' hlt)
    subst hv
    rw [countP_one h2 k2 h3 k3 h4]

/-- Runs of the reduction: the steps (edge, into, vertex) and what is left. -/
inductive Run (n : Nat) (r0 : List Nat) (g0 : List Bool) : List (Int × Int × Int) → List Nat → List Bool → Prop
  | nil : Run n r0 g0 [] r0 g0
  | abs {l r g} {e f : Nat} : Run n r0 g0 l r g → AbsSpec r g (some (e, f)) → Run n r0 g0 (l ++ [((e : Int), (f : Int), -1)]) (r.set e 0) (g.set e true)
  | iso {l r g} {e v : Nat} : Run n r0 g0 l r g → AbsSpec r g none → IsoSpec n r (some (e, v)) → Run n r0 g0 (l ++ [((e : Int), -1, (v : Int))]) (r.set e (andn (nth r e) (2 ^ v))) g
theorem Run.lengths {n : Nat} {r0 r : List Nat} {g0 g : List Bool} {l : List (Int × Int × Int)} (h : Run n r0 g0 l r g) : r.length = r0.length ∧ g.length = g0.length := by
  induction h with
  | nil => exact ⟨rfl, rfl⟩
  | abs _ _ ih => simpa using ih
  | iso _ _ _ ih => simpa using ih

/-- What the reduction lowers with each step. -/
def bitsOf (n x : Nat) : Nat := (List.range n).countP fun v => x.testBit v
def meas (n : Nat) (r : List Nat) (g : List Bool) : Nat := g.countP (! ·) + (r.map (bitsOf n)).sum
theorem bitsOf_zero (n : Nat) : bitsOf n 0 = 0 := by simp [bitsOf]
theorem bitsOf_le (n x : Nat) : bitsOf n x ≤ n := by
  have := List.countP_le_length (p := fun v => x.testBit v) (l := List.range n)
  rw [List.length_range] at this
  exact this
theorem countP_lt_of {α : Type} (p q : α → Bool) : ∀ l : List α, (∀ x ∈ l, p x = true → q x = true) → (∃ x ∈ l, p x = false ∧ q x = true) → l.countP p < l.countP q := by
  intro l
  induction l with
  | nil => rintro _ ⟨x, hx, _⟩; simp at hx
  | cons y l ih =>
    rintro h ⟨x, hx, hp, hq⟩
    have hle : l.countP p ≤ l.countP q := List.countP_mono_left (fun x hx => h x (by simp [hx]))
    rw [List.countP_cons, List.countP_cons]
    rcases List.mem_cons.1 hx with rfl | hx
    · rw [hp, hq]; simp; omega
    · have := ih (fun x hx => h x (by simp [hx])) ⟨x, hx, hp, hq⟩
      have hy := h y (by simp)
      cases hpy : p y with
      | true => rw [hy hpy]; simp; omega
      | false => cases q y <;> simp <;> omega
theorem sum_set (f : Nat → Nat) : ∀ (r : List Nat) (e x : Nat), e < r.length → ((r.set e x).map f).sum + f (nth r e) = (r.map f).sum + f x := by
  intro r
  induction r with
  | nil => intro e x h; simp at h
  | cons y r ih =>
    intro e x h
    cases e with
    | zero => simp [nth]; omega
    | succ e =>
      have := ih e x (by simpa using h)
      simp only [List.set_cons_succ, List.map_cons, List.sum_cons]
      have h2 : nth (y :: r) (e + 1) = nth r e := by simp [nth]
      rw [h2]; omega
theorem countP_set_true : ∀ (g : List Bool) (e : Nat), e < g.length → bget g e = false → (g.set e true).countP (! ·) + 1 = g.countP (! ·) := by
  intro g
  induction g with
  | nil => intro e h; simp at h
  | cons b g ih =>
    intro e h hb
    cases e with
    | zero =>
      have : b = false := by simpa [bget] using hb
      subst this
      simp
    | succ e =>
      have := ih e (by simpa using h) (by simpa [bget] using hb)
      simp only [List.set_cons_succ, List.countP_cons]
      omega
theorem absorbs_parts {r : List Nat} {g : List Bool} {e f : Nat} (h : absorbs r g e f = true) : e ≠ f ∧ bget g e = false ∧ bget g f = false ∧ andn (nth r e) (nth r f) = 0 := by
  simp [absorbs] at h
  exact ⟨h.1, h.2.1, h.2.2.1, h.2.2.2⟩
theorem meas_abs {n : Nat} {r : List Nat} {g : List Bool} {e f : Nat} (hl : g.length = r.length) (h : AbsSpec r g (some (e, f))) : meas n (r.set e 0) (g.set e true) < meas n r g := by
  obtain ⟨h1, h2, h3, _, _⟩ := h
  have h4 := countP_set_true g e (by omega) (absorbs_parts h3).2.1
  have h5 := sum_set (bitsOf n) r e 0 h1
  rw [bitsOf_zero] at h5
  unfold meas
  omega
theorem meas_iso {n : Nat} (hn : n ≤ 32) {r : List Nat} {g : List Bool} {e v : Nat} (hr : ∀ x ∈ r, x < 2 ^ 32) (h : IsoSpec n r (some (e, v))) : meas n (r.set e (andn (nth r e) (2 ^ v))) g < meas n r g := by
  obtain ⟨h1, h2, h3, _, _⟩ := h
  have hx := hr _ (nth_mem h2)
  have h5 := sum_set (bitsOf n) r e (andn (nth r e) (2 ^ v)) h2
  have h6 : bitsOf n (andn (nth r e) (2 ^ v)) < bitsOf n (nth r e) := by
    apply countP_lt_of
    · intro u _ hu
      rw [testBit_andn (pow2_lt32 (by omega)) hx] at hu
      simp at hu
      exact hu.1
    · exact ⟨v, by simpa using h1, by rw [testBit_andn (pow2_lt32 (by omega)) hx]; simp [Nat.testBit_two_pow_self], h3⟩
  unfold meas
  omega
theorem meas_le {n : Nat} {r : List Nat} {g : List Bool} : meas n r g ≤ g.length + r.length * n := by
  have h1 : g.countP (! ·) ≤ g.length := List.countP_le_length
  have h2 : ∀ l : List Nat, (l.map (bitsOf n)).sum ≤ l.length * n := by
    intro l
    induction l with
    | nil => simp
    | cons x l ih =>
      have := bitsOf_le n x
      simp only [List.map_cons, List.sum_cons, List.length_cons, Nat.add_mul]
      omega
  have := h2 r
  unfold meas
  omega
end Go.Proofs.YtjofdlafblpclaaDoor
