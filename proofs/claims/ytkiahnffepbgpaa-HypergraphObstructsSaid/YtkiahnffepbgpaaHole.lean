/-
  Plain: chordless cycles, and what hypergraph.cycleLength says of them.
-/
import Derived.Test.YtkiahnffepbgpaaWk
import Derived.Test.YtkiahnffepbgpaaScP
namespace Go.Proofs.Ytkiahnffepbgpaa

/-- The rows of a graph's neighbours. -/
structure Ady (n : Nat) (R : List Nat) : Prop where
  nn : n ≤ 32
  lt : ∀ x ∈ R, x < 2 ^ n
  sym : ∀ u v, GR R u v → GR R v u
  irr : ∀ v, ¬ GR R v v
theorem Ady.hi {n : Nat} {R : List Nat} (h : Ady n R) {u v : Nat} (g : GR R u v) : v < n := testBit_lt (nth_lt2 h.lt u) g
theorem Ady.lo {n : Nat} {R : List Nat} (h : Ady n R) {u v : Nat} (g : GR R u v) : u < n := h.hi (h.sym _ _ g)
theorem Wk.mono2 {G : Nat → Nat → Prop} {I J : Nat → Prop} (h : ∀ u v, G u v → I v → J v) {k a b : Nat} (w : Wk G I k a b) : Wk G J k a b := by
  induction w with
  | nil a => exact .nil a
  | snoc _ g i ih => exact .snoc ih g (h _ _ g i)
section
variable {R : List Nat} {n : Nat}
theorem lt32_2 {x : Nat} (hn : n ≤ 32) (h : x < 2 ^ n) : x < 2 ^ 32 := Nat.lt_of_lt_of_le h (two_pow_le hn)
theorem two_bit (v u : Nat) : (2 ^ v).testBit u = true ↔ u = v := by
  rw [Nat.testBit_two_pow, decide_eq_true_eq]; exact eq_comm
theorem lows_bit (n u : Nat) : (2 ^ n - 1).testBit u = true ↔ u < n := by rw [Nat.testBit_two_pow_sub_one, decide_eq_true_eq]
theorem rest_bit (h : Ady n R) {v x y u : Nat} (hv : v < n) : (restOf R n v x y).testBit u = true ↔ (u < n ∧ ¬ GR R v u ∧ u ≠ v) ∨ u = x ∨ u = y := by
  have hp := pow2_pos n
  have h1 : 2 ^ n - 1 < 2 ^ 32 := by have := two_pow_le (m := 32) h.nn; omega
  have h2 : nth R v < 2 ^ 32 := lt32_2 h.nn (nth_lt2 h.lt v)
  unfold restOf
  rw [Nat.testBit_or, Nat.testBit_or, Bool.or_eq_true, Bool.or_eq_true, two_bit, two_bit, testBit_andn (pow2_lt32 (by have := h.nn; omega)) (andn_lt h1), testBit_andn h2 h1, Bool.and_eq_true, Bool.and_eq_true, lows_bit, Bool.not_eq_true', Bool.not_eq_true', or_assoc]
  have e1 : (nth R v).testBit u = false ↔ ¬ GR R v u := by unfold GR; simp
  have e2 : (2 ^ v).testBit u = false ↔ u ≠ v := by rw [← Bool.not_eq_true, two_bit]
  rw [e1, e2, and_assoc]
theorem skip_no {v x y : Nat} : skipB R v x y = false ↔ GR R v x ∧ GR R v y ∧ ¬ GR R x y := by
  unfold skipB GR
  simp [and_assoc]
/-- A place where cycleLength finds a cycle. -/
def OkT (R : List Nat) (n v x y : Nat) : Prop := (v < n ∧ x < n ∧ y < x) ∧ skipB R v x y = false ∧ distF R n x y (restOf R n v x y) ≠ 0
def CInv (R : List Nat) (n : Nat) (P : Nat → Nat → Nat → Prop) (s : Nat) : Prop :=
  (s = 0 ∧ ∀ v x y, P v x y → ¬ OkT R n v x y) ∨ (s ≠ 0 ∧ (∃ v x y, OkT R n v x y ∧ s = distF R n x y (restOf R n v x y) + 2) ∧ ∀ v x y, P v x y → OkT R n v x y → s ≤ distF R n x y (restOf R n v x y) + 2)
theorem CInv.sub {P Q : Nat → Nat → Nat → Prop} {s : Nat} (h : CInv R n P s) (hq : ∀ a b c, Q a b c → OkT R n a b c → P a b c) : CInv R n Q s := by
  rcases h with ⟨h1, h2⟩ | ⟨h1, h2, h3⟩
  · exact .inl ⟨h1, fun v x y q ok => h2 v x y (hq v x y q ok) ok⟩
  · exact .inr ⟨h1, h2, fun v x y q ok => h3 v x y (hq v x y q ok) ok⟩
theorem CInv.step {P Q : Nat → Nat → Nat → Prop} {s v x y : Nat} (h : CInv R n P s) (hb : v < n ∧ x < n ∧ y < x) (hq : ∀ a b c, Q a b c → OkT R n a b c → P a b c ∨ (a = v ∧ b = x ∧ c = y)) : CInv R n Q (stepF R n v x y s) := by
  unfold stepF
  by_cases h1 : skipB R v x y = true
  · rw [if_pos h1]
    refine h.sub fun a b c q ok => ?_
    rcases hq a b c q ok with h2 | ⟨rfl, rfl, rfl⟩
    · exact h2
    · have := ok.2.1; rw [h1] at this; cases this
  · rw [if_neg h1]
    have h1' : skipB R v x y = false := by simpa using h1
    by_cases h2 : 0 < distF R n x y (restOf R n v x y) ∧ (s = 0 ∨ distF R n x y (restOf R n v x y) + 2 < s)
    · rw [if_pos h2]
      refine .inr ⟨by omega, ⟨v, x, y, ⟨hb, h1', by omega⟩, rfl⟩, fun a b c q ok => ?_⟩
      rcases hq a b c q ok with h3 | ⟨rfl, rfl, rfl⟩
      · rcases h with ⟨_, h5⟩ | ⟨h4, _, h5⟩
        · exact absurd ok (h5 a b c h3)
        · have := h5 a b c h3 ok
          rcases h2.2 with h6 | h6
          · exact absurd h6 h4
          · omega
      · exact Nat.le_refl _
    · rw [if_neg h2]
      rcases h with ⟨h4, h5⟩ | ⟨h4, h6, h5⟩
      · refine .inl ⟨h4, fun a b c q ok => ?_⟩
        rcases hq a b c q ok with h3 | ⟨rfl, rfl, rfl⟩
        · exact h5 a b c h3 ok
        · exact h2 ⟨Nat.pos_of_ne_zero ok.2.2, .inl h4⟩
      · refine .inr ⟨h4, h6, fun a b c q ok => ?_⟩
        rcases hq a b c q ok with h3 | ⟨rfl, rfl, rfl⟩
        · exact h5 a b c h3 ok
        · rcases Nat.lt_or_ge (distF R n b c (restOf R n a b c) + 2) s with h7 | h7
          · exact absurd ⟨Nat.pos_of_ne_zero ok.2.2, .inr h7⟩ h2
          · exact h7
theorem cylY_inv {P : Nat → Nat → Nat → Prop} {v x s : Nat} (hv : v < n) (hx : x < n) (h : CInv R n P s) : ∀ k, k ≤ x → CInv R n (fun a b c => P a b c ∨ (a = v ∧ b = x ∧ c < k)) (cylYF R n v x k s)
  | 0, _ => h.sub fun a b c q _ => by
    rcases q with q | q
    · exact q
    · omega
  | k + 1, hk => by
    rw [cylYF]
    refine (cylY_inv hv hx h k (by omega)).step ⟨hv, hx, by omega⟩ fun a b c q _ => ?_
    rcases q with q | ⟨q1, q2, q3⟩
    · exact .inl (.inl q)
    · rcases Nat.lt_or_ge c k with h1 | h1
      · exact .inl (.inr ⟨q1, q2, h1⟩)
      · exact .inr ⟨q1, q2, by omega⟩
theorem cylX_inv {P : Nat → Nat → Nat → Prop} {v s : Nat} (hv : v < n) (h : CInv R n P s) : ∀ k, k ≤ n → CInv R n (fun a b c => P a b c ∨ (a = v ∧ b < k)) (cylXF R n v k s)
  | 0, _ => h.sub fun a b c q _ => by
    rcases q with q | q
    · exact q
    · omega
  | k + 1, hk => by
    rw [cylXF]
    refine (cylY_inv hv (by omega) (cylX_inv hv h k (by omega)) k (Nat.le_refl _)).sub fun a b c q ok => ?_
    rcases q with q | ⟨q1, q2⟩
    · exact .inl (.inl q)
    · rcases Nat.lt_or_ge b k with h1 | h1
      · exact .inl (.inr ⟨q1, h1⟩)
      · obtain rfl : b = k := by omega
        exact .inr ⟨q1, rfl, ok.1.2.2⟩
theorem cylV_inv : ∀ k, k ≤ n → CInv R n (fun a _ _ => a < k) (cylVF R n k 0)
  | 0, _ => .inl ⟨rfl, fun v x y q => by omega⟩
  | k + 1, hk => by
    rw [cylVF]
    refine (cylX_inv (by omega) (cylV_inv k (by omega)) n (Nat.le_refl _)).sub fun a b c q ok => ?_
    rcases Nat.lt_or_ge a k with h1 | h1
    · exact .inl h1
    · exact .inr ⟨by omega, ok.1.2.1⟩
theorem cylF_zero (h : cylF R n = 0) {v x y : Nat} : ¬ OkT R n v x y := by
  intro ok
  rcases cylV_inv (R := R) (n := n) n (Nat.le_refl _) with ⟨_, h1⟩ | ⟨h1, _⟩
  · exact h1 v x y ok.1.1 ok
  · exact h1 h
theorem cylF_min {v x y : Nat} (ok : OkT R n v x y) : cylF R n ≠ 0 ∧ cylF R n ≤ distF R n x y (restOf R n v x y) + 2 := by
  rcases cylV_inv (R := R) (n := n) n (Nat.le_refl _) with ⟨_, h1⟩ | ⟨h1, _, h2⟩
  · exact absurd ok (h1 v x y ok.1.1)
  · exact ⟨h1, h2 v x y ok.1.1 ok⟩
theorem cylF_at (h : cylF R n ≠ 0) : ∃ v x y, OkT R n v x y ∧ cylF R n = distF R n x y (restOf R n v x y) + 2 := by
  rcases cylV_inv (R := R) (n := n) n (Nat.le_refl _) with ⟨h1, _⟩ | ⟨_, h1, _⟩
  · exact absurd h1 h
  · exact h1
/-- A cycle without chords, as a function. -/
structure Hole (R : List Nat) (L : Nat) (h : Nat → Nat) : Prop where
  four : 4 ≤ L
  inj : ∀ i j, i < L → j < L → h i = h j → i = j
  adj : ∀ i j, i < L → j < L → (GR R (h i) (h j) ↔ (j = i + 1 ∨ i = j + 1 ∨ (i = 0 ∧ j + 1 = L) ∨ (j = 0 ∧ i + 1 = L)))
theorem walk_fun {G : Nat → Nat → Prop} {I : Nat → Prop} {k a b : Nat} (w : Wk G I k a b) : ∃ f : Nat → Nat, f 0 = a ∧ f k = b ∧ ∀ i, i < k → G (f i) (f (i + 1)) ∧ I (f (i + 1)) := by
  induction w with
  | nil a => exact ⟨fun _ => a, rfl, rfl, fun i hi => by omega⟩
  | @snoc k a u v w g i ih =>
    obtain ⟨f, h1, h2, h3⟩ := ih
    refine ⟨fun j => if j ≤ k then f j else v, by simp [h1], if_neg (by omega), fun j hj => ?_⟩
    rcases Nat.lt_or_ge j k with h | h
    · simp only [if_pos (show j ≤ k by omega), if_pos (show j + 1 ≤ k by omega)]; exact h3 j h
    · obtain rfl : j = k := by omega
      simp only [if_pos (Nat.le_refl j), if_neg (show ¬ j + 1 ≤ j by omega), h2]; exact ⟨g, i⟩
theorem fun_walk {G : Nat → Nat → Prop} {I : Nat → Prop} {f : Nat → Nat} {i : Nat} : ∀ {k : Nat}, (∀ j, i ≤ j → j < i + k → G (f j) (f (j + 1)) ∧ I (f (j + 1))) → Wk G I k (f i) (f (i + k))
  | 0, _ => .nil _
  | k + 1, h => .snoc (fun_walk (k := k) fun j h1 h2 => h j h1 (by omega)) (h (i + k) (by omega) (by omega)).1 (h (i + k) (by omega) (by omega)).2
/-- A shortest walk has no chords. -/
theorem short_fun {ins a b d : Nat} (h : Exact R ins a d b) : ∃ f : Nat → Nat, f 0 = a ∧ f d = b ∧ (∀ i, i < d → GR R (f i) (f (i + 1)) ∧ InS ins (f (i + 1))) ∧ (∀ i j, i < j → j ≤ d → f i ≠ f j) ∧ ∀ i j, i < j → j ≤ d → GR R (f i) (f j) → j = i + 1 := by
  obtain ⟨f, h1, h2, h3⟩ := walk_fun h.1
  have hw : ∀ i k, i + k ≤ d → Wk (GR R) (InS ins) k (f i) (f (i + k)) := fun i k hk => fun_walk fun j h4 h5 => h3 j (by omega)
  refine ⟨f, h1, h2, h3, fun i j hij hj he => ?_, fun i j hij hj hg => ?_⟩
  · have w1 := hw 0 i (by omega)
    have w2 := hw j (d - j) (by omega)
    rw [Nat.zero_add, h1] at w1
    rw [show j + (d - j) = d by omega, h2, ← he] at w2
    exact h.2 _ (show i + (d - j) < d by omega) (w1.cat w2)
  · rcases Nat.lt_or_ge (i + 1) j with hlt | hge
    · exfalso
      have w1 := hw 0 i (by omega)
      have w2 := hw j (d - j) (by omega)
      rw [Nat.zero_add, h1] at w1
      rw [show j + (d - j) = d by omega, h2] at w2
      have hi : InS ins (f j) := by
        have := (h3 (j - 1) (by omega)).2
        rwa [show j - 1 + 1 = j by omega] at this
      exact h.2 _ (show (i + 1) + (d - j) < d by omega) ((Wk.snoc w1 hg hi).cat w2)
    · omega
/-- A place of cycleLength gives a cycle. -/
theorem hole_of (ha : Ady n R) {v x y : Nat} (ok : OkT R n v x y) : ∃ h, Hole R (distF R n x y (restOf R n v x y) + 2) h ∧ (∀ i, i < distF R n x y (restOf R n v x y) + 2 → h i < n) := by
  obtain ⟨⟨hv, hx, hyx⟩, hsk, hd⟩ := ok
  obtain ⟨g1, g2, g3⟩ := skip_no.1 hsk
  have hex := ((dist_spec ha.nn ha.lt (restOf R n v x y) hx (show x ≠ y by omega)).resolve_left (fun h => hd h.1)).2
  generalize distF R n x y (restOf R n v x y) = d at *
  obtain ⟨f, f0, fd, f1, f2, f3⟩ := short_fun hex
  have hd2 : 2 ≤ d := by
    rcases Nat.lt_or_ge d 2 with h | h
    · obtain rfl : d = 1 := by omega
      have := (f1 0 (by omega)).1
      rw [f0, fd] at this
      exact absurd this g3
    · exact h
  have fin : ∀ i, 0 < i → i < d → ¬ GR R v (f i) ∧ f i ≠ v := by
    intro i h0 hi
    have h1 := (f1 (i - 1) (by omega)).2
    rw [show i - 1 + 1 = i by omega] at h1
    rcases (rest_bit ha hv).1 h1 with h2 | h2 | h2
    · exact h2.2
    · exact absurd (f0.trans h2.symm) (f2 0 i h0 (by omega))
    · exact absurd (h2.trans fd.symm) (f2 i d hi (Nat.le_refl _))
  have fn : ∀ i, i ≤ d → f i ≠ v := by
    intro i hi
    rcases Nat.eq_zero_or_pos i with rfl | h0
    · rw [f0]; intro e; rw [e] at g1; exact ha.irr _ g1
    · rcases Nat.lt_or_ge i d with h1 | h1
      · exact (fin i h0 h1).2
      · obtain rfl : i = d := by omega
        rw [fd]; intro e; rw [e] at g2; exact ha.irr _ g2
  have fg : ∀ i, i ≤ d → (GR R v (f i) ↔ i = 0 ∨ i = d) := by
    intro i hi
    constructor
    · intro hg
      rcases Nat.eq_zero_or_pos i with h0 | h0
      · exact .inl h0
      · rcases Nat.lt_or_ge i d with h1 | h1
        · exact absurd hg (fin i h0 h1).1
        · exact .inr (by omega)
    · rintro (rfl | rfl)
      · rw [f0]; exact g1
      · rw [fd]; exact g2
  have ff : ∀ i j, i < j → j ≤ d → (GR R (f i) (f j) ↔ j = i + 1) := fun i j h1 h2 => ⟨f3 i j h1 h2, fun e => by subst e; exact (f1 i (by omega)).1⟩
  refine ⟨fun i => if i = 0 then v else f (i - 1), ⟨by omega, fun i j hi hj he => ?_, fun i j hi hj => ?_⟩, fun i hi => ?_⟩
  · by_cases h0 : i = 0
    · by_cases h1 : j = 0
      · omega
      · simp only [if_pos h0, if_neg h1] at he
        exact absurd he.symm (fn (j - 1) (by omega))
    · by_cases h1 : j = 0
      · simp only [if_neg h0, if_pos h1] at he
        exact absurd he (fn (i - 1) (by omega))
      · simp only [if_neg h0, if_neg h1] at he
        rcases Nat.lt_trichotomy (i - 1) (j - 1) with h2 | h2 | h2
        · exact absurd he (f2 _ _ h2 (by omega))
        · omega
        · exact absurd he.symm (f2 _ _ h2 (by omega))
  · by_cases h0 : i = 0
    · by_cases h1 : j = 0
      · simp only [if_pos h0, if_pos h1]
        exact ⟨fun h => absurd h (ha.irr _), fun h => by omega⟩
      · simp only [if_pos h0, if_neg h1, fg (j - 1) (show j - 1 ≤ d by omega)]; omega
    · by_cases h1 : j = 0
      · simp only [if_neg h0, if_pos h1]
        have := fg (i - 1) (show i - 1 ≤ d by omega)
        constructor
        · intro h; have := this.1 (ha.sym _ _ h); omega
        · intro h; exact ha.sym _ _ (this.2 (by omega))
      · simp only [if_neg h0, if_neg h1]
        rcases Nat.lt_trichotomy (i - 1) (j - 1) with h2 | h2 | h2
        · rw [ff _ _ h2 (by omega)]; omega
        · rw [h2]; exact ⟨fun h => absurd h (ha.irr _), fun h => by omega⟩
        · have := ff _ _ h2 (show i - 1 ≤ d by omega)
          constructor
          · intro h; have := this.1 (ha.sym _ _ h); omega
          · intro h; exact ha.sym _ _ (this.2 (by omega))
  · by_cases h0 : i = 0
    · simp only [if_pos h0]; exact hv
    · simp only [if_neg h0]
      rcases Nat.lt_or_ge (i - 1) d with h1 | h1
      · exact ha.lo (f1 (i - 1) h1).1
      · rw [show i - 1 = d by omega, fd]; omega
/-- A cycle may be turned. -/
theorem Hole.turn {L : Nat} {h : Nat → Nat} (hh : Hole R L h) {m : Nat} (hm : m < L) : Hole R L (fun i => if i + m < L then h (i + m) else h (i + m - L)) := by
  refine ⟨hh.four, fun i j hi hj he => ?_, fun i j hi hj => ?_⟩
  · by_cases h1 : i + m < L
    · by_cases h2 : j + m < L
      · simp only [if_pos h1, if_pos h2] at he; have := hh.inj _ _ h1 h2 he; omega
      · simp only [if_pos h1, if_neg h2] at he; have := hh.inj _ _ h1 (by omega) he; omega
    · by_cases h2 : j + m < L
      · simp only [if_neg h1, if_pos h2] at he; have := hh.inj _ _ (by omega) h2 he; omega
      · simp only [if_neg h1, if_neg h2] at he; have := hh.inj _ _ (by omega) (by omega) he; omega
  · have := hh.four
    by_cases h1 : i + m < L
    · by_cases h2 : j + m < L
      · simp only [if_pos h1, if_pos h2]; rw [hh.adj _ _ h1 h2]; omega
      · simp only [if_pos h1, if_neg h2]; rw [hh.adj _ _ h1 (by omega)]; omega
    · by_cases h2 : j + m < L
      · simp only [if_neg h1, if_pos h2]; rw [hh.adj _ _ (by omega) h2]; omega
      · simp only [if_neg h1, if_neg h2]; rw [hh.adj _ _ (by omega) (by omega)]; omega
end
end Go.Proofs.Ytkiahnffepbgpaa
