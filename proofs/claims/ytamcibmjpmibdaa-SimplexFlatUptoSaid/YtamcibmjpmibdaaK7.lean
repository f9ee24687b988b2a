/-
Plain: Bland's rule does not cycle.
Plain: how great the numbers of a tableau can be: every basis is reached from the first one by at most m pivots.
The tableau in memory; contracts of right and artificial.
Contract of pivot. Regions printed by gen/sx.py.
-/
import Derived.Test.YtamcibmjpmibdaaK6
namespace Go.Proofs.Ytamcibmjpmibdaa
set_option linter.unusedVariables false

theorem ratio_mul {a b q : Rat} (hb : 0 < b) (h : q ≤ a / b) : q * b ≤ a := by
  have h1 : 0 ≤ (a / b - q) * b := Rat.mul_nonneg (by grind) (by grind)
  have h2 : a / b * b = a := by grind
  grind
/-- One step of Bland's rule among the first columns: e enters, row r's basic column leaves. -/
structure Bl (m R cols : Nat) (S : Tab) (e r : Nat) : Prop where
  ce : e < cols
  neg : S.G e < 0
  first : ∀ j, j < e → 0 ≤ S.G j
  row : r < m
  pos : 0 < S.T r e
  least : ∀ i, i < m → 0 < S.T i e → S.T r R / S.T r e ≤ S.T i R / S.T i e ∧ (S.T i R / S.T i e ≤ S.T r R / S.T r e → S.b r ≤ S.b i)
def Feas (m R : Nat) (S : Tab) : Prop := ∀ i, i < m → 0 ≤ S.T i R
section
variable {m R cols e r : Nat} {S : Tab}
theorem piv_row (S : Tab) (r e j : Nat) : (S.piv r e).T r j = S.T r j / S.T r e := by show (if r = r then _ else _) = _; rw [if_pos rfl]
theorem piv_oth (S : Tab) {i r : Nat} (e j : Nat) (h : i ≠ r) : (S.piv r e).T i j = S.T i j - S.T i e * (S.T r j / S.T r e) := by show (if i = r then _ else _) = _; rw [if_neg h]
theorem piv_b (S : Tab) (r e : Nat) : (S.piv r e).b r = e := by show (if r = r then _ else _) = _; rw [if_pos rfl]
theorem piv_bo (S : Tab) {i r : Nat} (e : Nat) (h : i ≠ r) : (S.piv r e).b i = S.b i := by show (if i = r then _ else _) = _; rw [if_neg h]
theorem div_nonneg {a b : Rat} (ha : 0 ≤ a) (hb : 0 < b) : 0 ≤ a / b := by
  refine Classical.byContradiction fun h => ?_
  have h1 : 0 ≤ (-(a / b)) * b := Rat.mul_nonneg (by grind) (by grind)
  have h2 : a / b * b = a := by grind
  have h3 : a = 0 := by grind
  rw [h3] at h
  grind
theorem Bl.ratio (h : Bl m R cols S e r) (hf : Feas m R S) : 0 ≤ S.T r R / S.T r e := div_nonneg (hf r h.row) h.pos
theorem Bl.feas (h : Bl m R cols S e r) (hf : Feas m R S) : Feas m R (S.piv r e) := by
  intro i hi
  have hq := h.ratio hf
  by_cases hir : i = r
  · subst hir; rw [piv_row]; exact hq
  · rw [piv_oth S e R hir]
    have hi0 := hf i hi
    by_cases hp : 0 < S.T i e
    · have := ratio_mul hp (h.least i hi hp).1
      have e1 : S.T i e * (S.T r R / S.T r e) = S.T r R / S.T r e * S.T i e := by grind
      rw [e1]; grind
    · have h1 : 0 ≤ (- S.T i e) * (S.T r R / S.T r e) := Rat.mul_nonneg (by grind) hq
      grind
theorem Bl.up (h : Bl m R cols S e r) (hf : Feas m R S) : S.G R ≤ (S.piv r e).G R ∧ ((S.piv r e).G R ≤ S.G R → S.T r R = 0) := by
  have hq := h.ratio hf
  have hn := h.neg
  show S.G R ≤ S.G R - S.G e * (S.T r R / S.T r e) ∧ (S.G R - S.G e * (S.T r R / S.T r e) ≤ S.G R → _)
  have h1 : 0 ≤ (- S.G e) * (S.T r R / S.T r e) := Rat.mul_nonneg (by grind) hq
  refine ⟨by grind, fun h2 => ?_⟩
  have h3 : S.G e * (S.T r R / S.T r e) = 0 := by grind
  have h4 : S.T r R / S.T r e = 0 := by
    rcases Rat.mul_eq_zero.1 h3 with h5 | h5
    · grind
    · exact h5
  have h6 := h.pos
  have h7 : S.T r R = S.T r R / S.T r e * S.T r e := by grind
  rw [h7, h4]; grind
end
/-- A run of Bland's rule. -/
structure Bruns (m R cols : Nat) (S : Nat → Tab) (E Q : Nat → Nat) (K : Nat) : Prop where
  cr : cols ≤ R
  canon : Canon m R (S 0)
  feas : Feas m R (S 0)
  step : ∀ k, k < K → Bl m R cols (S k) (E k) (Q k)
  next : ∀ k, k < K → S (k + 1) = (S k).piv (Q k) (E k)
section
variable {m R cols K : Nat} {S : Nat → Tab} {E Q : Nat → Nat}
theorem Bruns.all (h : Bruns m R cols S E Q K) : ∀ k, k ≤ K → Canon m R (S k) ∧ Feas m R (S k)
  | 0, _ => ⟨h.canon, h.feas⟩
  | k + 1, hk => by
    obtain ⟨h1, h2⟩ := h.all k (by omega)
    have hs := h.step k (by omega)
    rw [h.next k (by omega)]
    exact ⟨h1.piv hs.row (by have := hs.ce; have := h.cr; omega) (by have := hs.pos; grind), hs.feas h2⟩
theorem Bruns.eqv (h : Bruns m R cols S E Q K) : ∀ d k, k + d ≤ K → Eqv m R (S k) (S (k + d)) ∧ Eqv m R (S (k + d)) (S k)
  | 0, k, _ => ⟨Eqv.refl _ _ _, Eqv.refl _ _ _⟩
  | d + 1, k, hk => by
    obtain ⟨h1, h2⟩ := h.eqv d k (by omega)
    have hs := h.step (k + d) (by omega)
    obtain ⟨h3, h4⟩ := Eqv.piv (h.all (k + d) (by omega)).1 hs.row (show E (k + d) < R by have := hs.ce; have := h.cr; omega) (by have := hs.pos; grind)
    rw [← Nat.add_assoc, h.next (k + d) (by omega)]
    exact ⟨h1.trans h3, h4.trans h2⟩
theorem Bruns.eqv2 (h : Bruns m R cols S E Q K) {u v : Nat} (hu : u ≤ K) (hv : v ≤ K) : Eqv m R (S u) (S v) := by
  rcases Nat.le_total u v with h1 | h1
  · have := (h.eqv (v - u) u (by omega)).1
    rwa [show u + (v - u) = v by omega] at this
  · have := (h.eqv (u - v) v (by omega)).2
    rwa [show v + (u - v) = u by omega] at this
theorem Bruns.goal_le (h : Bruns m R cols S E Q K) {u : Nat} : ∀ d, u + d ≤ K → (S u).G R ≤ (S (u + d)).G R
  | 0, _ => by simp
  | d + 1, hd => by
    have h1 := h.goal_le (u := u) d (by omega)
    have h2 := ((h.step (u + d) (by omega)).up (h.all (u + d) (by omega)).2).1
    rw [← h.next (u + d) (by omega)] at h2
    exact Rat.le_trans h1 h2
/-- x is basic. -/
def Bas (m : Nat) (S : Tab) (x : Nat) : Prop := ∃ i, i < m ∧ S.b i = x
/-- Between two states, one without and one with x: x enters. -/
theorem Bruns.enters (h : Bruns m R cols S E Q K) {x u : Nat} (hu : ¬ Bas m (S u) x) : ∀ d, u + d ≤ K → Bas m (S (u + d)) x → ∃ k, u ≤ k ∧ k < u + d ∧ E k = x
  | 0, _, hb => absurd hb hu
  | d + 1, hd, hb => by
    by_cases h1 : Bas m (S (u + d)) x
    · obtain ⟨k, h2, h3, h4⟩ := h.enters hu d (by omega) h1
      exact ⟨k, h2, by omega, h4⟩
    · refine ⟨u + d, by omega, by omega, ?_⟩
      obtain ⟨i, hi, he⟩ := hb
      rw [← Nat.add_assoc, h.next (u + d) (by omega)] at he
      by_cases hiq : i = Q (u + d)
      · rw [hiq, piv_b] at he; exact he
      · rw [piv_bo _ _ hiq] at he; exact absurd ⟨i, hi, he⟩ h1
theorem Bruns.leaves (h : Bruns m R cols S E Q K) {x u : Nat} (hu : Bas m (S u) x) : ∀ d, u + d ≤ K → ¬ Bas m (S (u + d)) x → ∃ k, u ≤ k ∧ k < u + d ∧ (S k).b (Q k) = x
  | 0, _, hb => absurd hu hb
  | d + 1, hd, hb => by
    by_cases h1 : Bas m (S (u + d)) x
    · refine ⟨u + d, by omega, by omega, ?_⟩
      obtain ⟨i, hi, he⟩ := h1
      by_cases hiq : i = Q (u + d)
      · rw [← hiq]; exact he
      · refine absurd ⟨i, hi, ?_⟩ hb
        rw [← Nat.add_assoc, h.next (u + d) (by omega), piv_bo _ _ hiq]; exact he
    · obtain ⟨k, h2, h3, h4⟩ := h.leaves hu d (by omega) h1
      exact ⟨k, h2, by omega, h4⟩
/-- A row whose basic column changes is pivoted on. -/
theorem Bruns.moved (h : Bruns m R cols S E Q K) {i u : Nat} : ∀ d, u + d ≤ K → (S u).b i ≠ (S (u + d)).b i → ∃ k, u ≤ k ∧ k < u + d ∧ Q k = i
  | 0, _, hb => absurd rfl hb
  | d + 1, hd, hb => by
    by_cases hq : Q (u + d) = i
    · exact ⟨u + d, by omega, by omega, hq⟩
    · rw [← Nat.add_assoc, h.next (u + d) (by omega), piv_bo _ _ (Ne.symm hq)] at hb
      obtain ⟨k, h2, h3, h4⟩ := h.moved d (by omega) hb
      exact ⟨k, h2, by omega, h4⟩
theorem max_at (E : Nat → Nat) {a : Nat} : ∀ d, 0 < d → ∃ q, a ≤ q ∧ q < a + d ∧ ∀ k, a ≤ k → k < a + d → E k ≤ E q
  | 0, h => by omega
  | 1, _ => ⟨a, by omega, by omega, fun k h1 h2 => by rw [show k = a by omega]; exact Nat.le_refl _⟩
  | d + 2, _ => by
    obtain ⟨q, h1, h2, h3⟩ := max_at E (a := a) (d + 1) (by omega)
    by_cases hc : E q ≤ E (a + (d + 1))
    · refine ⟨a + (d + 1), by omega, by omega, fun k k1 k2 => ?_⟩
      by_cases hk : k = a + (d + 1)
      · rw [hk]; exact Nat.le_refl _
      · exact Nat.le_trans (h3 k k1 (by omega)) hc
    · refine ⟨q, h1, by omega, fun k k1 k2 => ?_⟩
      by_cases hk : k = a + (d + 1)
      · rw [hk]; omega
      · exact h3 k k1 (by omega)
/-- No basis comes back. -/
theorem Bruns.no_cycle (h : Bruns m R cols S E Q K) {a c : Nat} (hac : a < c) (hc : c ≤ K) : ¬ ∀ i, i < m → (S a).b i = (S c).b i := by
  intro hb
  have hcr := h.cr
  obtain ⟨ca, fa⟩ := h.all a (by omega)
  obtain ⟨cc, fc⟩ := h.all c hc
  have hGR : (S c).G R = (S a).G R := (Eqv.same ca cc (h.eqv2 (by omega) hc) (fun i => i) (fun i hi => ⟨hi, (hb i hi).symm⟩) (fun l hl => ⟨l, hl, (hb l hl).symm⟩)).2 R (Nat.le_refl _)
  -- every pivot is degenerate
  have hz : ∀ k, a ≤ k → k < c → (S k).T (Q k) R = 0 := fun k k1 k2 => by
    have hu := (h.step k (by omega)).up (h.all k (by omega)).2
    refine hu.2 ?_
    have h1 := h.goal_le (u := a) (k - a) (by omega)
    rw [show a + (k - a) = k by omega] at h1
    have h2 := h.goal_le (u := k + 1) (c - (k + 1)) (by omega)
    rw [show k + 1 + (c - (k + 1)) = c by omega, hGR, h.next k (by omega)] at h2
    exact Rat.le_trans h2 h1
  -- the right side stays
  have hst : ∀ i, i < m → ∀ d, a + d ≤ c → (S (a + d)).T i R = (S a).T i R := fun i hi d => by
    induction d with
    | zero => intro _; rfl
    | succ d ih =>
      intro hd
      rw [← ih (by omega), ← Nat.add_assoc, h.next (a + d) (by omega)]
      by_cases hq : i = Q (a + d)
      · subst hq
        rw [piv_row, hz (a + d) (by omega) (by omega)]; grind
      · rw [piv_oth _ _ _ hq, hz (a + d) (by omega) (by omega)]; grind
  have hst2 : ∀ i, i < m → ∀ u v, a ≤ u → u ≤ c → a ≤ v → v ≤ c → (S u).T i R = (S v).T i R := fun i hi u v u1 u2 v1 v2 => by
    have e1 := hst i hi (u - a) (by omega)
    have e2 := hst i hi (v - a) (by omega)
    rw [show a + (u - a) = u by omega] at e1
    rw [show a + (v - a) = v by omega] at e2
    rw [e1, e2]
  have hmv : ∀ i, i < m → ∀ u v, a ≤ u → u ≤ c → a ≤ v → v ≤ c → (S u).b i ≠ (S v).b i → (S v).T i R = 0 := fun i hi u v u1 u2 v1 v2 hne => by
    have key : ∃ k, a ≤ k ∧ k < c ∧ Q k = i := by
      rcases Nat.le_total u v with h1 | h1
      · obtain ⟨k, k1, k2, k3⟩ := h.moved (i := i) (u := u) (v - u) (by omega) (by rw [show u + (v - u) = v by omega]; exact hne)
        exact ⟨k, by omega, by omega, k3⟩
      · obtain ⟨k, k1, k2, k3⟩ := h.moved (i := i) (u := v) (u - v) (by omega) (by rw [show v + (u - v) = u by omega]; exact Ne.symm hne)
        exact ⟨k, by omega, by omega, k3⟩
    obtain ⟨k, k1, k2, rfl⟩ := key
    rw [hst2 _ hi v k v1 v2 k1 (by omega)]; exact hz k k1 k2
  have hbac : ∀ x, Bas m (S a) x ↔ Bas m (S c) x := fun x => ⟨fun ⟨i, hi, he⟩ => ⟨i, hi, by rw [← hb i hi]; exact he⟩, fun ⟨i, hi, he⟩ => ⟨i, hi, by rw [hb i hi]; exact he⟩⟩
  have hent : ∀ x u v, a ≤ u → u ≤ c → a ≤ v → v ≤ c → ¬ Bas m (S u) x → Bas m (S v) x → ∃ k, a ≤ k ∧ k < c ∧ E k = x := fun x u v u1 u2 v1 v2 hu hv => by
    have fwd : ∀ u v, a ≤ u → u ≤ v → v ≤ c → ¬ Bas m (S u) x → Bas m (S v) x → ∃ k, a ≤ k ∧ k < c ∧ E k = x := fun u v u1 uv v2 hu hv => by
      obtain ⟨k, k1, k2, k3⟩ := h.enters hu (v - u) (by omega) (by rw [show u + (v - u) = v by omega]; exact hv)
      exact ⟨k, by omega, by omega, k3⟩
    rcases Nat.le_total u v with h1 | h1
    · exact fwd u v u1 h1 v2 hu hv
    · by_cases h2 : Bas m (S c) x
      · exact fwd u c u1 u2 (Nat.le_refl _) hu h2
      · exact fwd a v (Nat.le_refl _) v1 v2 (fun h3 => h2 ((hbac x).1 h3)) hv
  have hlea : ∀ x u v, a ≤ u → u ≤ c → a ≤ v → v ≤ c → ¬ Bas m (S u) x → Bas m (S v) x → ∃ k, a ≤ k ∧ k < c ∧ (S k).b (Q k) = x := fun x u v u1 u2 v1 v2 hu hv => by
    have fwd : ∀ v u, a ≤ v → v ≤ u → u ≤ c → ¬ Bas m (S u) x → Bas m (S v) x → ∃ k, a ≤ k ∧ k < c ∧ (S k).b (Q k) = x := fun v u v1 vu u2 hu hv => by
      obtain ⟨k, k1, k2, k3⟩ := h.leaves hv (u - v) (by omega) (by rw [show v + (u - v) = u by omega]; exact hu)
      exact ⟨k, by omega, by omega, k3⟩
    rcases Nat.le_total v u with h1 | h1
    · exact fwd v u v1 h1 u2 hu hv
    · by_cases h2 : Bas m (S c) x
      · exact fwd a u (Nat.le_refl _) u1 u2 hu ((hbac x).2 h2)
      · exact fwd v c v1 v2 (Nat.le_refl _) h2 hv
  have nb : ∀ k, k < K → ∀ x, (S k).G x ≠ 0 → ¬ Bas m (S k) x := fun k hk x hx ⟨i, hi, he⟩ => hx (by rw [← he]; exact (h.all k (by omega)).1.goal i hi)
  obtain ⟨q, q1, q2, hmax⟩ := max_at E (a := a) (c - a) (by omega)
  rw [show a + (c - a) = c by omega] at q2 hmax
  have sq := h.step q (by omega)
  obtain ⟨t, ht⟩ : ∃ t, t = E q := ⟨_, rfl⟩
  rw [← ht] at sq hmax
  have htn : ¬ Bas m (S q) t := nb q (by omega) t (by have := sq.neg; grind)
  have htb : Bas m (S (q + 1)) t := ⟨Q q, sq.row, by rw [h.next q (by omega), piv_b, ht]⟩
  obtain ⟨p, p1, p2, p3⟩ := hlea t q (q + 1) q1 (by omega) (by omega) (by omega) htn htb
  have sp := h.step p (by omega)
  obtain ⟨s, hs⟩ : ∃ s, s = E p := ⟨_, rfl⟩
  rw [← hs] at sp
  have cp := (h.all p (by omega)).1
  have cq := (h.all q (by omega)).1
  have hst' : s ≤ t := by rw [hs]; exact hmax p p1 (by omega)
  have hne : s ≠ t := fun he => by
    have h1 := cp.goal (Q p) sp.row
    rw [p3, ← he] at h1
    have := sp.neg; grind
  have hsR : s < R := by have := sp.ce; omega
  -- the reduced costs of q, in terms of those of p
  have hid := ((h.eqv2 (show p ≤ K by omega) (show q ≤ K by omega)).read cp).2 s (by omega)
  have h0 := sq.first s (by omega)
  obtain ⟨i, hi, hpos⟩ := sm_pos (f := fun l => (S q).G ((S p).b l) * (S p).T l s) (n := m) (by have := sp.neg; grind)
  obtain ⟨x, hx⟩ : ∃ x, x = (S p).b i := ⟨_, rfl⟩
  rw [← hx] at hpos
  have hGx : (S q).G x ≠ 0 := fun h1 => by rw [h1] at hpos; grind
  have hxn := nb q (by omega) x hGx
  obtain ⟨k, k1, k2, k3⟩ := hent x q p q1 (by omega) p1 (by omega) hxn ⟨i, hi, hx.symm⟩
  have hxt : x ≤ t := by rw [← k3]; exact hmax k k1 k2
  have hxne : x ≠ t := fun he => by
    have hir : i = Q p := cp.inj hi sp.row (by rw [p3, ← he, hx])
    have h1 := sp.pos
    rw [← hir] at h1
    have h2 := sq.neg
    rw [← he] at h2
    have h3 : 0 ≤ (-(S q).G x) * (S p).T i s := Rat.mul_nonneg (by grind) (by grind)
    grind
  have hxG := sq.first x (by omega)
  have hTp : 0 < (S p).T i s := by
    refine Classical.byContradiction fun h1 => ?_
    have h3 : 0 ≤ (S q).G x * (-(S p).T i s) := Rat.mul_nonneg hxG (by grind)
    grind
  have hiR : (S p).T i R = 0 := hmv i hi q p q1 (by omega) p1 (by omega) (fun he => hxn ⟨i, hi, by rw [he, hx]⟩)
  have hle := (sp.least i hi hTp).2 (by rw [hiR, hz p p1 p2]; grind)
  rw [p3, ← hx] at hle
  omega
end

theorem nodup_le' : ∀ (n : Nat) (l : List Nat), l.Nodup → (∀ x ∈ l, x < n) → l.length ≤ n := by
  intro n
  induction n with
  | zero =>
    intro l _ h
    cases l with
    | nil => simp
    | cons x l => have := h x (by simp); omega
  | succ n ih =>
    intro l hd h
    have h1 := ih (l.erase n) (hd.erase n) (fun x hx => by
      have h2 := (hd.mem_erase_iff).1 hx
      have := h x h2.2; have := h2.1; omega)
    rw [List.length_erase] at h1
    split at h1 <;> omega
/-- A basis as a number. -/
def code (R : Nat) (b : Nat → Nat) : Nat → Nat
  | 0 => 0
  | m + 1 => code R b m * R + b m
theorem code_lt {R : Nat} {b : Nat → Nat} : ∀ {m : Nat}, (∀ i, i < m → b i < R) → code R b m < R ^ m
  | 0, _ => by simp [code]
  | m + 1, h => by
    have h1 := code_lt (m := m) (fun i hi => h i (by omega))
    have h2 := h m (by omega)
    rw [code, Nat.pow_succ]
    have : (code R b m + 1) * R ≤ R ^ m * R := Nat.mul_le_mul_right _ h1
    rw [Nat.add_mul] at this; omega
theorem code_inj {R : Nat} {b b' : Nat → Nat} : ∀ {m : Nat}, (∀ i, i < m → b i < R) → (∀ i, i < m → b' i < R) → code R b m = code R b' m → ∀ i, i < m → b i = b' i
  | 0, _, _, _ => by intro i hi; omega
  | m + 1, h, h', he => by
    have h1 := h m (by omega)
    have h2 := h' m (by omega)
    rw [code, code] at he
    have hR : 0 < R := by omega
    have e1 := congrArg (· / R) he
    have e2 := congrArg (· % R) he
    simp only [Nat.mul_add_mod_self_right, Nat.mod_eq_of_lt h1, Nat.mod_eq_of_lt h2] at e2
    rw [Nat.mul_comm (code R b m), Nat.mul_comm (code R b' m)] at e1
    simp only [Nat.mul_add_div hR, Nat.div_eq_of_lt h1, Nat.div_eq_of_lt h2, Nat.add_zero] at e1
    intro i hi
    by_cases him : i = m
    · rw [him]; exact e2
    · exact code_inj (fun i hi => h i (by omega)) (fun i hi => h' i (by omega)) e1 i (by omega)
/-- A run has fewer steps than there are bases. -/
theorem Bruns.short {m R cols K : Nat} {S : Nat → Tab} {E Q : Nat → Nat} (h : Bruns m R cols S E Q K) : K < R ^ m := by
  have hlt : ∀ k, k ≤ K → ∀ i, i < m → (S k).b i < R := fun k hk => (h.all k hk).1.lt
  have hnd : ((List.range (K + 1)).map fun k => code R (S k).b m).Nodup := by
    rw [List.Nodup, List.pairwise_map]
    refine List.Pairwise.imp_of_mem ?_ List.pairwise_lt_range
    intro a c ha hc hac he
    rw [List.mem_range] at ha hc
    exact h.no_cycle hac (by omega) (code_inj (hlt a (by omega)) (hlt c (by omega)) he)
  have := nodup_le' (R ^ m) _ hnd (fun x hx => by
    rw [List.mem_map] at hx
    obtain ⟨k, hk, rfl⟩ := hx
    rw [List.mem_range] at hk
    exact code_lt (hlt k (by omega)))
  rw [List.length_map, List.length_range] at this
  omega
end Go.Proofs.Ytamcibmjpmibdaa
namespace Go.Proofs.Ytamcibmjpmibdaa
set_option linter.unusedVariables false

/-- Rows and reduced costs are quotients of integers up to H. -/
structure Hgt (m R : Nat) (S : Tab) (H : Nat) : Prop where
  row : ∃ v : Nat → Nat → Int, ∀ i, i < m → v i (S.b i) ≠ 0 ∧ ∀ j, j ≤ R → (v i j).natAbs ≤ H ∧ S.T i j * ((v i (S.b i) : Int) : Rat) = ((v i j : Int) : Rat)
  goal : ∃ (γ : Nat → Int) (d : Int), d ≠ 0 ∧ d.natAbs ≤ H ∧ ∀ j, j ≤ R → (γ j).natAbs ≤ H ∧ S.G j * ((d : Int) : Rat) = ((γ j : Int) : Rat)
theorem natAbs_two {a b c d : Int} {H : Nat} (ha : a.natAbs ≤ H) (hb : b.natAbs ≤ H) (hc : c.natAbs ≤ H) (hd : d.natAbs ≤ H) : (a * b - c * d).natAbs ≤ 2 * (H * H) := by
  have h1 : (a * b).natAbs ≤ H * H := by rw [Int.natAbs_mul]; exact Nat.mul_le_mul ha hb
  have h2 : (c * d).natAbs ≤ H * H := by rw [Int.natAbs_mul]; exact Nat.mul_le_mul hc hd
  omega
theorem intCast_ne {d : Int} (h : d ≠ 0) : ((d : Int) : Rat) ≠ 0 := fun h0 => h (by exact_mod_cast h0)
section
variable {m R : Nat} {S S' : Tab} {H : Nat}
theorem Hgt.pos (h : Hgt m R S H) : 1 ≤ H := by
  obtain ⟨γ, d, h1, h2, _⟩ := h.goal
  omega
theorem Hgt.piv (h : Hgt m R S H) (hc : Canon m R S) {r k : Nat} (hr : r < m) (hk : k < R) (hne : S.T r k ≠ 0) : Hgt m R (S.piv r k) (2 * (H * H)) := by
  have hH := h.pos
  obtain ⟨v, hv⟩ := h.row
  obtain ⟨γ, d, hd, hdH, hγ⟩ := h.goal
  obtain ⟨r1, r2⟩ := hv r hr
  have hle : ∀ x : Nat, x ≤ H → x ≤ 2 * (H * H) := fun x hx => by
    have := Nat.mul_le_mul_right H hH; omega
  have r1' := intCast_ne r1
  have hrk := (r2 k (by omega)).2
  have hvk : v r k ≠ 0 := fun h0 => by
    rw [h0] at hrk
    rcases Rat.mul_eq_zero.1 (hrk.trans (by simp)) with h1 | h1
    · exact hne h1
    · exact r1' h1
  have hvk' := intCast_ne hvk
  have hq : ∀ j, j ≤ R → S.T r j / S.T r k * ((v r k : Int) : Rat) = ((v r j : Int) : Rat) := fun j hj => by
    have h1 := (r2 j hj).2
    rw [← hrk, ← h1]; grind
  constructor
  · refine ⟨fun i j => if i = r then v r j else v i j * v r k - v i k * v r j, fun i hi => ?_⟩
    by_cases hir : i = r
    · subst hir
      simp only [if_pos, piv_b]
      refine ⟨hvk, fun j hj => ⟨hle _ (r2 j hj).1, ?_⟩⟩
      rw [piv_row]; exact hq j hj
    · simp only [if_neg hir, piv_bo S k hir]
      obtain ⟨i1, i2⟩ := hv i hi
      have h0 : v r (S.b i) = 0 := by
        have h1 := (r2 _ (Nat.le_of_lt (hc.lt i hi))).2
        rw [hc.unit r i hr hi, if_neg (Ne.symm hir)] at h1
        have h2 : ((v r (S.b i) : Int) : Rat) = 0 := by rw [← h1]; grind
        exact_mod_cast h2
      rw [h0, Int.mul_zero, Int.sub_zero]
      refine ⟨Int.mul_ne_zero i1 hvk, fun j hj => ⟨natAbs_two (i2 j hj).1 (r2 k (by omega)).1 (i2 k (by omega)).1 (r2 j hj).1, ?_⟩⟩
      rw [piv_oth S k j hir, Rat.intCast_mul, Rat.intCast_sub, Rat.intCast_mul, Rat.intCast_mul]
      have h1 := (i2 j hj).2
      have h2 := (i2 k (by omega)).2
      have h3 := hq j hj
      rw [← h1, ← h2, ← h3]; grind
  · refine ⟨fun j => γ j * v r k - γ k * v r j, d * v r k, Int.mul_ne_zero hd hvk, ?_, fun j hj => ⟨natAbs_two (hγ j hj).1 (r2 k (by omega)).1 (hγ k (by omega)).1 (r2 j hj).1, ?_⟩⟩
    · rw [Int.natAbs_mul]
      have := Nat.mul_le_mul hdH (r2 k (by omega)).1
      omega
    · show (S.G j - S.G k * (S.T r j / S.T r k)) * _ = _
      rw [Rat.intCast_mul, Rat.intCast_sub, Rat.intCast_mul, Rat.intCast_mul]
      have h1 := (hγ j hj).2
      have h2 := (hγ k (by omega)).2
      have h3 := hq j hj
      rw [← h1, ← h2, ← h3]; grind
theorem Hgt.more (h : Hgt m R S H) {H' : Nat} (hH : H ≤ H') : Hgt m R S H' := by
  obtain ⟨v, hv⟩ := h.row
  obtain ⟨γ, d, hd, hdH, hγ⟩ := h.goal
  exact ⟨⟨v, fun i hi => ⟨(hv i hi).1, fun j hj => ⟨Nat.le_trans ((hv i hi).2 j hj).1 hH, ((hv i hi).2 j hj).2⟩⟩⟩, γ, d, hd, by omega, fun j hj => ⟨Nat.le_trans (hγ j hj).1 hH, (hγ j hj).2⟩⟩
end
/-- Heights after c pivots. -/
def hs : Nat → Nat → Nat
  | 0, H => H
  | c + 1, H => hs c (2 * (H * H))
theorem hs_mono : ∀ (c : Nat) {H H' : Nat}, H ≤ H' → hs c H ≤ hs c H'
  | 0, _, _, h => h
  | c + 1, _, _, h => hs_mono c (Nat.mul_le_mul_left 2 (Nat.mul_le_mul h h))
theorem hs_grow : ∀ (c : Nat) {H : Nat}, 1 ≤ H → H ≤ hs c H
  | 0, _, _ => Nat.le_refl _
  | c + 1, H, h => by
    have h1 : H ≤ 2 * (H * H) := by have := Nat.mul_le_mul_right H h; omega
    exact Nat.le_trans h1 (hs_grow c (by omega))
theorem hs_more {c c' H : Nat} (h : c ≤ c') (hH : 1 ≤ H) : hs c H ≤ hs c' H := by
  induction h generalizing H with
  | refl => exact Nat.le_refl _
  | @step n _ ih =>
    have h1 : H ≤ 2 * (H * H) := by have := Nat.mul_le_mul_right H hH; omega
    exact Nat.le_trans (ih hH) (hs_mono n h1)
theorem inj_surj {m : Nat} {σ : Nat → Nat} (hσ : ∀ i, i < m → σ i < m) (hinj : ∀ i l, i < m → l < m → σ i = σ l → i = l) : ∀ l, l < m → ∃ i, i < m ∧ σ i = l := by
  intro l hl
  refine Classical.byContradiction fun hno => ?_
  have hnd : (l :: (List.range m).map σ).Nodup := by
    rw [List.nodup_cons]
    refine ⟨fun hm => ?_, ?_⟩
    · rw [List.mem_map] at hm
      obtain ⟨i, hi, he⟩ := hm
      exact hno ⟨i, List.mem_range.1 hi, he⟩
    · rw [List.Nodup, List.pairwise_map]
      refine List.Pairwise.imp_of_mem ?_ List.pairwise_lt_range
      intro a c ha hc hac he
      rw [List.mem_range] at ha hc
      have := hinj a c ha hc he; omega
  have := nodup_le' m _ hnd (fun x hx => by
    rw [List.mem_cons, List.mem_map] at hx
    rcases hx with rfl | ⟨i, hi, rfl⟩
    · exact hl
    · exact hσ i (List.mem_range.1 hi))
  rw [List.length_cons, List.length_map, List.length_range] at this
  omega
theorem countP_less {α : Type} (p q : α → Bool) : ∀ l : List α, (∀ x ∈ l, p x = true → q x = true) → (∃ x ∈ l, p x = false ∧ q x = true) → l.countP p < l.countP q := by
  intro l
  induction l with
  | nil => rintro _ ⟨x, hx, _⟩; simp at hx
  | cons y l ih =>
    rintro h ⟨x, hx, hp, hq⟩
    have hle : l.countP p ≤ l.countP q := List.countP_mono_left (fun x hx => h x (by simp [hx]))
    rw [List.countP_cons, List.countP_cons]
    rcases List.mem_cons.1 hx with rfl | hx
    · rw [hp, hq]; simp; omega
    · have := ih (fun x hx => h x (by simp [hx])) ⟨x, hx, hp, hq⟩
      have hy := h y (by simp)
      cases hpy : p y with
      | true => rw [hy hpy]; simp; omega
      | false => cases q y <;> simp <;> omega
/-- How many of the basic columns of the one are not basic in the other. -/
def miss (m : Nat) (b b' : Nat → Nat) : Nat := (List.range m).countP fun i => !((List.range m).any fun l => b l == b' i)
theorem miss_le (m : Nat) (b b' : Nat → Nat) : miss m b b' ≤ m := by
  have := List.countP_le_length (p := fun i => !((List.range m).any fun l => b l == b' i)) (l := List.range m)
  rwa [List.length_range] at this
theorem any_bas {m : Nat} {S : Tab} {x : Nat} : ((List.range m).any fun l => S.b l == x) = true ↔ Bas m S x := by
  rw [List.any_eq_true]
  constructor
  · rintro ⟨l, h1, h2⟩; exact ⟨l, List.mem_range.1 h1, by simpa using h2⟩
  · rintro ⟨l, h1, h2⟩; exact ⟨l, List.mem_range.2 h1, by simpa using h2⟩
theorem steinitz {m R : Nat} {F : Tab} (cF : Canon m R F) : ∀ (c : Nat) {S : Tab} {H : Nat}, Canon m R S → Eqv m R S F → Eqv m R F S → Hgt m R S H → miss m S.b F.b ≤ c → Hgt m R F (hs c H) := by
  intro c
  induction c with
  | zero =>
    intro S H cS e1 e2 hH hm
    have hall : ∀ i, i < m → Bas m S (F.b i) := fun i hi => by
      have h0 : miss m S.b F.b = 0 := by omega
      rw [miss, List.countP_eq_zero] at h0
      have := h0 i (List.mem_range.2 hi)
      rw [Bool.not_eq_true, Bool.not_eq_false'] at this
      exact any_bas.1 this
    obtain ⟨σ, hσ⟩ : ∃ σ : Nat → Nat, ∀ i, i < m → σ i < m ∧ F.b i = S.b (σ i) := by
      refine ⟨fun i => if h : i < m then Classical.choose (hall i h) else 0, fun i hi => ?_⟩
      simp only [dif_pos hi]
      have := Classical.choose_spec (hall i hi)
      exact ⟨this.1, this.2.symm⟩
    have hsj := inj_surj (fun i hi => (hσ i hi).1) (fun i l hi hl he => cF.inj hi hl (by rw [(hσ i hi).2, (hσ l hl).2, he]))
    obtain ⟨h1, h2⟩ := Eqv.same cS cF e1 σ hσ (fun l hl => by
      obtain ⟨i, hi, he⟩ := hsj l hl
      exact ⟨i, hi, by rw [(hσ i hi).2, he]⟩)
    obtain ⟨v, hv⟩ := hH.row
    obtain ⟨γ, d, hd, hdH, hγ⟩ := hH.goal
    refine ⟨⟨fun i j => v (σ i) j, fun i hi => ?_⟩, γ, d, hd, hdH, fun j hj => ⟨(hγ j hj).1, by rw [h2 j hj]; exact (hγ j hj).2⟩⟩
    obtain ⟨s1, s2⟩ := hσ i hi
    obtain ⟨k1, k2⟩ := hv (σ i) s1
    dsimp only
    rw [s2]
    exact ⟨k1, fun j hj => ⟨(k2 j hj).1, by rw [h1 i hi j hj]; exact (k2 j hj).2⟩⟩
  | succ c ih =>
    intro S H cS e1 e2 hH hm
    by_cases hm' : miss m S.b F.b ≤ c
    · exact (ih cS e1 e2 hH hm').more (hs_more (Nat.le_succ c) hH.pos)
    · have hpos : 0 < miss m S.b F.b := by omega
      rw [miss, List.countP_pos_iff] at hpos
      obtain ⟨i0, hi0, hb0⟩ := hpos
      rw [List.mem_range] at hi0
      rw [Bool.not_eq_true'] at hb0
      have hn0 : ¬ Bas m S (F.b i0) := fun h => by rw [any_bas.2 h] at hb0; cases hb0
      have hkR := cF.lt i0 hi0
      obtain ⟨r, hr, hrk, hrb⟩ : ∃ r, r < m ∧ S.T r (F.b i0) ≠ 0 ∧ ¬ Bas m F (S.b r) := by
        refine Classical.byContradiction fun hno => ?_
        have h1 := (e1.read cS).1 i0 hi0 (F.b i0) (Nat.le_of_lt hkR)
        rw [cF.unit i0 i0 hi0 hi0, if_pos rfl, sm_zero (fun l hl => ?_)] at h1
        · grind
        · by_cases hz : S.T l (F.b i0) = 0
          · rw [hz]; grind
          · have hbl : Bas m F (S.b l) := Classical.byContradiction fun h2 => hno ⟨l, hl, hz, h2⟩
            obtain ⟨q, hq, he⟩ := hbl
            rw [← he, cF.unit i0 q hi0 hq, if_neg (fun h2 => hn0 ⟨l, hl, by rw [← he, h2]⟩)]; grind
      obtain ⟨p1, p2⟩ := Eqv.piv cS hr hkR hrk
      have cP := cS.piv hr hkR hrk
      refine ih cP (p2.trans e1) (e2.trans p1) (hH.piv cS hr hkR hrk) ?_
      have hlt : miss m (S.piv r (F.b i0)).b F.b < miss m S.b F.b := by
        refine countP_less _ _ _ (fun i hi hp => ?_) ⟨i0, List.mem_range.2 hi0, ?_, ?_⟩
        · rw [Bool.not_eq_true'] at hp ⊢
          rw [← Bool.not_eq_true] at hp ⊢
          intro h1
          refine hp (any_bas.2 ?_)
          obtain ⟨l, hl, he⟩ := any_bas.1 h1
          have hlr : l ≠ r := by
            rintro rfl
            exact hrb ⟨i, List.mem_range.1 hi, he.symm⟩
          exact ⟨l, hl, by rw [piv_bo S _ hlr]; exact he⟩
        · rw [Bool.not_eq_false']
          exact any_bas.2 ⟨r, hr, piv_b S r _⟩
        · rw [Bool.not_eq_true']; exact hb0
      omega
/-- A number of height H. -/
def Small (H : Nat) (x : Rat) : Prop := x.num.natAbs ≤ H ∧ x.den ≤ H
theorem small_of {x : Rat} {a d : Int} {H : Nat} (hd : d ≠ 0) (ha : a.natAbs ≤ H) (hdH : d.natAbs ≤ H) (h : x * ((d : Int) : Rat) = ((a : Int) : Rat)) : Small H x := by
  have hd' := intCast_ne hd
  have e : x = ((a : Int) : Rat) / ((d : Int) : Rat) := by rw [← h]; grind
  have h1 := frac_le a d hd
  rw [← e] at h1
  exact ⟨Nat.le_trans h1.1 ha, Nat.le_trans h1.2 hdH⟩
theorem Hgt.small {m R : Nat} {S : Tab} {H : Nat} (h : Hgt m R S H) (hc : Canon m R S) : (∀ i, i < m → ∀ j, j ≤ R → Small H (S.T i j)) ∧ ∀ j, j ≤ R → Small H (S.G j) := by
  obtain ⟨v, hv⟩ := h.row
  obtain ⟨γ, d, hd, hdH, hγ⟩ := h.goal
  exact ⟨fun i hi j hj => small_of (hv i hi).1 ((hv i hi).2 j hj).1 ((hv i hi).2 _ (Nat.le_of_lt (hc.lt i hi))).1 ((hv i hi).2 j hj).2, fun j hj => small_of hd (hγ j hj).1 hdH (hγ j hj).2⟩
end Go.Proofs.Ytamcibmjpmibdaa
namespace Go.Proofs.Ytamcibmjpmibdaa
open Go.RowKit
set_option linter.unusedVariables false
set_option linter.unusedSimpArgs false

/-- The row of the rows' slices. -/
def rowsL (rs : Nat → Nat) (N m : Nat) : List Value := (List.range m).map fun i => Value.slice (some ⟨rs i, 0, none⟩) N N
def basL (b : Nat → Nat) (m : Nat) : List Value := (List.range m).map fun i => Value.int .i64 (b i : Int)
/-- A tableau of n variables and m constraints, all of it in blocks from base on. -/
structure TabW (base : Nat) (w : World) (p n m N b gg : Nat) (Ar : Option Addr) (cr : Nat) (Ab : Option Addr) (cb : Nat) (rs : Nat → Nat) (S : Tab) : Prop where
  blk : Blk w p 88 #[.int .i64 n, .int .i64 m, .slice Ar m cr, .slice (some ⟨gg, 0, none⟩) N N, .slice Ab m cb]
  rows : w.ownsRow base 28 1 (.slice Ar m cr) m (rowsL rs N m)
  row : ∀ {i : Nat}, i < m → RB w (rs i) N (PN w b (S.T i))
  bas : w.ownsRow base 3 1 (.slice Ab m cb) m (basL S.b m)
  goal : RB w gg N (PN w b S.G)
  low : base ≤ p ∧ base ≤ w.heap.size ∧ N = n + m + 2
section
variable {base : Nat} {w w' : World} {p n m N b gg gr cr gb cb : Nat} {Ar Ab : Option Addr} {rs : Nat → Nat} {S : Tab}
theorem TabW.new (h : TabW base w p n m N b gg Ar cr Ab cb rs S) (hb : Below w.heap.size w w') : TabW base w' p n m N b gg Ar cr Ab cb rs S :=
  ⟨h.blk.below hb h.blk.lt, own_below h.rows hb, fun hi => (h.row hi).newN hb, own_below h.bas hb, h.goal.newN hb, h.low.1, Nat.le_trans h.low.2.1 hb.size, h.low.2.2⟩
theorem TabW.some_ (h : TabW base w p n m N b gg Ar cr Ab cb rs S) (hm : 0 < m) : (∃ gr, Ar = some ⟨gr, 0, none⟩ ∧ base ≤ gr ∧ gr < w.heap.size) ∧ ∃ gb, Ab = some ⟨gb, 0, none⟩ ∧ base ≤ gb ∧ gb < w.heap.size := by
  obtain ⟨g1, c1, e1, h1, k1⟩ := h.rows.form hm
  obtain ⟨g2, c2, e2, h2, k2⟩ := h.bas.form hm
  injection e1 with e1
  injection e2 with e2
  exact ⟨⟨g1, e1, h1, k1⟩, ⟨g2, e2, h2, k2⟩⟩
theorem TabW.c0 (h : TabW base w p n m N b gg Ar cr Ab cb rs S) : w.cell? ⟨p, 0, none⟩ = some (.int .i64 (n : Int)) := by rw [h.blk.cell]; rfl
theorem TabW.c1 (h : TabW base w p n m N b gg Ar cr Ab cb rs S) : w.cell? ⟨p, 1, none⟩ = some (.int .i64 (m : Int)) := by rw [h.blk.cell]; rfl
theorem TabW.c2 (h : TabW base w p n m N b gg Ar cr Ab cb rs S) : w.cell? ⟨p, 2, none⟩ = some (.slice Ar m cr) := by rw [h.blk.cell]; rfl
theorem TabW.c3 (h : TabW base w p n m N b gg Ar cr Ab cb rs S) : w.cell? ⟨p, 3, none⟩ = some (.slice (some ⟨gg, 0, none⟩) N N) := by rw [h.blk.cell]; rfl
theorem TabW.c4 (h : TabW base w p n m N b gg Ar cr Ab cb rs S) : w.cell? ⟨p, 4, none⟩ = some (.slice Ab m cb) := by rw [h.blk.cell]; rfl
theorem TabW.rcell (h : TabW base w p n m N b gg (some ⟨gr, 0, none⟩) cr Ab cb rs S) {i : Nat} (hi : i < m) : w.cell? (Addr.add ⟨gr, 0, none⟩ i) = some (.slice (some ⟨rs i, 0, none⟩) N N) := by
  rw [addr_zero, h.rows.cellAt i (by omega)]
  simp [rowsL, hi]
theorem TabW.bcell (h : TabW base w p n m N b gg Ar cr (some ⟨gb, 0, none⟩) cb rs S) {i : Nat} (hi : i < m) : w.cell? (Addr.add ⟨gb, 0, none⟩ i) = some (.int .i64 (S.b i : Int)) := by
  rw [addr_zero, h.bas.cellAt i (by omega)]
  simp [basL, hi]
theorem rowsL_set (rs : Nat → Nat) (N m r g : Nat) (hr : r < m) : (rowsL rs N m).set r (.slice (some ⟨g, 0, none⟩) N N) = rowsL (fun i => if i = r then g else rs i) N m := by
  apply List.ext_getElem?
  intro i
  rw [List.getElem?_set]
  by_cases hi : r = i
  · subst hi
    simp [rowsL, hr]
  · simp only [rowsL, List.getElem?_map, if_neg hi]
    by_cases hm : i < m
    · simp [hm, Ne.symm hi]
    · simp [hm]
theorem basL_set (b : Nat → Nat) (m r k : Nat) (hr : r < m) : (basL b m).set r (.int .i64 (k : Int)) = basL (fun i => if i = r then k else b i) m := by
  apply List.ext_getElem?
  intro i
  rw [List.getElem?_set]
  by_cases hi : r = i
  · subst hi
    simp [basL, hr]
  · simp only [basL, List.getElem?_map, if_neg hi]
    by_cases hm : i < m
    · simp [hm, Ne.symm hi]
    · simp [hm]
/-- Row r is replaced by a row in a block of its own. -/
theorem TabW.setRow (h : TabW base w p n m N b gg (some ⟨gr, 0, none⟩) cr Ab cb rs S) {r g : Nat} (hr : r < m) {f : Nat → Rat} (hg : RB w g N (PN w b f)) :
    TabW base (w.setCell ⟨gr, r, none⟩ (.slice (some ⟨g, 0, none⟩) N N)) p n m N b gg (some ⟨gr, 0, none⟩) cr Ab cb (fun i => if i = r then g else rs i) ⟨fun i => if i = r then f else S.T i, S.G, S.b⟩ ∧ w.grownBy (w.setCell ⟨gr, r, none⟩ (.slice (some ⟨g, 0, none⟩) N N)) (some gr) ∧ KeepsN w (w.setCell ⟨gr, r, none⟩ (.slice (some ⟨g, 0, none⟩) N N)) := by
  have hc := h.rcell hr
  rw [addr_zero] at hc
  have kp := KeepsN.setCell hc (by intro x; simp) (.slice (some ⟨g, 0, none⟩) N N)
  obtain ⟨s1, s2⟩ := World.ownsRow.stored h.rows r (.slice (some ⟨g, 0, none⟩) N N)
  rw [rowsL_set _ _ _ _ _ hr] at s1
  have hrb : ∀ {g' : Nat} {f' : Nat → Rat}, RB w g' N (PN w b f') → RB (w.setCell ⟨gr, r, none⟩ (.slice (some ⟨g, 0, none⟩) N N)) g' N (PN (w.setCell ⟨gr, r, none⟩ (.slice (some ⟨g, 0, none⟩) N N)) b f') := by
    intro g' f' hh
    refine hh.far ?_ (fun j v _ hv => PN.keep hv kp)
    obtain ⟨cs, hb', _⟩ := hh
    intro he
    have := own_blk_ne h.rows hb' (by decide)
    exact this (by simp only [Value.ownBlock]; rw [he])
  have hp : p ≠ gr := by
    intro he
    have := own_blk_ne h.rows h.blk (by decide)
    exact this (by simp only [Value.ownBlock]; rw [he])
  refine ⟨⟨h.blk.far (p := ⟨gr, r, none⟩) hp _, s1, fun {i} hi => ?_, own_grown_own h.bas h.rows (by decide) s2, hrb h.goal, h.low.1, by rw [size_setCell]; exact h.low.2.1, h.low.2.2⟩, s2, kp⟩
  by_cases hir : i = r
  · simp only [if_pos hir]; exact hrb hg
  · simp only [if_neg hir]; exact hrb (h.row hi)
/-- The basic column of row r is replaced. -/
theorem TabW.setBas (h : TabW base w p n m N b gg Ar cr (some ⟨gb, 0, none⟩) cb rs S) {r k : Nat} (hr : r < m) :
    TabW base (w.setCell ⟨gb, r, none⟩ (.int .i64 (k : Int))) p n m N b gg Ar cr (some ⟨gb, 0, none⟩) cb rs ⟨S.T, S.G, fun i => if i = r then k else S.b i⟩ ∧ w.grownBy (w.setCell ⟨gb, r, none⟩ (.int .i64 (k : Int))) (some gb) := by
  have hc := h.bcell hr
  rw [addr_zero] at hc
  have kp := KeepsN.setCell hc (by intro x; simp) (.int .i64 (k : Int))
  obtain ⟨s1, s2⟩ := World.ownsRow.stored h.bas r (.int .i64 (k : Int))
  rw [basL_set _ _ _ _ hr] at s1
  have hrb : ∀ {g' : Nat} {f' : Nat → Rat}, RB w g' N (PN w b f') → RB (w.setCell ⟨gb, r, none⟩ (.int .i64 (k : Int))) g' N (PN (w.setCell ⟨gb, r, none⟩ (.int .i64 (k : Int))) b f') := by
    intro g' f' hh
    refine hh.far ?_ (fun j v _ hv => PN.keep hv kp)
    obtain ⟨cs, hb', _⟩ := hh
    intro he
    have := own_blk_ne h.bas hb' (by decide)
    exact this (by simp only [Value.ownBlock]; rw [he])
  have hp : p ≠ gb := by
    intro he
    have := own_blk_ne h.bas h.blk (by decide)
    exact this (by simp only [Value.ownBlock]; rw [he])
  exact ⟨⟨h.blk.far (p := ⟨gb, r, none⟩) hp _, own_grown_own h.rows h.bas (by decide) s2, fun hi => hrb (h.row hi), s1, hrb h.goal, h.low.1, by rw [size_setCell]; exact h.low.2.1, h.low.2.2⟩, s2⟩
/-- The reduced costs are replaced by a row in a block of its own. -/
theorem TabW.setGoal (h : TabW base w p n m N b gg Ar cr Ab cb rs S) {g : Nat} {f : Nat → Rat} (hg : RB w g N (PN w b f)) :
    TabW base (w.setCell ⟨p, 3, none⟩ (.slice (some ⟨g, 0, none⟩) N N)) p n m N b g Ar cr Ab cb rs ⟨S.T, f, S.b⟩ ∧ w.grownBy (w.setCell ⟨p, 3, none⟩ (.slice (some ⟨g, 0, none⟩) N N)) (some p) := by
  have kp := KeepsN.setCell h.c3 (by intro x; simp) (.slice (some ⟨g, 0, none⟩) N N)
  have hrb : ∀ {g' : Nat} {f' : Nat → Rat}, RB w g' N (PN w b f') → RB (w.setCell ⟨p, 3, none⟩ (.slice (some ⟨g, 0, none⟩) N N)) g' N (PN (w.setCell ⟨p, 3, none⟩ (.slice (some ⟨g, 0, none⟩) N N)) b f') := by
    intro g' f' hh
    refine hh.far ?_ (fun j v _ hv => PN.keep hv kp)
    obtain ⟨cs, hb', _⟩ := hh
    exact Blk.ne_ hb' h.blk (by decide)
  have hb := h.blk.set_ 3 (.slice (some ⟨g, 0, none⟩) N N)
  exact ⟨⟨hb, own_far h.rows h.blk (by decide) 3 _, fun hi => hrb (h.row hi), own_far h.bas h.blk (by decide) 3 _, hrb hg, h.low.1, by rw [size_setCell]; exact h.low.2.1, h.low.2.2⟩, only_setCell (World.grownBy.refl w _) (.inl rfl) _⟩
end
section
variable {o : Oper} {a : Act} {w : World} {t u : Tmp}
theorem nil_c {p : Nat} (ho : o.op = .nilCheck (.tmp t)) (h : tv a t = .pointer (some ⟨p, 0, none⟩)) : gives Try.prog o a.eval w (fun v w' => v = .pointer (some ⟨p, 0, none⟩) ∧ Below w.heap.size w w') := by
  refine gives_val (.pointer (some ⟨p, 0, none⟩)) ?_ ⟨rfl, Below.refl _ _⟩
  unfold execOp; rw [ho]; simp only [eval_tmp, h]; go_simp
theorem fld_tab {p k : Nat} (ho : o.op = .fieldAddr 88 (.tmp t) k) (hk : k < 5) (h : tv a t = .pointer (some ⟨p, 0, none⟩)) : gives Try.prog o a.eval w (fun v w' => v = .pointer (some ⟨p, k, none⟩) ∧ Below w.heap.size w w') := by
  refine gives_val (.pointer (some ⟨p, k, none⟩)) ?_ ⟨rfl, Below.refl _ _⟩
  have : k = 0 ∨ k = 1 ∨ k = 2 ∨ k = 3 ∨ k = 4 := by omega
  rcases this with rfl | rfl | rfl | rfl | rfl <;> (unfold execOp; rw [ho]; simp only [eval_tmp, h]; go_simp)
theorem load_c3 {p : Addr} {v : Value} (ho : o.op = .load 3 (.tmp t)) (hx : tv a t = .pointer (some p)) (hc : w.cell? p = some v) : gives Try.prog o a.eval w (fun z w' => z = v ∧ Below w.heap.size w w') := by
  refine gives_val v ?_ ⟨rfl, Below.refl _ _⟩
  unfold execOp; rw [ho]; simp only [eval_tmp, hx]; go_simp
theorem load_c28 {p : Addr} {v : Value} (ho : o.op = .load 28 (.tmp t)) (hx : tv a t = .pointer (some p)) (hc : w.cell? p = some v) : gives Try.prog o a.eval w (fun z w' => z = v ∧ Below w.heap.size w w') := by
  refine gives_val v ?_ ⟨rfl, Below.refl _ _⟩
  unfold execOp; rw [ho]; simp only [eval_tmp, hx]; go_simp
theorem load_c29 {p : Addr} {v : Value} (ho : o.op = .load 29 (.tmp t)) (hx : tv a t = .pointer (some p)) (hc : w.cell? p = some v) : gives Try.prog o a.eval w (fun z w' => z = v ∧ Below w.heap.size w w') := by
  refine gives_val v ?_ ⟨rfl, Below.refl _ _⟩
  unfold execOp; rw [ho]; simp only [eval_tmp, hx]; go_simp
theorem load_c86 {p : Addr} {v : Value} (ho : o.op = .load 86 (.tmp t)) (hx : tv a t = .pointer (some p)) (hc : w.cell? p = some v) : gives Try.prog o a.eval w (fun z w' => z = v ∧ Below w.heap.size w w') := by
  refine gives_val v ?_ ⟨rfl, Below.refl _ _⟩
  unfold execOp; rw [ho]; simp only [eval_tmp, hx]; go_simp
theorem idx_rws {ad : Addr} {n c k : Nat} {y : Operand} (hk : k < n) (ho : o.op = .indexAddr 29 (.tmp t) y) (h : tv a t = .slice (some ad) n c) (h2 : a.eval y = .int .i64 (k : Int)) : gives Try.prog o a.eval w (fun v w' => v = .pointer (some (ad.add k)) ∧ Below w.heap.size w w') := by
  refine gives_val (.pointer (some (ad.add k))) ?_ ⟨rfl, Below.refl _ _⟩
  have i1 : (0 : Int) ≤ (k : Int) := by omega
  have i2 : (k : Int) < (n : Int) := by omega
  unfold execOp; rw [ho]; simp only [eval_tmp, h, h2]; go_simp
end
section
variable {base : Nat} {w : World} {p n m : Nat} {v2 v3 v4 : Value}
set_option maxHeartbeats 1000000 in
theorem right_any (h : Blk w p 88 #[.int .i64 n, .int .i64 m, v2, v3, v4]) (hn : n ≤ 1000) (hm : m ≤ 1000) : Calls Try.prog 40 #[.pointer (some ⟨p, 0, none⟩)] w fun e w' => e = .returned (.int .i64 ((n + m + 1 : Nat) : Int)) ∧ Below w.heap.size w w' := by
  have c0 : w.cell? ⟨p, 0, none⟩ = some (.int .i64 (n : Int)) := by rw [h.cell]; rfl
  have c1 : w.cell? ⟨p, 1, none⟩ = some (.int .i64 (m : Int)) := by rw [h.cell]; rfl
  have hl := h.lt
  clear h
  go_enter Try.func40, Try.ntmps40
  go_upto_region 1 with (fail)
  go_quiet (fail)
  go_wp2_with fail
  go_ret
  exact ⟨by go_num, below_drewN (Below.refl _ _) _⟩
set_option maxHeartbeats 1000000 in
theorem artificial_any (h : Blk w p 88 #[.int .i64 n, .int .i64 m, v2, v3, v4]) (hn : n ≤ 1000) (hm : m ≤ 1000) : Calls Try.prog 72 #[.pointer (some ⟨p, 0, none⟩)] w fun e w' => e = .returned (.int .i64 ((n + m : Nat) : Int)) ∧ Below w.heap.size w w' := by
  have c0 : w.cell? ⟨p, 0, none⟩ = some (.int .i64 (n : Int)) := by rw [h.cell]; rfl
  have c1 : w.cell? ⟨p, 1, none⟩ = some (.int .i64 (m : Int)) := by rw [h.cell]; rfl
  have hl := h.lt
  clear h
  go_enter Try.func72, Try.ntmps72
  go_upto_region 1 with (fail)
  go_quiet (fail)
  go_wp2_with fail
  go_ret
  exact ⟨by go_num, below_drewN (Below.refl _ _) _⟩
end
end Go.Proofs.Ytamcibmjpmibdaa
namespace Go.Proofs.Ytamcibmjpmibdaa
open Go.RowKit
set_option linter.unusedVariables false
set_option linter.unusedSimpArgs false

theorem Bn.kept {b g0 g : Nat} {x : Rat} {w w' : World} (h : Bn b x g0 w) (hg : w.grownBy w' (some g)) (hne : g0 ≠ g) (kp : KeepsN w w') : Bn b x g0 w' := by
  obtain ⟨s, A, n, c, B, m, d, h1, q1, ⟨h2, h3⟩, h4, h5⟩ := h
  exact ⟨s, A, n, c, B, m, d, Blk.grown h1 hg (fun e => hne (by injection e)), q1, ⟨h2.keepN kp, h3.keepN kp⟩, h4.keepN kp, h5.keepN kp⟩
def Fit (b : Nat) (x : Rat) : Prop := x.num.natAbs < PB b ∧ x.den < PB b
theorem rv_comb {P : Program} {f : FuncId} {args : Array Value} {w : World} {N b : Nat} {q : Nat → Rat} (h : Calls P f args w (RowRetQ N b q w)) : Calls P f args w (RV w (fun v w' => ∃ g0 : Nat, v = .slice (some ⟨g0, 0, none⟩) N N ∧ RB w' g0 N (PN w' b q))) :=
  h.mono fun _ _ ⟨g, he, _, hr, hb⟩ => ⟨_, he, ⟨g, rfl, hr⟩, hb⟩
theorem gives_comb {o : Oper} {a : Act} {w : World} {t1 t2 t3 : Tmp} {ts : Array TypeId} {N b bq c1 c2 : Nat} {ad1 ad2 : Addr} {f g F : Nat → Rat} {q : Rat} (ho : o.op = .call { callee := .value (.func 74), args := #[.tmp t1, .tmp t2, .tmp t3], argTypes := ts })
    (e1 : tv a t1 = .slice (some ad1) N c1) (h1 : Rs w w.heap.size (some ad1) N (PN w b f)) (e2 : tv a t2 = .slice (some ad2) N c2) (h2 : Rs w w.heap.size (some ad2) N (PN w b g)) (hq : Rw bq q (tv a t3) w) (hN : 0 < N) (hN2 : N ≤ 1000) (hb : 2 * b + bq ≤ 4800) (hbq : 1 ≤ bq) (hF : ∀ j, F j = f j - q * g j) :
    gives Try.prog o a.eval w (fun v w' => (∃ g0 : Nat, v = .slice (some ⟨g0, 0, none⟩) N N ∧ RB w' g0 N (PN w' (b + (bq + b) + 1) F)) ∧ Below w.heap.size w w') := by
  have e : F = fun j => f j - q * g j := funext hF
  subst e
  refine gives_call3 _ _ _ _ _ ho (by kernel_rfl) ?_
  rw [eval_tmp, eval_tmp, eval_tmp, e1, e2]
  exact rv_comb (combined_any N b bq ad1 ad2 c1 c2 f g q _ w h1 h2 hq hN hN2 hb hbq)
theorem TabW.congr {base : Nat} {w : World} {p n m N b gg cr cb : Nat} {Ar Ab : Option Addr} {rs : Nat → Nat} {S S' : Tab} (h : TabW base w p n m N b gg Ar cr Ab cb rs S) (hT : ∀ i, i < m → ∀ j, j < N → S.T i j = S'.T i j) (hG : ∀ j, j < N → S.G j = S'.G j) (hB : ∀ i, i < m → S.b i = S'.b i) : TabW base w p n m N b gg Ar cr Ab cb rs S' := by
  refine ⟨h.blk, h.rows, fun {i} hi => (h.row hi).mono fun j v hj hv => ?_, ?_, h.goal.mono fun j v hj hv => ?_, h.low⟩
  · have hv' : Rv b (S.T i j) v w := hv
    rw [hT i hi j hj] at hv'; exact hv'
  · have e : basL S'.b m = basL S.b m := by
      unfold basL
      refine List.map_congr_left fun i hi => ?_
      rw [hB i (List.mem_range.1 hi)]
    rw [e]; exact h.bas
  · have hv' : Rv b (S.G j) v w := hv
    rw [hG j hj] at hv'; exact hv'
/-- A slice of Rats is written into one cell. -/
theorem store_c28 {o : Oper} {a : Act} {w : World} {t u : Tmp} {p : Addr} {v0 : Value} {A : Option Addr} {n c : Nat} {K : Act → World → Prop} {Q : Exit → Act → World → Prop} (ho : o.op = .store 28 (.tmp t) (.tmp u)) (hd : o.dst = none) (ht : a.eval (.tmp t) = .pointer (some p)) (hu : a.eval (.tmp u) = .slice A n c)
    (hc : w.cell? p = some v0) (hf : w.frozen? p = false) (h : K a (w.setCell p (.slice A n c))) : o.wp Try.prog a w K Q := by
  unfold Oper.wp execOp
  rw [ho]
  simp only [ht, hu]
  go_simp
  exact h
theorem TabW.rfz {base : Nat} {w : World} {p n m N b gg gr cr cb : Nat} {Ab : Option Addr} {rs : Nat → Nat} {S : Tab} (h : TabW base w p n m N b gg (some ⟨gr, 0, none⟩) cr Ab cb rs S) (i : Nat) : w.frozen? (Addr.add ⟨gr, 0, none⟩ i) = false := by
  rw [addr_zero]; exact h.rows.frozenAt i
theorem RB.setFar {w : World} {g gr i n b : Nat} {f : Nat → Rat} {base : Nat} {rs : List Value} {cr m : Nat} (h : RB w g n (PN w b f)) (hr : w.ownsRow base 28 1 (.slice (some ⟨gr, 0, none⟩) m cr) m rs) {u : Value} (kp : KeepsN w (w.setCell ⟨gr, i, none⟩ u)) : RB (w.setCell ⟨gr, i, none⟩ u) g n (PN (w.setCell ⟨gr, i, none⟩ u) b f) := by
  refine h.far ?_ (fun j v _ hv => PN.keep hv kp)
  obtain ⟨cs, hb', _⟩ := h
  intro he
  exact own_blk_ne hr hb' (by decide) (by simp only [Value.ownBlock]; rw [he])
/-- The rows while the pivot goes through them. -/
def stT (S : Tab) (r k i : Nat) : Nat → Nat → Rat := fun l j => if l < i ∧ l ≠ r then (S.piv r k).T l j else S.T l j
theorem stT_self (S : Tab) (r k i : Nat) : stT S r k i i = S.T i := by funext j; simp [stT]
theorem stT_zero (S : Tab) (r k : Nat) : stT S r k 0 = S.T := by funext l j; simp [stT]
theorem stT_skip (S : Tab) {r k i : Nat} (h : i = r) : stT S r k (i + 1) = stT S r k i := by
  funext l j
  unfold stT
  by_cases h1 : l < i ∧ l ≠ r
  · rw [if_pos h1, if_pos ⟨by omega, h1.2⟩]
  · rw [if_neg h1, if_neg (by omega)]
theorem stT_next (S : Tab) {r k i : Nat} (h : i ≠ r) : stT S r k (i + 1) = fun l => if l = i then (S.piv r k).T i else stT S r k i l := by
  funext l j
  unfold stT
  by_cases h1 : l = i
  · subst h1; rw [if_pos ⟨by omega, h⟩, if_pos rfl]
  · rw [if_neg h1]
    by_cases h2 : l < i ∧ l ≠ r
    · rw [if_pos h2, if_pos ⟨by omega, h2.2⟩]
    · rw [if_neg h2, if_neg (by omega)]
def PvRet (base p n m N b gr cr gb cb : Nat) (S : Tab) (w : World) (e : Ending) (w' : World) : Prop := ∃ (gg : Nat) (rs : Nat → Nat), e = .returned (.tuple #[]) ∧ TabW base w' p n m N b gg (some ⟨gr, 0, none⟩) cr (some ⟨gb, 0, none⟩) cb rs S ∧ Below base w w'
set_option maxRecDepth 100000 in
set_option maxHeartbeats 8000000 in
theorem pivot_any (base p n m N b gg gr cr gb cb r k : Nat) (rs : Nat → Nat) (S : Tab) (w : World) (hT : TabW base w p n m N b gg (some ⟨gr, 0, none⟩) cr (some ⟨gb, 0, none⟩) cb rs S) (hr : r < m) (hk : k < N) (hN2 : N ≤ 1000) (hb0 : b ≤ 1000) (hb1 : 1 ≤ b)
    (hne0 : S.T r k ≠ 0) (hF : ∀ i, i < m → ∀ j, j < N → Fit b ((S.piv r k).T i j)) (hFG : ∀ j, j < N → Fit b ((S.piv r k).G j)) :
    Calls Try.prog 73 #[.pointer (some ⟨p, 0, none⟩), .int .i64 r, .int .i64 k] w (PvRet base p n m N b gr cr gb cb (S.piv r k) w) := by
  have HNn := Lib.hid hT.low.2.2
  have hmm : m ≤ 1000 := by have := hT.low.2.2; omega
  have hbw : base ≤ w.heap.size := hT.low.2.1
  have HT := Lib.hid hT; have HNE := Lib.hid hne0; have HF := Lib.hid hF; have HFG := Lib.hid hFG
  clear hT hne0 hF hFG
  have c2 := HT.out.c2; have pl := HT.out.blk.lt
  have rc := HT.out.rcell hr
  rw [addr_zero] at rc
  have hmk := mk_rat N (by omega)
  have i1 : (0 : Int) ≤ (r : Int) := by omega
  have i2 : (r : Int) < (m : Int) := by omega
  go_enter Try.func73, Try.ntmps73
  go_upto_region 1 with (fail)
  clear hmk
  have HT1 := Lib.hid (HT.out.new (al w (.cells (zrow N) 41)))
  have HZ1 := Lib.hid (rb_zrow w N (fun _ _ => True) (fun _ _ => trivial))
  have HB1 := Lib.hid ((Below.refl base w).alloc hbw (.cells (zrow N) 41))
  have HBO := Lib.hid (al w (.cells (zrow N) 41))
  obtain ⟨g6, hg6⟩ : ∃ g6, g6 = w.heap.size := ⟨_, rfl⟩
  rw [← hg6] at HZ1 ⊢
  have HG6 := Lib.hid hg6; clear hg6
  generalize w.alloc (.cells (zrow N) 41) = W1 at *
  clear c2 pl rc
  have c2 := HT1.out.c2; have pl := HT1.out.blk.lt
  have rc := HT1.out.rcell hr
  rw [addr_zero] at rc
  have HS := Lib.hid (Rs.of_rb (HT1.out.row hr))
  have hNpos : 0 < N := by omega
  have i1 : (0 : Int) ≤ (r : Int) := by omega
  have i2 : (r : Int) < (m : Int) := by omega
  go_upto_region 2 with (refine wpList_copy_rat (g := g6) (n := N) rfl rfl rfl rfl HZ1.out HS.out hNpos ?_; intro w2 kp hg hsz hR)
  have HB2 := Lib.hid (show Below w.heap.size w w2 from HBO.out.grown hg HBO.out.size (fun x hx => by cases hx; have := HG6.out; omega))
  have HR2 := Lib.hid (hR (fun i u => Rv b (S.T r i) u w2) (fun i u _ h => Rv.keepN h kp))
  clear hR kp hg hsz HZ1 HS HT1 HB1 c2 pl rc
  have hg62 := HR2.out.lt
  obtain ⟨ad, s, A0, k0, c0, B0, m0, d0, had, -, q0, q1, q2, q3⟩ := (Rs.of_rb HR2.out).at_ hk
  injection had with had
  subst had
  rw [addr_zero] at q0 q1 q2
  have HQ := Lib.hid q3; clear q3
  have i1 : (0 : Int) ≤ (k : Int) := by omega
  have i2 : (k : Int) < (N : Int) := by omega
  go_upto_region 3 with (fail)
  obtain ⟨g7, hg7⟩ : ∃ g7, g7 = w2.heap.size := ⟨_, rfl⟩
  have HB3 := Lib.hid (bthen HB2.out (al w2 (.cells #[.bool s, .slice A0 k0 c0, .slice B0 m0 d0] 41)) HB2.out.size)
  have HD3 := Lib.hid (show Bn b (S.T r k) g7 (w2.alloc (.cells #[.bool s, .slice A0 k0 c0, .slice B0 m0 d0] 41)) by
    obtain ⟨s', A', n', c', B', m', d', e, h⟩ := HQ.out
    injection e with e; injection e with e; injection e with e0 e; injection e with e1 e; injection e with e2 _
    injection e0 with e0; injection e1 with e1 e1' e1''; injection e2 with e2 e2' e2''
    subst e0 e1 e1' e1'' e2 e2' e2''
    exact ⟨_, _, _, _, _, _, _, by rw [hg7]; exact Blk.new w2 _ _, h.new (al w2 _)⟩)
  have HR3 := Lib.hid (HR2.out.below (al w2 (.cells #[.bool s, .slice A0 k0 c0, .slice B0 m0 d0] 41)) (Q := fun i u => (i < 0 → Rv (b + b) (S.T r i / S.T r k) u (w2.alloc (.cells #[.bool s, .slice A0 k0 c0, .slice B0 m0 d0] 41))) ∧ (0 ≤ i → Rv b (S.T r i) u (w2.alloc (.cells #[.bool s, .slice A0 k0 c0, .slice B0 m0 d0] 41)))) (fun i u _ h => ⟨fun h0 => absurd h0 (by omega), fun _ => h.new (al w2 _)⟩))
  have hg67 : g6 < g7 := by omega
  rw [← hg7]
  clear hg7 HR2 HB2 HQ q0 q1 q2 hg62
  generalize w2.alloc (.cells #[.bool s, .slice A0 k0 c0, .slice B0 m0 d0] 41) = w3 at *
  go_wp2_with fail
  go_loopw [34] (fun iv wr => ∃ j : Nat, iv = .int .i64 j ∧ j ≤ N ∧ Hid (RB wr g6 N (fun i u => (i < j → Rv (b + b) (S.T r i / S.T r k) u wr) ∧ (j ≤ i → Rv b (S.T r i) u wr)) ∧ Bn b (S.T r k) g7 wr ∧ Below w.heap.size w wr)) (fun iv _ => N - (intOf iv).toNat)
  case atStart => exact ⟨0, rfl, Nat.zero_le _, Lib.hid ⟨HR3.out, HD3.out, HB3.out⟩⟩
  case round =>
    obtain ⟨j, rfl, hj, HI⟩ := hrel
    by_cases hjN : j < N
    · have HR := Lib.hid HI.out.1; have HD := Lib.hid HI.out.2.1; have HB := Lib.hid HI.out.2.2
      clear HI
      have HRW := Lib.hid (fun (ww : World) (hb : Below wr.heap.size wr ww) => HR.out.below hb (Q := fun i u => (i < j → Rv (b + b) (S.T r i / S.T r k) u ww) ∧ (j ≤ i → Rv b (S.T r i) u ww)) (fun i u _ h => ⟨fun hi => (h.1 hi).new hb, fun hi => (h.2 hi).new hb⟩))
      have HE := Lib.hid (fun (ww : World) (hb : Below wr.heap.size wr ww) => (Rs.of_rb (HRW.out ww hb)).mono (Q := fun i v => i = j → Rv b (S.T r j) v ww) (fun i v _ h hij => by subst hij; exact h.2 (Nat.le_refl _)))
      by_cases hz : S.T r j = 0
      · have hs1 : ((S.T r j).num.sign != 0) = false := by rw [bne_of (sign_zero hz)]; rfl
        go_upto_region 6 with (fail)
        refine wp_region_seq (kss := [[], [], [(0, 37), (1, 38)], [(2, 39)], [(3, 40)], [(4, 41)]]) [(6, .slice (some (⟨g6, 0, none⟩)) N N), (8, .int .i64 ((j : Int)))] [EV (.slice (some (⟨g6, 0, none⟩)) N N), EV (.int .i64 ((j : Int))), EV (.pointer (some (Addr.add (⟨g6, 0, none⟩) (j * 3)))), Rv (b) (S.T r j), EV (.int .i64 ((S.T r j).num.sign)), EV (.bool false)] (by kernel_rfl) ⟨rfl, rfl, trivial⟩ ?_ ?_ ?_
        · exact ⟨eI, eI, eI, fun _ _ _ h hb => h.new hb, eI, eI, trivial⟩
        · refine ⟨?_, ?_, ?_, ?_, ?_, ?_, trivial⟩
          · exact fun _ _ _ he hd => ob_mv rfl rfl he.1
          · exact fun _ _ _ he hd => ob_mv rfl rfl he.2.1
          · exact fun aa ww hb he hd => ob_plain rfl (idx_rs (by omega) rfl hd.1 hd.2.1)
          · exact fun aa ww hb he hd => ob_plain rfl (load_rp rfl hd.1 (HE.out _ hb) (by omega) (fun _ h => h rfl))
          · exact fun aa ww hb he hd => ob_plain rfl (gives_call1 _ _ _ rfl (by kernel_rfl) (sign_v (hd.1.rw)))
          · exact fun aa ww hb he hd => ob_plain rfl (gives_ne_int ((S.T r j).num.sign) 0 .i64 _ _ _ _ rfl hd.1 rfl ⟨congrArg Value.bool (hs1), Below.refl _ _⟩)
        intro vs w3 hb hR
        have e42 : vs 5 = .bool false := hR 5 (by decide)
        clear hR
        simp only [putsL, Nat.zero_add, Nat.reduceAdd, List.take_succ_cons, List.take_zero, Act.put, List.setIfInBounds_toArray, List.set_cons_zero, List.set_cons_succ]
        rw [e42]
        clear e42
        go_wp2_with fail
        refine ⟨⟨j + 1, by go_num, by omega, Lib.hid ⟨(HRW.out _ hb).mono (fun i u _ h => ⟨fun hi => ?_, fun hi => h.2 (by omega)⟩), HD.out.new hb, bthen HB.out hb HB.out.size⟩⟩, by simp [intOf]; omega⟩
        by_cases hij : i = j
        · subst hij
          have e : S.T r i / S.T r k = S.T r i := by rw [hz]; grind
          rw [e]; exact (h.2 (Nat.le_refl _)).more (by omega)
        · exact h.1 (by omega)
      · have hs1 : ((S.T r j).num.sign != 0) = true := by rw [bne_of (sign_ne hz)]; rfl
        go_upto_region 6 with (fail)
        refine wp_region_seq (kss := [[], [], [(0, 37), (1, 38)], [(2, 39)], [(3, 40)], [(4, 41)]]) [(6, .slice (some (⟨g6, 0, none⟩)) N N), (8, .int .i64 ((j : Int)))] [EV (.slice (some (⟨g6, 0, none⟩)) N N), EV (.int .i64 ((j : Int))), EV (.pointer (some (Addr.add (⟨g6, 0, none⟩) (j * 3)))), Rv (b) (S.T r j), EV (.int .i64 ((S.T r j).num.sign)), EV (.bool true)] (by kernel_rfl) ⟨rfl, rfl, trivial⟩ ?_ ?_ ?_
        · exact ⟨eI, eI, eI, fun _ _ _ h hb => h.new hb, eI, eI, trivial⟩
        · refine ⟨?_, ?_, ?_, ?_, ?_, ?_, trivial⟩
          · exact fun _ _ _ he hd => ob_mv rfl rfl he.1
          · exact fun _ _ _ he hd => ob_mv rfl rfl he.2.1
          · exact fun aa ww hb he hd => ob_plain rfl (idx_rs (by omega) rfl hd.1 hd.2.1)
          · exact fun aa ww hb he hd => ob_plain rfl (load_rp rfl hd.1 (HE.out _ hb) (by omega) (fun _ h => h rfl))
          · exact fun aa ww hb he hd => ob_plain rfl (gives_call1 _ _ _ rfl (by kernel_rfl) (sign_v (hd.1.rw)))
          · exact fun aa ww hb he hd => ob_plain rfl (gives_ne_int ((S.T r j).num.sign) 0 .i64 _ _ _ _ rfl hd.1 rfl ⟨congrArg Value.bool (hs1), Below.refl _ _⟩)
        intro vs w3 hb hR
        have e42 : vs 5 = .bool true := hR 5 (by decide)
        clear hR
        simp only [putsL, Nat.zero_add, Nat.reduceAdd, List.take_succ_cons, List.take_zero, Act.put, List.setIfInBounds_toArray, List.set_cons_zero, List.set_cons_succ]
        rw [e42]
        clear e42
        go_upto_region 7 with (fail)
        have HR3 := Lib.hid (HRW.out _ hb)
        replace HD := Lib.hid (HD.out.new hb); replace HB := Lib.hid (bthen HB.out hb HB.out.size)
        clear hb HR HE HRW
        have HRW := Lib.hid (fun (ww : World) (hb : Below w3.heap.size w3 ww) => HR3.out.below hb (Q := fun i u => (i < j → Rv (b + b) (S.T r i / S.T r k) u ww) ∧ (j ≤ i → Rv b (S.T r i) u ww)) (fun i u _ h => ⟨fun hi => (h.1 hi).new hb, fun hi => (h.2 hi).new hb⟩))
        have HE := Lib.hid (fun (ww : World) (hb : Below w3.heap.size w3 ww) => (Rs.of_rb (HRW.out ww hb)).mono (Q := fun i v => i = j → Rv b (S.T r j) v ww) (fun i v _ h hij => by subst hij; exact h.2 (Nat.le_refl _)))
        have hne := HNE.out
        refine wp_region_join (kss := [[], [], [], [], [(2, 46), (3, 47)], [(4, 48)], [], [(5, 49), (6, 50)], [(7, 51)], [(8, 43)], [(8, 43)], [(0, 44), (1, 45)]]) [(6, .slice (some (⟨g6, 0, none⟩)) N N), (8, .int .i64 ((j : Int))), (7, .pointer (some ⟨g7, 0, none⟩))] [EV (.slice (some (⟨g6, 0, none⟩)) N N), EV (.int .i64 ((j : Int))), EV (.slice (some (⟨g6, 0, none⟩)) N N), EV (.int .i64 ((j : Int))), EV (.pointer (some (Addr.add (⟨g6, 0, none⟩) (j * 3)))), Rv (b) (S.T r j), Rv (b) (S.T r k), Dv (b + b) ((S.T r j) / (S.T r k)), Dv (b + b) ((S.T r j) / (S.T r k)), Rv (b + b) ((S.T r j) / (S.T r k)), EV (.int .i64 0), EV (.pointer (some (Addr.add (⟨g6, 0, none⟩) (j * 3))))] 12 [10] (by kernel_rfl) (by kernel_rfl) ⟨rfl, rfl, rfl, trivial⟩ [false, false, false, false, false, false, false, false, false, false, false, false] ?_ ?_ ?_ ?_
        · intro i hi
          simp only [List.mem_cons, List.not_mem_nil, or_false] at hi
          subst hi
          exact ⟨rfl, fun o ks ho hk => by cases ho; cases hk; exact fun a w _ _ hd => late_e rfl rfl hd.1⟩
        · exact ⟨eI, eI, eI, eI, eI, fun _ _ _ h hb => h.new hb, fun _ _ _ h hb => h.new hb, fun _ _ _ h hb => h.new hb, fun _ _ _ h hb => h.new hb, fun _ _ _ h hb => h.new hb, eI, eI, trivial⟩
        · refine ⟨?_, ?_, ?_, ?_, ?_, ?_, ?_, ?_, ?_, ?_, ?_, ?_, trivial⟩
          · exact fun _ _ _ he hd => ob_mv rfl rfl he.1
          · exact fun _ _ _ he hd => ob_mv rfl rfl he.2.1
          · exact fun _ _ _ he hd => ob_mv rfl rfl he.1
          · exact fun _ _ _ he hd => ob_mv rfl rfl he.2.1
          · exact fun aa ww hb he hd => ob_plain rfl (idx_rs (by omega) rfl hd.1 hd.2.1)
          · exact fun aa ww hb he hd => ob_plain rfl (load_rp rfl hd.1 (HE.out _ hb) (by omega) (fun _ h => h rfl))
          · exact fun aa ww hb he hd => ob_plain rfl (load_bn rfl he.2.2.1 (Bn.new HD.out hb))
          · exact fun aa ww hb he hd => ob_plain rfl (gives_call2 _ _ _ _ rfl (by kernel_rfl) (div_v (hd.1.rw) (hd.2.1.rw) (by omega) hne))
          · exact fun _ _ _ he hd => ob_mv rfl rfl hd.1
          · exact fun aa ww hb he hd => ob_plain rfl (ext_q rfl hd.1)
          · exact fun aa ww hb he hd => ob_plain rfl (ext_e rfl hd.1)
          · exact fun aa ww hb he hd => ob_plain rfl (idx_rs (by omega) rfl hd.1 hd.2.1)
        intro vs w4 hb hR _
        have e54 : vs 11 = .pointer (some (Addr.add (⟨g6, 0, none⟩) (j * 3))) := hR 11 (by decide)
        have r52 : Rv (b + b) ((S.T r j) / (S.T r k)) (vs 9) w4 := hR 9 (by decide)
        clear hR
        simp only [putsL, Nat.zero_add, Nat.reduceAdd, List.take_succ_cons, List.take_zero, Act.put, List.setIfInBounds_toArray, List.set_cons_zero, List.set_cons_succ]
        rw [e54]
        clear e54
        show wpAny _ _ _ _ 1 _ _ _
        refine wpAny_next (i := 12) (by kernel_rfl) rfl rfl (store_row (v := vs 9) (g := g6) (j := j) (b := b + b) (x := S.T r j / S.T r k) rfl rfl rfl rfl (HRW.out _ hb) hjN r52.rw ?_)
        clear hne
        intro w5 kp hg hsz hR
        refine wpAny_end (by kernel_rfl) (calm_normal ?_) _
        go_wp2_with fail
        have HB4 := Lib.hid (bthen HB.out hb HB.out.size)
        refine ⟨⟨j + 1, by go_num, by omega, Lib.hid ⟨hR _ (fun i u hi hne h => ⟨fun h1 => (h.1 (by omega)).keepN kp, fun h1 => (h.2 (by omega)).keepN kp⟩) ⟨fun _ => r52.keepN kp, fun h1 => absurd h1 (by omega)⟩, (HD.out.new hb).kept hg (by omega) kp, ?_⟩⟩, by simp [intOf]; omega⟩
        exact HB4.out.grown hg HB4.out.size (fun x hx => by cases hx; have := HG6.out; omega)
    · have hjN' : j = N := by omega
      subst hjN'
      clear hjN hj
      have HTr := Lib.hid (HT.out.new HI.out.2.2)
      have HPr := Lib.hid (HI.out.1.mono (Q := PN wr b (fun j => S.T r j / S.T r k)) (fun i u hi h => (h.1 hi).fit (by have := (HF.out r hr i hi).1; rwa [piv_row] at this) (by have := (HF.out r hr i hi).2; rwa [piv_row] at this) hb1))
      have HBr := Lib.hid (show Below base w wr from HI.out.2.2.mono hbw)
      clear HI
      have c2 := HTr.out.c2; have pl := HTr.out.blk.lt
      go_wp2_with fail
      clear c2 pl
      go_loopw [61] (fun iv wr => ∃ i : Nat, iv = .int .i64 i ∧ i ≤ m ∧ Hid (∃ rs1, TabW base wr p n m j b gg (some ⟨gr, 0, none⟩) cr (some ⟨gb, 0, none⟩) cb rs1 ⟨stT S r k i, S.G, S.b⟩ ∧ RB wr g6 j (PN wr b (fun l => S.T r l / S.T r k)) ∧ Below base w wr)) (fun iv _ => m - (intOf iv).toNat)
      case atStart => exact ⟨0, rfl, Nat.zero_le _, Lib.hid ⟨rs, by rw [stT_zero]; exact HTr.out, HPr.out, HBr.out⟩⟩
      case round =>
        obtain ⟨i, rfl, hi, HI⟩ := hrel
        obtain ⟨rs1, hI⟩ := HI.out
        have HJ := Lib.hid hI; clear hI HI
        by_cases him : i < m
        · by_cases hir : i = r
          · have t0 : ((i : Int) != (r : Int)) = false := by simp [hir]
            have HE := Lib.hid (stT_skip S (k := k) hir); clear hir
            go_wp2_with fail
            exact ⟨⟨i + 1, by go_num, by omega, Lib.hid ⟨rs1, by rw [HE.out]; exact HJ.out.1, HJ.out.2⟩⟩, by simp [intOf]; omega⟩
          · have t0 : ((i : Int) != (r : Int)) = true := by rw [bne_iff_ne]; omega
            have HE := Lib.hid (stT_next S (k := k) hir)
            have HS1 := Lib.hid (stT_self S r k i)
            have HPO := Lib.hid (fun jj => piv_oth S k jj hir)
            clear hir
            obtain ⟨S1, hS1⟩ : ∃ S1 : Tab, S1 = ⟨stT S r k i, S.G, S.b⟩ := ⟨_, rfl⟩
            have HT := Lib.hid (show TabW base wr p n m j b gg (some ⟨gr, 0, none⟩) cr (some ⟨gb, 0, none⟩) cb rs1 S1 by rw [hS1]; exact HJ.out.1)
            have HP := Lib.hid HJ.out.2.1; have HB := Lib.hid HJ.out.2.2
            have HSE := Lib.hid hS1
            clear HJ hS1
            go_upto_region 13 with (fail)
            refine wp_region_join (kss := [[], [(0, 67)], [(1, 68)], [(2, 69)], [], [], [(5, 72)], [(6, 73)], [(7, 74)], [], [(8, 75), (9, 76)], [(10, 77)], [], [], [(13, 80)], [(14, 81)], [(15, 82)], [], [(16, 83), (17, 84)], [(18, 85)], [], [(19, 86), (20, 87)], [(21, 88)], [(11, 78), (12, 79), (22, 89)], [(3, 70), (4, 71)]]) [(0, .pointer (some ⟨p, 0, none⟩)), (9, .int .i64 ((i : Int))), (6, .slice (some (⟨g6, 0, none⟩)) j j), (2, .int .i64 ((k : Int)))] [EV (.pointer (some ⟨p, 0, none⟩)), EV (.pointer (some ⟨p, 0, none⟩)), EV (.pointer (some ⟨p, 2, none⟩)), EV (.slice (some ⟨gr, 0, none⟩) m cr), EV (.int .i64 ((i : Int))), EV (.pointer (some ⟨p, 0, none⟩)), EV (.pointer (some ⟨p, 0, none⟩)), EV (.pointer (some ⟨p, 2, none⟩)), EV (.slice (some ⟨gr, 0, none⟩) m cr), EV (.int .i64 ((i : Int))), EV (.pointer (some (Addr.add ⟨gr, 0, none⟩ i))), EV (.slice (some (⟨rs1 i, 0, none⟩)) j j), EV (.slice (some (⟨g6, 0, none⟩)) j j), EV (.pointer (some ⟨p, 0, none⟩)), EV (.pointer (some ⟨p, 0, none⟩)), EV (.pointer (some ⟨p, 2, none⟩)), EV (.slice (some ⟨gr, 0, none⟩) m cr), EV (.int .i64 ((i : Int))), EV (.pointer (some (Addr.add ⟨gr, 0, none⟩ i))), EV (.slice (some (⟨rs1 i, 0, none⟩)) j j), EV (.int .i64 ((k : Int))), EV (.pointer (some (Addr.add (⟨rs1 i, 0, none⟩) (k * 3)))), Rv (b) ((S1.T i) k), fun v w' => ∃ g0 : Nat, v = .slice (some ⟨g0, 0, none⟩) j j ∧ RB w' g0 j (PN w' (b + (b + b) + 1) (fun l => S1.T i l - S1.T i k * (S.T r l / S.T r k))), EV (.pointer (some (Addr.add ⟨gr, 0, none⟩ i)))] 25 [] (by kernel_rfl) (by kernel_rfl) ⟨rfl, rfl, rfl, rfl, trivial⟩ [false, false, false, false, false, false, false, false, false, false, false, false, false, false, false, false, false, false, false, false, false, false, false, false, false] ?_ ?_ ?_ ?_
            · exact fun i hi => absurd hi (by simp)
            · exact ⟨eI, eI, eI, eI, eI, eI, eI, eI, eI, eI, eI, eI, eI, eI, eI, eI, eI, eI, eI, eI, eI, eI, fun _ _ _ h hb => h.new hb, fun _ _ _ ⟨g0, h1, h2⟩ hb => ⟨g0, h1, h2.newN hb⟩, eI, trivial⟩
            · refine ⟨?_, ?_, ?_, ?_, ?_, ?_, ?_, ?_, ?_, ?_, ?_, ?_, ?_, ?_, ?_, ?_, ?_, ?_, ?_, ?_, ?_, ?_, ?_, ?_, ?_, trivial⟩
              · exact fun _ _ _ he hd => ob_mv rfl rfl he.1
              · exact fun aa ww hb he hd => ob_plain rfl (nil_c rfl hd.1)
              · exact fun aa ww hb he hd => ob_plain rfl (fld_tab rfl (by decide) hd.1)
              · exact fun aa ww hb he hd => ob_plain rfl (load_c29 rfl hd.1 (TabW.new HT.out hb).c2)
              · exact fun _ _ _ he hd => ob_mv rfl rfl he.2.1
              · exact fun _ _ _ he hd => ob_mv rfl rfl he.1
              · exact fun aa ww hb he hd => ob_plain rfl (nil_c rfl hd.1)
              · exact fun aa ww hb he hd => ob_plain rfl (fld_tab rfl (by decide) hd.1)
              · exact fun aa ww hb he hd => ob_plain rfl (load_c29 rfl hd.1 (TabW.new HT.out hb).c2)
              · exact fun _ _ _ he hd => ob_mv rfl rfl he.2.1
              · exact fun aa ww hb he hd => ob_plain rfl (idx_rws (by omega) rfl hd.1 hd.2.1)
              · exact fun aa ww hb he hd => ob_plain rfl (load_c28 rfl hd.1 ((TabW.new HT.out hb).rcell (by omega)))
              · exact fun _ _ _ he hd => ob_mv rfl rfl he.2.2.1
              · exact fun _ _ _ he hd => ob_mv rfl rfl he.1
              · exact fun aa ww hb he hd => ob_plain rfl (nil_c rfl hd.1)
              · exact fun aa ww hb he hd => ob_plain rfl (fld_tab rfl (by decide) hd.1)
              · exact fun aa ww hb he hd => ob_plain rfl (load_c29 rfl hd.1 (TabW.new HT.out hb).c2)
              · exact fun _ _ _ he hd => ob_mv rfl rfl he.2.1
              · exact fun aa ww hb he hd => ob_plain rfl (idx_rws (by omega) rfl hd.1 hd.2.1)
              · exact fun aa ww hb he hd => ob_plain rfl (load_c28 rfl hd.1 ((TabW.new HT.out hb).rcell (by omega)))
              · exact fun _ _ _ he hd => ob_mv rfl rfl he.2.2.2.1
              · exact fun aa ww hb he hd => ob_plain rfl (idx_rs (by omega) rfl hd.1 hd.2.1)
              · exact fun aa ww hb he hd => ob_plain rfl (load_rn rfl hd.1 (Rs.of_rb ((TabW.new HT.out hb).row (by omega))) (by omega))
              · exact fun aa ww hb he hd => ob_plain rfl (gives_comb (b := b) (bq := b) (f := S1.T i) (g := fun l => S.T r l / S.T r k) (q := S1.T i k) rfl hd.1 (Rs.of_rb ((TabW.new HT.out hb).row (by omega))) hd.2.1 (Rs.of_rb (RB.newN HP.out hb)) hd.2.2.1.rw (by omega) (by omega) (by omega) hb1 (fun _ => rfl))
              · exact fun aa ww hb he hd => ob_plain rfl (idx_rws (by omega) rfl hd.1 hd.2.1)
            intro vs w4 hb hR _
            have e91 : vs 24 = .pointer (some (Addr.add ⟨gr, 0, none⟩ i)) := hR 24 (by decide)
            have r90 := hR 23 (by decide)
            clear hR
            simp only [putsL, Nat.zero_add, Nat.reduceAdd, List.take_succ_cons, List.take_zero, Act.put, List.setIfInBounds_toArray, List.set_cons_zero, List.set_cons_succ]
            rw [e91]
            clear e91
            obtain ⟨g0, e90, hr0⟩ := (show ∃ g0 : Nat, vs 23 = .slice (some ⟨g0, 0, none⟩) j j ∧ RB w4 g0 j (PN w4 (b + (b + b) + 1) (fun l => S1.T i l - S1.T i k * (S.T r l / S.T r k))) from r90)
            rw [e90]
            clear r90 e90
            have HT4 := Lib.hid (HT.out.new hb)
            have HP4 := Lib.hid (HP.out.newN hb)
            have HB4 := Lib.hid (show Below base w w4 from HB.out.trans (hb.mono HT.out.low.2.1))
            have HE1 := Lib.hid (show ∀ l, S1.T i l - S1.T i k * (S.T r l / S.T r k) = (S.piv r k).T i l from fun l => by
              have e1 : S1.T i = S.T i := by rw [HSE.out]; exact HS1.out
              rw [e1, HPO.out l])
            have HR0 := Lib.hid (hr0.mono (Q := PN w4 b ((S.piv r k).T i)) (fun l u hl h => by
              have h' : Rv (b + (b + b) + 1) (S1.T i l - S1.T i k * (S.T r l / S.T r k)) u w4 := h
              rw [HE1.out l] at h'
              exact h'.fit (HF.out i him l hl).1 (HF.out i him l hl).2 hb1))
            clear hr0 hb
            obtain ⟨s1, s2, s3⟩ := HT4.out.setRow him HR0.out
            have hfar := HP4.out.setFar (i := i) HT4.out.rows s3
            have HN1 := Lib.hid s1; have HN3 := Lib.hid hfar
            have HN2 := Lib.hid (show Below base w (w4.setCell ⟨gr, i, none⟩ (.slice (some ⟨g0, 0, none⟩) j j)) from HB4.out.setCell (p := ⟨gr, i, none⟩) (by show base ≤ gr; obtain ⟨⟨g', e', h', _⟩, _⟩ := HT4.out.some_ (by omega); injection e' with e'; injection e' with e'; omega) _)
            clear s1 s2 s3 hfar
            show wpAny _ _ _ _ 1 _ _ _
            refine wpAny_next (i := 25) (by kernel_rfl) rfl rfl (store_c28 rfl rfl rfl rfl (HT4.out.rcell him) (HT4.out.rfz i) ?_)
            rw [addr_zero]
            refine wpAny_end (by kernel_rfl) (calm_normal ?_) _
            generalize w4.setCell ⟨gr, i, none⟩ (.slice (some ⟨g0, 0, none⟩) j j) = w5 at *
            go_wp2_with fail
            refine ⟨⟨i + 1, by go_num, by omega, Lib.hid ⟨fun l => if l = i then g0 else rs1 l, ?_, HN3.out, HN2.out⟩⟩, by simp [intOf]; omega⟩
            refine HN1.out.congr (fun l _ jj _ => ?_) (fun jj _ => by rw [HSE.out]) (fun l _ => by rw [HSE.out])
            rw [HE.out]
            by_cases hli : l = i
            · simp only [if_pos hli]
            · simp only [if_neg hli]; rw [HSE.out]
        · have him' : i = m := by omega
          subst him'
          clear him hi
          have HT := Lib.hid HJ.out.1; have HP := Lib.hid HJ.out.2.1; have HB := Lib.hid HJ.out.2.2
          clear HJ
          obtain ⟨S1, hS1⟩ : ∃ S1 : Tab, S1 = ⟨stT S r k i, S.G, S.b⟩ := ⟨_, rfl⟩
          rw [← hS1] at HT
          have HSE := Lib.hid hS1; clear hS1
          go_upto_region 15 with (fail)
          refine wp_region_join (kss := [[], [], [(1, 94)], [(2, 95)], [(3, 96)], [], [], [(6, 99)], [(7, 100)], [(8, 101)], [], [(9, 102), (10, 103)], [(11, 104)], [(4, 97), (5, 98), (12, 105)], [(0, 93)], [(14, 107)]]) [(0, .pointer (some ⟨p, 0, none⟩)), (6, .slice (some (⟨g6, 0, none⟩)) j j), (2, .int .i64 ((k : Int)))] [EV (.pointer (some ⟨p, 0, none⟩)), EV (.pointer (some ⟨p, 0, none⟩)), EV (.pointer (some ⟨p, 0, none⟩)), EV (.pointer (some ⟨p, 3, none⟩)), EV (.slice (some (⟨gg, 0, none⟩)) j j), EV (.slice (some (⟨g6, 0, none⟩)) j j), EV (.pointer (some ⟨p, 0, none⟩)), EV (.pointer (some ⟨p, 0, none⟩)), EV (.pointer (some ⟨p, 3, none⟩)), EV (.slice (some (⟨gg, 0, none⟩)) j j), EV (.int .i64 ((k : Int))), EV (.pointer (some (Addr.add (⟨gg, 0, none⟩) (k * 3)))), Rv (b) ((S1.G) k), fun v w' => ∃ g0 : Nat, v = .slice (some ⟨g0, 0, none⟩) j j ∧ RB w' g0 j (PN w' (b + (b + b) + 1) (fun l => S1.G l - S1.G k * (S.T r l / S.T r k))), EV (.pointer (some ⟨p, 0, none⟩)), EV (.pointer (some ⟨p, 3, none⟩))] 16 [] (by kernel_rfl) (by kernel_rfl) ⟨rfl, rfl, rfl, trivial⟩ [false, false, false, false, false, false, false, false, false, false, false, false, false, false, false, false] ?_ ?_ ?_ ?_
          · exact fun i hi => absurd hi (by simp)
          · exact ⟨eI, eI, eI, eI, eI, eI, eI, eI, eI, eI, eI, eI, fun _ _ _ h hb => h.new hb, fun _ _ _ ⟨g0, h1, h2⟩ hb => ⟨g0, h1, h2.newN hb⟩, eI, eI, trivial⟩
          · refine ⟨?_, ?_, ?_, ?_, ?_, ?_, ?_, ?_, ?_, ?_, ?_, ?_, ?_, ?_, ?_, ?_, trivial⟩
            · exact fun _ _ _ he hd => ob_mv rfl rfl he.1
            · exact fun _ _ _ he hd => ob_mv rfl rfl he.1
            · exact fun aa ww hb he hd => ob_plain rfl (nil_c rfl hd.1)
            · exact fun aa ww hb he hd => ob_plain rfl (fld_tab rfl (by decide) hd.1)
            · exact fun aa ww hb he hd => ob_plain rfl (load_c28 rfl hd.1 (TabW.new HT.out hb).c3)
            · exact fun _ _ _ he hd => ob_mv rfl rfl he.2.1
            · exact fun _ _ _ he hd => ob_mv rfl rfl he.1
            · exact fun aa ww hb he hd => ob_plain rfl (nil_c rfl hd.1)
            · exact fun aa ww hb he hd => ob_plain rfl (fld_tab rfl (by decide) hd.1)
            · exact fun aa ww hb he hd => ob_plain rfl (load_c28 rfl hd.1 (TabW.new HT.out hb).c3)
            · exact fun _ _ _ he hd => ob_mv rfl rfl he.2.2.1
            · exact fun aa ww hb he hd => ob_plain rfl (idx_rs (by omega) rfl hd.1 hd.2.1)
            · exact fun aa ww hb he hd => ob_plain rfl (load_rn rfl hd.1 (Rs.of_rb (TabW.new HT.out hb).goal) (by omega))
            · exact fun aa ww hb he hd => ob_plain rfl (gives_comb (b := b) (bq := b) (f := S1.G) (g := fun l => S.T r l / S.T r k) (q := S1.G k) rfl hd.1 (Rs.of_rb (TabW.new HT.out hb).goal) hd.2.1 (Rs.of_rb (RB.newN HP.out hb)) hd.2.2.1.rw (by omega) (by omega) (by omega) hb1 (fun _ => rfl))
            · exact fun aa ww hb he hd => ob_plain rfl (nil_c rfl hd.1)
            · exact fun aa ww hb he hd => ob_plain rfl (fld_tab rfl (by decide) hd.1)
          intro vs w4 hb hR _
          have e108 : vs 15 = .pointer (some ⟨p, 3, none⟩) := hR 15 (by decide)
          have r106 := hR 13 (by decide)
          clear hR
          simp only [putsL, Nat.zero_add, Nat.reduceAdd, List.take_succ_cons, List.take_zero, Act.put, List.setIfInBounds_toArray, List.set_cons_zero, List.set_cons_succ]
          rw [e108]
          clear e108
          obtain ⟨g0, e106, hr0⟩ := (show ∃ g0 : Nat, vs 13 = .slice (some ⟨g0, 0, none⟩) j j ∧ RB w4 g0 j (PN w4 (b + (b + b) + 1) (fun l => S1.G l - S1.G k * (S.T r l / S.T r k))) from r106)
          rw [e106]
          clear r106 e106
          have HT4 := Lib.hid (HT.out.new hb)
          have HP4 := Lib.hid (HP.out.newN hb)
          have HB4 := Lib.hid (show Below base w w4 from HB.out.trans (hb.mono HT.out.low.2.1))
          have HR0 := Lib.hid (hr0.mono (Q := PN w4 b (S.piv r k).G) (fun l u hl h => by
            have h' : Rv (b + (b + b) + 1) (S1.G l - S1.G k * (S.T r l / S.T r k)) u w4 := h
            have e1 : S1.G l - S1.G k * (S.T r l / S.T r k) = (S.piv r k).G l := by rw [HSE.out]; rfl
            rw [e1] at h'
            exact h'.fit (HFG.out l hl).1 (HFG.out l hl).2 hb1))
          clear hr0 hb
          obtain ⟨s1, s2⟩ := HT4.out.setGoal HR0.out
          have HN1 := Lib.hid s1
          have HN2 := Lib.hid (show Below base w (w4.setCell ⟨p, 3, none⟩ (.slice (some ⟨g0, 0, none⟩) j j)) from HB4.out.setCell (p := ⟨p, 3, none⟩) HT4.out.low.1 _)
          have kp := KeepsN.setCell HT4.out.c3 (by intro x; simp) (.slice (some ⟨g0, 0, none⟩) j j)
          have HN3 := Lib.hid (HP4.out.far (p := ⟨p, 3, none⟩) (by obtain ⟨cs, hb', _⟩ := HP4.out; exact Blk.ne_ hb' HT4.out.blk (by decide)) (u := .slice (some ⟨g0, 0, none⟩) j j) (Q := PN (w4.setCell ⟨p, 3, none⟩ (.slice (some ⟨g0, 0, none⟩) j j)) b (fun l => S.T r l / S.T r k)) (fun _ v _ hv => PN.keep hv kp))
          clear s1 s2 kp
          show wpAny _ _ _ _ 1 _ _ _
          refine wpAny_next (i := 16) (by kernel_rfl) rfl rfl (store_c28 rfl rfl rfl rfl HT4.out.c3 (HT4.out.blk.frozen 3) ?_)
          refine wpAny_end (by kernel_rfl) (calm_normal ?_) _
          generalize w4.setCell ⟨p, 3, none⟩ (.slice (some ⟨g0, 0, none⟩) j j) = w5 at *
          have c2 := HN1.out.c2; have pl := HN1.out.blk.lt
          have rc := HN1.out.rcell hr; have rf := HN1.out.rfz r
          rw [addr_zero] at rc rf
          have j1 : (0 : Int) ≤ (r : Int) := by omega
          have j2 : (r : Int) < (i : Int) := by omega
          go_upto_region 17 with (fail)
          obtain ⟨s1, s2, s3⟩ := HN1.out.setRow hr HN3.out
          have HM1 := Lib.hid s1
          have HM2 := Lib.hid (show Below base w (w5.setCell ⟨gr, r, none⟩ (.slice (some ⟨g6, 0, none⟩) j j)) from HN2.out.setCell (p := ⟨gr, r, none⟩) (by show base ≤ gr; obtain ⟨⟨g', e', h', _⟩, _⟩ := HN1.out.some_ (by omega); injection e' with e'; injection e' with e'; omega) _)
          clear s1 s2 s3 c2 pl rc rf
          generalize w5.setCell ⟨gr, r, none⟩ (.slice (some ⟨g6, 0, none⟩) j j) = w6 at *
          have c4 := HM1.out.c4; have pl := HM1.out.blk.lt
          have bc := HM1.out.bcell hr; have bf := HM1.out.bas.frozenAt r
          rw [addr_zero] at bc
          go_wp2_with fail
          obtain ⟨s1, s2⟩ := HM1.out.setBas (k := k) hr
          refine bodyPost_ret (v := .tuple #[]) (results_none Try.results73 _ _ _) rfl ?_
          refine ⟨g0, _, rfl, s1.congr (fun l hl jj hjj => ?_) (fun jj _ => rfl) (fun l _ => ?_), HM2.out.setCell (p := ⟨gb, r, none⟩) (by show base ≤ gb; obtain ⟨_, g', e', h', _⟩ := HM1.out.some_ (by omega); injection e' with e'; injection e' with e'; omega) _⟩
          · show (if l = r then (fun l => S.T r l / S.T r k) else S1.T l) jj = _
            by_cases hlr : l = r
            · rw [if_pos hlr, hlr, piv_row]
            · rw [if_neg hlr, HSE.out]
              show stT S r k i l jj = _
              simp [stT, hl, hlr]
          · rw [HSE.out]; rfl
end Go.Proofs.Ytamcibmjpmibdaa
