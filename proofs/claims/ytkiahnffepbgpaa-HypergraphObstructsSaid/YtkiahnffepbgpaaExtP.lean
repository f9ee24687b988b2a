/-
  Plain: what hypergraph.shortestCycle answers is a chordless cycle.
-/
import Derived.Test.YtkiahnffepbgpaaHole
import Derived.Test.YtkiahnffepbgpaaChkP
namespace Go.Proofs.Ytkiahnffepbgpaa
section
variable {R : List Nat} {n : Nat}
theorem nth_snoc {p : List Nat} {v i : Nat} : nth (p ++ [v]) i = if i < p.length then nth p i else if i = p.length then v else 0 := by
  simp only [nth, List.getD]
  by_cases h : i < p.length
  · rw [if_pos h, List.getElem?_append_left h]
  · rw [if_neg h, List.getElem?_append_right (by omega)]
    by_cases h2 : i = p.length
    · subst h2; simp
    · rw [if_neg h2, List.getElem?_eq_none (by simp; omega)]; rfl
/-- A path without chords, and what its inner vertices block. -/
structure Pt (R : List Nat) (n : Nat) (p : List Nat) (bl : Nat) : Prop where
  len2 : 2 ≤ p.length
  lt : ∀ i, i < p.length → nth p i < n
  min : ∀ i, 0 < i → i < p.length → nth p 0 < nth p i
  dis : ∀ i j, j < i → i < p.length → nth p i ≠ nth p j
  adj : ∀ i j, j < i → i < p.length → (GR R (nth p i) (nth p j) ↔ j + 1 = i)
  blk : ∀ u, bl.testBit u = true ↔ ∃ i, 0 < i ∧ i + 1 < p.length ∧ (u = nth p i ∨ GR R (nth p i) u)
  b32 : bl < 2 ^ 32
/-- A list that is a chordless cycle, its least vertex first. -/
structure HoleL (R : List Nat) (n L : Nat) (p : List Nat) : Prop where
  four : 4 ≤ L
  len : p.length = L
  lt : ∀ i, i < L → nth p i < n
  min : ∀ i, 0 < i → i < L → nth p 0 < nth p i
  dis : ∀ i j, j < i → i < L → nth p i ≠ nth p j
  adj : ∀ i j, j < i → i < L → (GR R (nth p i) (nth p j) ↔ (j + 1 = i ∨ (j = 0 ∧ i + 1 = L)))
theorem above_bit {s u : Nat} (hs : s < 32) : (aboveN s).testBit u = true ↔ s < u ∧ u < 32 := by
  unfold aboveN
  have h1 : 2 ^ (s + 1) ≤ 2 ^ 32 := two_pow_le (by omega)
  have h2 := pow2_pos (s + 1)
  rw [show 4294967295 - (2 ^ (s + 1) - 1) = 2 ^ 32 - ((2 ^ (s + 1) - 1) + 1) from by omega, Nat.testBit_two_pow_sub_succ (by omega), Nat.testBit_two_pow_sub_one]
  simp; omega
theorem gr_nth {u v : Nat} : GR R u v ↔ (nth R u).testBit v = true := Iff.rfl
theorem Pt.last {p : List Nat} {bl : Nat} (h : Pt R n p bl) : lastN p < n := h.lt _ (by have := h.len2; omega)
theorem after_bit (_ : Ady n R) {p : List Nat} {bl u : Nat} : (afterF R p bl).testBit u = true ↔ bl.testBit u = true ∨ GR R (lastN p) u ∨ u = lastN p := by
  unfold afterF
  rw [Nat.testBit_or, Nat.testBit_or, Bool.or_eq_true, Bool.or_eq_true, two_bit, or_assoc]; rfl
theorem after_lt (ha : Ady n R) {p : List Nat} {bl : Nat} (h : Pt R n p bl) : afterF R p bl < 2 ^ 32 :=
  Nat.or_lt_two_pow (Nat.or_lt_two_pow h.b32 (lt32_2 ha.nn (nth_lt2 ha.lt _))) (pow2_lt32 (by have := h.last; have := ha.nn; omega))
theorem cand_bit (ha : Ady n R) {p : List Nat} {bl u : Nat} (h : Pt R n p bl) : (candF R p bl).testBit u = true ↔ (GR R (lastN p) u ∧ nth p 0 < u) ∧ bl.testBit u = false := by
  have hs : nth p 0 < 32 := by have := h.lt 0 (by have := h.len2; omega); have := ha.nn; omega
  unfold candF
  rw [testBit_andn h.b32 (Nat.lt_of_le_of_lt Nat.and_le_left (lt32_2 ha.nn (nth_lt2 ha.lt _))), Nat.testBit_and, Bool.and_eq_true, Bool.and_eq_true, above_bit hs, Bool.not_eq_true']
  constructor
  · rintro ⟨⟨h1, h2, _⟩, h3⟩; exact ⟨⟨h1, h2⟩, h3⟩
  · rintro ⟨⟨h1, h2⟩, h3⟩; exact ⟨⟨h1, h2, by have := ha.hi h1; have := ha.nn; omega⟩, h3⟩
theorem allow_bit (ha : Ady n R) {p : List Nat} {bl v u : Nat} (h : Pt R n p bl) (hu : u < n) : (allowF R p bl v).testBit u = true ↔ (nth p 0 < u ∧ (afterF R p bl).testBit u = false) ∨ u = v ∨ u = nth p 0 := by
  have hs : nth p 0 < 32 := by have := h.lt 0 (by have := h.len2; omega); have := ha.nn; omega
  unfold allowF
  rw [Nat.testBit_or, Nat.testBit_or, Bool.or_eq_true, Bool.or_eq_true, two_bit, two_bit, testBit_andn (after_lt ha h) (aboveN_lt _), Bool.and_eq_true, above_bit hs, Bool.not_eq_true', or_assoc]
  have := ha.nn
  constructor
  · rintro (⟨⟨h1, _⟩, h2⟩ | h1 | h1)
    · exact .inl ⟨h1, h2⟩
    · exact .inr (.inl h1)
    · exact .inr (.inr h1)
  · rintro (⟨h1, h2⟩ | h1 | h1)
    · exact .inl ⟨⟨h1, by omega⟩, h2⟩
    · exact .inr (.inl h1)
    · exact .inr (.inr h1)
theorem ok_iff {L : Nat} {p : List Nat} {bl v : Nat} : okF R n L p bl v = true ↔ (candF R p bl).testBit v = true ∧ distF R n v (nth p 0) (allowF R p bl v) = L - p.length := by
  unfold okF; simp
/-- One vertex more. -/
theorem Pt.step (ha : Ady n R) {L : Nat} {p : List Nat} {bl v : Nat} (h : Pt R n p bl) (hok : okF R n L p bl v = true) (hL : p.length + 1 < L) :
    Pt R n (p ++ [v]) (afterF R p bl) ∧ ∃ v', v' < n ∧ okF R n L (p ++ [v]) (afterF R p bl) v' = true := by
  obtain ⟨hc, hd⟩ := ok_iff.1 hok
  obtain ⟨⟨hg, hsv⟩, hbl⟩ := (cand_bit ha h).1 hc
  have hl2 := h.len2
  have hvn : v < n := ha.hi hg
  have hbn : ∀ i, 0 < i → i + 1 < p.length → v ≠ nth p i ∧ ¬ GR R (nth p i) v := by
    intro i h1 h2
    constructor
    · intro e; rw [(h.blk v).2 ⟨i, h1, h2, .inl e⟩] at hbl; cases hbl
    · intro e; rw [(h.blk v).2 ⟨i, h1, h2, .inr e⟩] at hbl; cases hbl
  have hsn : nth p 0 < n := h.lt 0 (by omega)
  have hex := ((dist_spec ha.nn ha.lt (allowF R p bl v) hvn (show v ≠ nth p 0 by omega)).resolve_left (fun h1 => by rw [h1.1] at hd; omega)).2
  rw [hd] at hex
  have hns : ¬ GR R v (nth p 0) := by
    intro e
    refine hex.2 1 (by omega) (.snoc (.nil _) e ?_)
    exact (allow_bit ha h hsn).2 (.inr (.inr rfl))
  have hlast : nth p (p.length - 1) = lastN p := rfl
  have hvl : v ≠ lastN p := fun e => by rw [← e] at hg; exact ha.irr _ hg
  have hp' : Pt R n (p ++ [v]) (afterF R p bl) := by
    refine ⟨by simp; omega, fun i hi => ?_, fun i h0 hi => ?_, fun i j hji hi => ?_, fun i j hji hi => ?_, fun u => ?_, after_lt ha h⟩
    · rw [List.length_append, List.length_singleton] at hi
      rw [nth_snoc]
      by_cases h1 : i < p.length
      · rw [if_pos h1]; exact h.lt i h1
      · rw [if_neg h1, if_pos (by omega)]; exact hvn
    · rw [List.length_append, List.length_singleton] at hi
      rw [nth_snoc, if_pos (by omega), nth_snoc]
      by_cases h1 : i < p.length
      · rw [if_pos h1]; exact h.min i h0 h1
      · rw [if_neg h1, if_pos (by omega)]; exact hsv
    · rw [List.length_append, List.length_singleton] at hi
      rw [nth_snoc, nth_snoc]
      by_cases h1 : i < p.length
      · rw [if_pos h1, if_pos (by omega)]; exact h.dis i j hji h1
      · rw [if_neg h1, if_pos (by omega), if_pos (by omega)]
        rcases Nat.eq_zero_or_pos j with rfl | h2
        · omega
        · rcases Nat.lt_or_ge (j + 1) p.length with h3 | h3
          · exact (hbn j h2 h3).1
          · rw [show j = p.length - 1 by omega]; exact hvl
    · rw [List.length_append, List.length_singleton] at hi
      rw [nth_snoc, nth_snoc]
      by_cases h1 : i < p.length
      · rw [if_pos h1, if_pos (by omega)]; exact h.adj i j hji h1
      · rw [if_neg h1, if_pos (by omega), if_pos (by omega)]
        rcases Nat.eq_zero_or_pos j with rfl | h2
        · exact ⟨fun e => absurd e hns, fun e => by omega⟩
        · rcases Nat.lt_or_ge (j + 1) p.length with h3 | h3
          · exact ⟨fun e => absurd (ha.sym _ _ e) (hbn j h2 h3).2, fun e => by omega⟩
          · rw [show j = p.length - 1 by omega]
            exact ⟨fun _ => by omega, fun _ => ha.sym _ _ hg⟩
    · rw [after_bit ha, h.blk, List.length_append, List.length_singleton]
      constructor
      · rintro (⟨i, h1, h2, h3⟩ | h1 | h1)
        · exact ⟨i, h1, by omega, by rw [nth_snoc, if_pos (by omega)]; exact h3⟩
        · exact ⟨p.length - 1, by omega, by omega, by rw [nth_snoc, if_pos (by omega)]; exact .inr h1⟩
        · exact ⟨p.length - 1, by omega, by omega, by rw [nth_snoc, if_pos (by omega)]; exact .inl h1⟩
      · rintro ⟨i, h1, h2, h3⟩
        rw [nth_snoc, if_pos (by omega)] at h3
        rcases Nat.lt_or_ge (i + 1) p.length with h4 | h4
        · exact .inl ⟨i, h1, h4, h3⟩
        · rw [show i = p.length - 1 by omega] at h3
          rcases h3 with h3 | h3
          · exact .inr (.inr h3)
          · exact .inr (.inl h3)
  refine ⟨hp', ?_⟩
  obtain ⟨f, f0, fd, f1, f2, f3⟩ := short_fun hex
  have hm : 2 ≤ L - p.length := by omega
  generalize hdm : L - p.length = m at *
  have g1 := f1 0 (by omega)
  rw [f0, Nat.zero_add] at g1
  have hfn : ∀ i, i ≤ m → f i < n := by
    intro i hi
    rcases Nat.eq_zero_or_pos i with rfl | h0
    · rw [f0]; exact hvn
    · have := ha.hi (f1 (i - 1) (by omega)).1
      rwa [show i - 1 + 1 = i by omega] at this
  have hin : ∀ i, 0 < i → i < m → nth p 0 < f i ∧ (afterF R p bl).testBit (f i) = false := by
    intro i h0 hi
    have h1 := (f1 (i - 1) (by omega)).2
    rw [show i - 1 + 1 = i by omega] at h1
    rcases (allow_bit ha h (hfn i (by omega))).1 h1 with h2 | h2 | h2
    · exact h2
    · exact absurd (f0.trans h2.symm) (f2 0 i h0 (by omega))
    · exact absurd (h2.trans fd.symm) (f2 i m hi (Nat.le_refl _))
  have hl' : lastN (p ++ [v]) = v := by
    unfold lastN; rw [nth_snoc]; simp
  have h0' : nth (p ++ [v]) 0 = nth p 0 := by rw [nth_snoc, if_pos (by omega)]
  refine ⟨f 1, hfn 1 (by omega), ok_iff.2 ⟨(cand_bit ha hp').2 ⟨⟨by rw [hl']; exact g1.1, by rw [h0']; exact (hin 1 (by omega) (by omega)).1⟩, (hin 1 (by omega) (by omega)).2⟩, ?_⟩⟩
  rw [h0', show L - (p ++ [v]).length = m - 1 by simp; omega]
  have hss : f 1 ≠ nth p 0 := by have := (hin 1 (by omega) (by omega)).1; omega
  refine dist_of_exact ha.nn ha.lt (hfn 1 (by omega)) hss ⟨?_, fun j hj w => ?_⟩
  · have w : Wk (GR R) (InS (allowF R (p ++ [v]) (afterF R p bl) (f 1))) (m - 1) (f 1) (f (1 + (m - 1))) := fun_walk fun j h1 h2 => by
      refine ⟨(f1 j (by omega)).1, (allow_bit ha hp' (hfn _ (by omega))).2 ?_⟩
      rw [h0']
      rcases Nat.lt_or_ge (j + 1) m with h3 | h3
      · left
        obtain ⟨h4, h5⟩ := hin (j + 1) (by omega) h3
        refine ⟨h4, ?_⟩
        rw [← Bool.not_eq_true, after_bit ha, hl']
        rintro (h6 | h6 | h6)
        · rw [h5] at h6; cases h6
        · rw [← f0] at h6
          have := f3 0 (j + 1) (by omega) (by omega) h6
          omega
        · rw [← f0] at h6
          exact f2 0 (j + 1) (by omega) (by omega) h6.symm
      · right; right
        rw [show j + 1 = m by omega, fd]
    rwa [show 1 + (m - 1) = m by omega, fd] at w
  · refine hex.2 (j + 1) (by omega) (Wk.cons g1.1 g1.2 (w.mono2 fun a b g i => ?_))
    have hbn' : b < n := ha.hi g
    have h1 := (allow_bit ha hp' hbn').1 i
    rw [h0'] at h1
    refine (allow_bit ha h hbn').2 ?_
    rcases h1 with ⟨h2, h3⟩ | h2 | h2
    · left
      refine ⟨h2, ?_⟩
      cases h4 : (afterF R p bl).testBit b with
      | false => rfl
      | true => rw [(after_bit ha).2 (.inl h4)] at h3; cases h3
    · left; rw [h2]; exact hin 1 (by omega) (by omega)
    · exact .inr (.inr h2)
/-- The last vertex. -/
theorem Pt.close (ha : Ady n R) {L : Nat} {p : List Nat} {bl v : Nat} (h : Pt R n p bl) (hok : okF R n L p bl v = true) (hL : p.length + 1 = L) (h4 : 4 ≤ L) : HoleL R n L (p ++ [v]) := by
  obtain ⟨hc, hd⟩ := ok_iff.1 hok
  obtain ⟨⟨hg, hsv⟩, hbl⟩ := (cand_bit ha h).1 hc
  have hl2 := h.len2
  have hvn : v < n := ha.hi hg
  have hbn : ∀ i, 0 < i → i + 1 < p.length → v ≠ nth p i ∧ ¬ GR R (nth p i) v := by
    intro i h1 h2
    constructor
    · intro e; rw [(h.blk v).2 ⟨i, h1, h2, .inl e⟩] at hbl; cases hbl
    · intro e; rw [(h.blk v).2 ⟨i, h1, h2, .inr e⟩] at hbl; cases hbl
  have hex := ((dist_spec ha.nn ha.lt (allowF R p bl v) hvn (show v ≠ nth p 0 by omega)).resolve_left (fun h1 => by rw [h1.1] at hd; omega)).2
  rw [hd, show L - p.length = 1 by omega] at hex
  have hns : GR R v (nth p 0) := by
    have w := hex.1
    cases w with
    | snoc w g i => cases w; exact g
  have hvl : v ≠ lastN p := fun e => by rw [← e] at hg; exact ha.irr _ hg
  refine ⟨h4, by simp; omega, fun i hi => ?_, fun i h0 hi => ?_, fun i j hji hi => ?_, fun i j hji hi => ?_⟩
  · rw [nth_snoc]
    by_cases h1 : i < p.length
    · rw [if_pos h1]; exact h.lt i h1
    · rw [if_neg h1, if_pos (by omega)]; exact hvn
  · rw [nth_snoc, if_pos (by omega), nth_snoc]
    by_cases h1 : i < p.length
    · rw [if_pos h1]; exact h.min i h0 h1
    · rw [if_neg h1, if_pos (by omega)]; exact hsv
  · rw [nth_snoc, nth_snoc]
    by_cases h1 : i < p.length
    · rw [if_pos h1, if_pos (by omega)]; exact h.dis i j hji h1
    · rw [if_neg h1, if_pos (by omega), if_pos (by omega)]
      rcases Nat.eq_zero_or_pos j with rfl | h2
      · omega
      · rcases Nat.lt_or_ge (j + 1) p.length with h3 | h3
        · exact (hbn j h2 h3).1
        · rw [show j = p.length - 1 by omega]; exact hvl
  · rw [nth_snoc, nth_snoc]
    by_cases h1 : i < p.length
    · rw [if_pos h1, if_pos (by omega), h.adj i j hji h1]; omega
    · rw [if_neg h1, if_pos (by omega), if_pos (by omega)]
      rcases Nat.eq_zero_or_pos j with rfl | h2
      · exact ⟨fun _ => .inr ⟨rfl, by omega⟩, fun _ => hns⟩
      · rcases Nat.lt_or_ge (j + 1) p.length with h3 | h3
        · exact ⟨fun e => absurd (ha.sym _ _ e) (hbn j h2 h3).2, fun e => by omega⟩
        · rw [show j = p.length - 1 by omega]
          exact ⟨fun _ => by omega, fun _ => ha.sym _ _ hg⟩
theorem find_some {p : Nat → Bool} {n v : Nat} (h : v < n) (hv : p v = true) : ∃ u, (List.range n).find? p = some u ∧ u < n ∧ p u = true ∧ ∀ j, j < u → p j = false := by
  obtain ⟨m, h1, h2⟩ := least (P := fun u => p u = true) hv
  have hm : m < n := by
    rcases Nat.lt_or_ge v m with h3 | h3
    · exact absurd hv (h2 v h3)
    · omega
  exact ⟨m, find_at (fun j hj => by simpa using h2 j hj) h1 hm, hm, h1, fun j hj => by simpa using h2 j hj⟩
theorem ext_hole (ha : Ady n R) {L : Nat} (h4 : 4 ≤ L) : ∀ (f : Nat) (p : List Nat) (bl : Nat), Pt R n p bl → p.length + (f + 1) = L → (∃ v, v < n ∧ okF R n L p bl v = true) → HoleL R n L (extF R n L (f + 1) p bl)
  | 0, p, bl, h, hL, ⟨v, hv, hok⟩ => by
    obtain ⟨u, h1, _, h3, _⟩ := find_some hv hok
    rw [extF, h1]
    exact h.close ha h3 hL h4
  | f + 1, p, bl, h, hL, ⟨v, hv, hok⟩ => by
    obtain ⟨u, h1, _, h3, _⟩ := find_some hv hok
    obtain ⟨h5, h6⟩ := h.step ha h3 (by omega)
    rw [extF, h1]
    exact ext_hole ha h4 f _ _ h5 (by simp; omega) h6
theorem pt_two (ha : Ady n R) {s t : Nat} (h1 : s < t) (hg : GR R s t) : Pt R n [s, t] 0 := by
  have hs := ha.lo hg
  have ht := ha.hi hg
  refine ⟨Nat.le_refl _, fun i hi => ?_, fun i h0 hi => ?_, fun i j hji hi => ?_, fun i j hji hi => ?_, fun u => ?_, by omega⟩
  · simp at hi
    rcases (show i = 0 ∨ i = 1 by omega) with rfl | rfl
    · exact hs
    · exact ht
  · simp at hi
    obtain rfl : i = 1 := by omega
    exact h1
  · simp at hi
    obtain rfl : i = 1 := by omega
    obtain rfl : j = 0 := by omega
    show t ≠ s
    omega
  · simp at hi
    obtain rfl : i = 1 := by omega
    obtain rfl : j = 0 := by omega
    exact ⟨fun _ => rfl, fun _ => ha.sym _ _ hg⟩
  · constructor
    · intro h; simp at h
    · rintro ⟨i, h2, h3, _⟩
      simp at h3; omega
theorem scT_hole (ha : Ady n R) {L s t : Nat} (h4 : 4 ≤ L) (h : scT R n L s t ≠ []) : HoleL R n L (scT R n L s t) := by
  unfold scT at h ⊢
  by_cases h1 : (decide (s < t) && (nth R s).testBit t) = true
  · rw [if_pos h1] at h ⊢
    rw [Bool.and_eq_true, decide_eq_true_eq] at h1
    obtain ⟨m, rfl⟩ : ∃ m, L = m + 3 := ⟨L - 3, by omega⟩
    rw [show m + 3 - 2 = m + 1 by omega] at h ⊢
    refine ext_hole ha h4 m _ _ (pt_two ha h1.1 h1.2) (by simp; omega) ?_
    refine Classical.byContradiction fun hno => h ?_
    rw [extF, find_none fun j hj => ?_]
    cases hk : okF R n (m + 3) [s, t] 0 j with
    | false => rfl
    | true => exact absurd ⟨j, hj, hk⟩ hno
  · rw [if_neg h1] at h; exact absurd rfl h
theorem firstNE_some : ∀ {l : List (List Nat)}, (∃ x ∈ l, x ≠ []) → firstNE l ≠ []
  | [], h => by obtain ⟨x, hx, _⟩ := h; cases hx
  | y :: r, h => by
    rw [firstNE]
    by_cases hy : y = []
    · rw [if_pos hy]
      refine firstNE_some ?_
      obtain ⟨x, hx, hn⟩ := h
      rcases List.mem_cons.1 hx with rfl | hx
      · exact absurd hy hn
      · exact ⟨x, hx, hn⟩
    · rw [if_neg hy]; exact hy
theorem firstNE_prop {P : List Nat → Prop} : ∀ {l : List (List Nat)}, (∀ x ∈ l, x ≠ [] → P x) → firstNE l ≠ [] → P (firstNE l)
  | [], _, h => absurd rfl h
  | y :: r, hp, h => by
    rw [firstNE] at h ⊢
    by_cases hy : y = []
    · rw [if_pos hy] at h ⊢; exact firstNE_prop (fun x hx => hp x (by simp [hx])) h
    · rw [if_neg hy]; exact hp y (by simp) hy
theorem cyl_four (ha : Ady n R) (h : cylF R n ≠ 0) : 4 ≤ cylF R n := by
  obtain ⟨v, x, y, ok, e⟩ := cylF_at h
  obtain ⟨h, hh, _⟩ := hole_of ha ok
  rw [e]; exact hh.four
theorem sc_hole (ha : Ady n R) (h : scF R n ≠ []) : HoleL R n (cylF R n) (scF R n) := by
  unfold scF at h ⊢
  by_cases h0 : cylF R n = 0
  · rw [if_pos h0] at h; exact absurd rfl h
  · rw [if_neg h0] at h ⊢
    have h4 := cyl_four ha h0
    refine firstNE_prop (P := HoleL R n (cylF R n)) (fun x hx hxn => ?_) h
    rw [List.mem_map] at hx
    obtain ⟨s, _, rfl⟩ := hx
    refine firstNE_prop (P := HoleL R n (cylF R n)) (fun x hx hxn => ?_) hxn
    rw [List.mem_map] at hx
    obtain ⟨t, _, rfl⟩ := hx
    exact scT_hole ha h4 hxn
/-- The least of the vertices of a cycle. -/
theorem least_at (h : Nat → Nat) : ∀ L, 0 < L → ∃ m, m < L ∧ ∀ i, i < L → h m ≤ h i
  | 0, h0 => by omega
  | 1, _ => ⟨0, by omega, fun i hi => by obtain rfl : i = 0 := by omega
                                         exact Nat.le_refl _⟩
  | L + 2, _ => by
    obtain ⟨m, h1, h2⟩ := least_at h (L + 1) (by omega)
    rcases Nat.lt_or_ge (h (L + 1)) (h m) with h3 | h3
    · refine ⟨L + 1, by omega, fun i hi => ?_⟩
      rcases Nat.lt_or_ge i (L + 1) with h4 | h4
      · have := h2 i h4; omega
      · obtain rfl : i = L + 1 := by omega
        exact Nat.le_refl _
    · refine ⟨m, by omega, fun i hi => ?_⟩
      rcases Nat.lt_or_ge i (L + 1) with h4 | h4
      · exact h2 i h4
      · obtain rfl : i = L + 1 := by omega
        exact h3
/-- A shortest cycle with its least vertex first begins with a pair that the search takes. -/
theorem hole_start (ha : Ady n R) {h : Nat → Nat} (hh : Hole R (cylF R n) h) (hlt : ∀ i, i < cylF R n → h i < n) (hmin : ∀ i, 0 < i → i < cylF R n → h 0 < h i) :
    okF R n (cylF R n) [h 0, h 1] 0 (h 2) = true := by
  have h4 := hh.four
  generalize hL : cylF R n = L at *
  have g01 : GR R (h 0) (h 1) := (hh.adj 0 1 (by omega) (by omega)).2 (by omega)
  have g12 : GR R (h 1) (h 2) := (hh.adj 1 2 (by omega) (by omega)).2 (by omega)
  have hp := pt_two ha (hmin 1 (by omega) (by omega)) g01
  have e0 : nth [h 0, h 1] 0 = h 0 := rfl
  have el : lastN [h 0, h 1] = h 1 := rfl
  refine ok_iff.2 ⟨(cand_bit ha hp).2 ⟨⟨by rw [el]; exact g12, by rw [e0]; exact hmin 2 (by omega) (by omega)⟩, by simp⟩, ?_⟩
  rw [e0, show L - [h 0, h 1].length = L - 2 from rfl]
  have hne : h 2 ≠ h 0 := by have := hmin 2 (by omega) (by omega); omega
  refine dist_of_exact ha.nn ha.lt (hlt 2 (by omega)) hne ⟨?_, fun k hk w => ?_⟩
  · have w : Wk (GR R) (InS (allowF R [h 0, h 1] 0 (h 2))) (L - 3) (h 2) (h (2 + (L - 3))) := fun_walk fun j h1 h2 => by
      refine ⟨(hh.adj j (j + 1) (by omega) (by omega)).2 (by omega), (allow_bit ha hp (hlt _ (by omega))).2 (.inl ⟨by rw [e0]; exact hmin _ (by omega) (by omega), ?_⟩)⟩
      rw [← Bool.not_eq_true, after_bit ha, el]
      rintro (h3 | h3 | h3)
      · simp at h3
      · have := (hh.adj 1 (j + 1) (by omega) (by omega)).1 h3; omega
      · have := hh.inj _ _ (by omega) (by omega) h3; omega
    rw [show 2 + (L - 3) = L - 1 by omega] at w
    have := Wk.snoc w ((hh.adj (L - 1) 0 (by omega) (by omega)).2 (by omega)) ((allow_bit ha hp (hlt 0 (by omega))).2 (.inr (.inr rfl)))
    rwa [show L - 3 + 1 = L - 2 by omega] at this
  · have hsk : skipB R (h 1) (h 2) (h 0) = false := skip_no.2 ⟨g12, ha.sym _ _ g01, fun g => by
      have := (hh.adj 2 0 (by omega) (by omega)).1 g; omega⟩
    have w2 : Wk (GR R) (InS (restOf R n (h 1) (h 2) (h 0))) k (h 2) (h 0) := w.mono2 fun a b g i => by
      have hb := ha.hi g
      refine (rest_bit ha (hlt 1 (by omega))).2 ?_
      rcases (allow_bit ha hp hb).1 i with ⟨h1, h2⟩ | h1 | h1
      · left
        rw [← Bool.not_eq_true, after_bit ha, el] at h2
        exact ⟨hb, fun e => h2 (.inr (.inl e)), fun e => h2 (.inr (.inr e))⟩
      · exact .inr (.inl h1)
      · exact .inr (.inr h1)
    obtain ⟨m, hm, w3, w4⟩ := least_wk w2
    have hd := dist_of_exact ha.nn ha.lt (hlt 2 (by omega)) hne (⟨w3, w4⟩ : Exact R _ _ _ _)
    have hm0 : m ≠ 0 := by
      intro e; rw [e] at w3; exact hne w3.zero
    have ok : OkT R n (h 1) (h 2) (h 0) := ⟨⟨hlt 1 (by omega), hlt 2 (by omega), hmin 2 (by omega) (by omega)⟩, hsk, by rw [hd]; exact hm0⟩
    have := (cylF_min ok).2
    rw [hd, hL] at this
    omega
/-- Every hole may be turned so that its least vertex comes first. -/
theorem Hole.head (_ : Ady n R) {L : Nat} {h : Nat → Nat} (hh : Hole R L h) (hlt : ∀ i, i < L → h i < n) : ∃ g, Hole R L g ∧ (∀ i, i < L → g i < n) ∧ ∀ i, 0 < i → i < L → g 0 < g i := by
  have h4 := hh.four
  obtain ⟨m, h1, h2⟩ := least_at h L (by omega)
  have ht := hh.turn h1
  refine ⟨_, ht, fun i hi => ?_, fun i h0 hi => ?_⟩
  · by_cases h3 : i + m < L
    · simp only [if_pos h3]; exact hlt _ h3
    · simp only [if_neg h3]; exact hlt _ (by omega)
  · have hne : (if 0 + m < L then h (0 + m) else h (0 + m - L)) ≠ (if i + m < L then h (i + m) else h (i + m - L)) := fun e => by
      have := ht.inj 0 i (by omega) hi e
      omega
    have hle : ∀ j, j < L → h m ≤ (if j + m < L then h (j + m) else h (j + m - L)) := by
      intro j hj
      by_cases h3 : j + m < L
      · rw [if_pos h3]; exact h2 _ h3
      · rw [if_neg h3]; exact h2 _ (by omega)
    have e0 : (if 0 + m < L then h (0 + m) else h (0 + m - L)) = h m := by rw [if_pos (by omega), Nat.zero_add]
    have := hle i hi
    simp only [e0] at hne ⊢
    omega
theorem sc_some (ha : Ady n R) (h : cylF R n ≠ 0) : scF R n ≠ [] := by
  obtain ⟨v, x, y, ok, e⟩ := cylF_at h
  obtain ⟨g, hg, hlt⟩ := hole_of ha ok
  rw [← e] at hg hlt
  obtain ⟨k, hk, klt, kmin⟩ := hg.head ha hlt
  have h4 := hk.four
  have hok := hole_start ha hk klt kmin
  unfold scF
  rw [if_neg h]
  have hs : scT R n (cylF R n) (k 0) (k 1) ≠ [] := by
    have g01 : GR R (k 0) (k 1) := (hk.adj 0 1 (by omega) (by omega)).2 (by omega)
    unfold scT
    rw [if_pos (by rw [Bool.and_eq_true, decide_eq_true_eq]; exact ⟨kmin 1 (by omega) (by omega), g01⟩)]
    obtain ⟨m, hm⟩ : ∃ m, cylF R n = m + 3 := ⟨cylF R n - 3, by omega⟩
    have := ext_hole ha h4 m [k 0, k 1] 0 (pt_two ha (kmin 1 (by omega) (by omega)) g01) (by simp; omega) ⟨k 2, klt 2 (by omega), hok⟩
    rw [show cylF R n - 2 = m + 1 by omega]
    intro he
    have := this.len
    rw [he] at this
    simp at this; omega
  refine firstNE_some ⟨_, List.mem_map.2 ⟨k 0, by simpa using klt 0 (by omega), rfl⟩, ?_⟩
  exact firstNE_some ⟨_, List.mem_map.2 ⟨k 1, by simpa using klt 1 (by omega), rfl⟩, hs⟩
end
end Go.Proofs.Ytkiahnffepbgpaa
