/-
  Plain: the exhaustive search of the reference finds what Obstruction finds.
-/
import Derived.Test.YtkiahnffepbgpaaObsU
namespace Go.Proofs.Ytkiahnffepbgpaa

/-- a comes before b. -/
def LtL (a b : List Nat) : Prop := ∃ i, i < a.length ∧ (∀ j, j < i → nth a j = nth b j) ∧ nth a i < nth b i
def LeL (a b : List Nat) : Prop := a = b ∨ LtL a b
theorem nth_ext {a b : List Nat} (hl : a.length = b.length) (h : ∀ i, i < a.length → nth a i = nth b i) : a = b := by
  apply List.ext_getElem hl
  intro i h1 h2
  rw [← nth_eq h1, ← nth_eq h2]; exact h i h1
theorem LtL.trans {a b c : List Nat} (hl : a.length = b.length) (h1 : LtL a b) (h2 : LtL b c) : LtL a c := by
  obtain ⟨i, hi, e1, l1⟩ := h1
  obtain ⟨j, hj, e2, l2⟩ := h2
  rcases Nat.lt_trichotomy i j with h | rfl | h
  · exact ⟨i, hi, fun k hk => (e1 k hk).trans (e2 k (by omega)), by rw [← e2 i h]; exact l1⟩
  · exact ⟨i, hi, fun k hk => (e1 k hk).trans (e2 k hk), by omega⟩
  · exact ⟨j, by omega, fun k hk => (e1 k (by omega)).trans (e2 k hk), by rw [e1 j h]; exact l2⟩
theorem LeL.trans {a b c : List Nat} (hl : a.length = b.length) (h1 : LeL a b) (h2 : LeL b c) : LeL a c := by
  rcases h1 with rfl | h1
  · exact h2
  · rcases h2 with rfl | h2
    · exact .inr h1
    · exact .inr (h1.trans hl h2)
theorem LtL.irr {a : List Nat} : ¬ LtL a a := by
  rintro ⟨i, _, _, h⟩; omega
theorem LeL.not {a b : List Nat} (hl : a.length = b.length) (h : LeL a b) : ¬ LtL b a := by
  intro h2
  rcases h with rfl | h
  · exact LtL.irr h2
  · exact LtL.irr (h.trans hl h2)
section
variable {R : List Nat} {n : Nat}
/-- Every chordless cycle is at least as long as cycleLength says. -/
theorem hole_cyl (ha : Ady n R) {L : Nat} {p : List Nat} (hh : HoleL R n L p) : cylF R n ≠ 0 ∧ cylF R n ≤ L := by
  have h4 := hh.four
  have g01 : GR R (nth p 1) (nth p 0) := (hh.adj 1 0 (by omega) (by omega)).2 (by omega)
  have g21 : GR R (nth p 2) (nth p 1) := (hh.adj 2 1 (by omega) (by omega)).2 (by omega)
  have n20 : ¬ GR R (nth p 2) (nth p 0) := fun g => by have := (hh.adj 2 0 (by omega) (by omega)).1 g; omega
  have h2 := hh.min 2 (by omega) (by omega)
  have hne : nth p 2 ≠ nth p 0 := by omega
  have hsk : skipB R (nth p 1) (nth p 2) (nth p 0) = false := skip_no.2 ⟨ha.sym _ _ g21, g01, n20⟩
  have w : Wk (GR R) (InS (restOf R n (nth p 1) (nth p 2) (nth p 0))) (L - 3) (nth p 2) (nth p (2 + (L - 3))) := fun_walk fun j h1 h2 => by
    refine ⟨ha.sym _ _ ((hh.adj (j + 1) j (by omega) (by omega)).2 (by omega)), (rest_bit ha (hh.lt 1 (by omega))).2 (.inl ⟨hh.lt _ (by omega), fun g => ?_, fun e => hh.dis (j + 1) 1 (by omega) (by omega) e⟩)⟩
    have := (hh.adj (j + 1) 1 (by omega) (by omega)).1 (ha.sym _ _ g); omega
  rw [show 2 + (L - 3) = L - 1 by omega] at w
  have w2 := Wk.snoc w ((hh.adj (L - 1) 0 (by omega) (by omega)).2 (by omega)) ((rest_bit ha (hh.lt 1 (by omega))).2 (.inr (.inr rfl)))
  obtain ⟨m, hm, w3, w4⟩ := least_wk w2
  have hd := dist_of_exact ha.nn ha.lt (hh.lt 2 (by omega)) hne (⟨w3, w4⟩ : Exact R _ _ _ _)
  have hm0 : m ≠ 0 := by
    intro e; rw [e] at w3; exact hne w3.zero
  have ok : OkT R n (nth p 1) (nth p 2) (nth p 0) := ⟨⟨hh.lt 1 (by omega), hh.lt 2 (by omega), h2⟩, hsk, by rw [hd]; exact hm0⟩
  have := cylF_min ok
  rw [hd] at this
  exact ⟨this.1, by omega⟩
/-- The next vertex of a shortest cycle may be taken. -/
theorem ok_next (ha : Ady n R) {L : Nat} {h : List Nat} (hh : HoleL R n L h) (hL : ∀ m q, HoleL R n m q → L ≤ m) {p : List Nat} {bl : Nat} (hp : Pt R n p bl) (hk : p.length < L) (he : ∀ i, i < p.length → nth p i = nth h i) : okF R n L p bl (nth h p.length) = true := by
  have h4 := hh.four
  have hl2 := hp.len2
  obtain ⟨k, hkk⟩ : ∃ k, k = p.length := ⟨_, rfl⟩
  rw [← hkk] at hk hl2 he ⊢
  have e0 : nth p 0 = nth h 0 := he 0 (by omega)
  have el : lastN p = nth h (k - 1) := by
    unfold lastN; rw [← hkk]; exact he _ (by omega)
  have hblk : ∀ j, k ≤ j → j < L → bl.testBit (nth h j) = false := by
    intro j h1 h2
    rw [← Bool.not_eq_true, hp.blk]
    rintro ⟨i, h3, h5, h6⟩
    rw [← hkk] at h5
    rw [he i (by omega)] at h6
    rcases h6 with h6 | h6
    · exact hh.dis j i (by omega) h2 h6
    · have := (hh.adj j i (by omega) h2).1 (ha.sym _ _ h6); omega
  have hc : (candF R p bl).testBit (nth h k) = true := by
    refine (cand_bit ha hp).2 ⟨⟨?_, ?_⟩, hblk k (Nat.le_refl _) hk⟩
    · rw [el]; exact ha.sym _ _ ((hh.adj k (k - 1) (by omega) hk).2 (by omega))
    · rw [e0]; exact hh.min k (by omega) hk
  have hne : nth h k ≠ nth h 0 := by have := hh.min k (by omega) hk; omega
  have hkn := hh.lt k hk
  have w : Wk (GR R) (InS (allowF R p bl (nth h k))) (L - 1 - k) (nth h k) (nth h (k + (L - 1 - k))) := fun_walk fun j h1 h2 => by
    refine ⟨ha.sym _ _ ((hh.adj (j + 1) j (by omega) (by omega)).2 (by omega)), (allow_bit ha hp (hh.lt _ (by omega))).2 (.inl ⟨by rw [e0]; exact hh.min _ (by omega) (by omega), ?_⟩)⟩
    rw [← Bool.not_eq_true, after_bit ha, el]
    rintro (h3 | h3 | h3)
    · rw [hblk (j + 1) (by omega) (by omega)] at h3; cases h3
    · have := (hh.adj (j + 1) (k - 1) (by omega) (by omega)).1 (ha.sym _ _ h3); omega
    · exact hh.dis (j + 1) (k - 1) (by omega) (by omega) h3
  rw [show k + (L - 1 - k) = L - 1 by omega] at w
  have w2 := Wk.snoc w ((hh.adj (L - 1) 0 (by omega) (by omega)).2 (by omega)) ((allow_bit ha hp (hh.lt 0 (by omega))).2 (.inr (.inr e0.symm)))
  rw [show L - 1 - k + 1 = L - k by omega] at w2
  obtain ⟨m, hm, w3, w4⟩ := least_wk w2
  have hd := dist_of_exact ha.nn ha.lt hkn hne (⟨w3, w4⟩ : Exact R _ _ _ _)
  refine ok_iff.2 ⟨hc, ?_⟩
  rw [e0, hd, ← hkk]
  refine Classical.byContradiction fun hmk => ?_
  have hm0 : m ≠ 0 := by
    intro e; rw [e] at w3; exact hne w3.zero
  have hok : okF R n (k + m) p bl (nth h k) = true := ok_iff.2 ⟨hc, by rw [e0, hd, ← hkk]; omega⟩
  have hkm : 4 ≤ k + m := by
    rcases Nat.lt_or_ge (k + m) 4 with h5 | h5
    · obtain rfl : k = 2 := by omega
      obtain rfl : m = 1 := by omega
      cases w3 with
      | snoc w5 g i =>
        have := w5.zero
        rw [← this] at g
        have := (hh.adj 2 0 (by omega) (by omega)).1 g; omega
    · exact h5
  have := hL _ _ (ext_hole ha hkm (m - 1) p bl hp (by omega) ⟨_, hkn, hok⟩)
  omega
theorem extF_pre (L : Nat) : ∀ (f : Nat) (p : List Nat) (bl : Nat), extF R n L f p bl ≠ [] → ∀ i, i < p.length → nth (extF R n L f p bl) i = nth p i
  | 0, p, bl, _, i, hi => rfl
  | f + 1, p, bl, h, i, hi => by
    rw [extF] at h ⊢
    split at h
    · rename_i v hv
      rw [extF_pre L f _ _ h i (by simp; omega), nth_snoc, if_pos hi]
    · exact absurd rfl h
theorem LtL.of_pre {a b p : List Nat} {u : Nat} (h1 : ∀ i, i < (p ++ [u]).length → nth a i = nth (p ++ [u]) i) (hl : p.length < a.length) (h2 : ∀ i, i < p.length → nth p i = nth b i) (h3 : u < nth b p.length) : LtL a b := by
  refine ⟨p.length, hl, fun j hj => ?_, ?_⟩
  · rw [h1 j (by simp; omega), nth_snoc, if_pos hj]; exact h2 j hj
  · rw [h1 p.length (by simp), nth_snoc, if_neg (by omega), if_pos rfl]; exact h3
/-- The search finds the first one. -/
theorem ext_min (ha : Ady n R) {L : Nat} {h : List Nat} (hh : HoleL R n L h) (hL : ∀ m q, HoleL R n m q → L ≤ m) : ∀ (f : Nat) (p : List Nat) (bl : Nat), Pt R n p bl → p.length + (f + 1) = L → (∀ i, i < p.length → nth p i = nth h i) → LeL (extF R n L (f + 1) p bl) h
  | f, p, bl, hp, hl, he => by
    have h4 := hh.four
    have hok := ok_next ha hh hL hp (by omega) he
    have hx := ext_hole ha h4 f p bl hp hl ⟨_, hh.lt _ (by omega), hok⟩
    obtain ⟨u, h1, h2, h3, h5⟩ := find_some (hh.lt _ (by omega)) hok
    have hu : u ≤ nth h p.length := by
      rcases Nat.lt_or_ge (nth h p.length) u with h6 | h6
      · rw [h5 _ h6] at hok; cases hok
      · exact h6
    rw [extF, h1] at hx ⊢
    simp only at hx ⊢
    rcases Nat.lt_or_ge u (nth h p.length) with h6 | h6
    · have hne : extF R n L f (p ++ [u]) (afterF R p bl) ≠ [] := by
        intro e
        have := hx.len
        rw [e] at this
        simp at this; omega
      exact .inr (LtL.of_pre (extF_pre L f _ _ hne) (by rw [hx.len]; omega) he h6)
    · obtain rfl : u = nth h p.length := by omega
      have he' : ∀ i, i < (p ++ [nth h p.length]).length → nth (p ++ [nth h p.length]) i = nth h i := by
        intro i hi
        rw [List.length_append, List.length_singleton] at hi
        rw [nth_snoc]
        split
        · exact he i (by assumption)
        · rw [if_pos (by omega)]
          rw [show i = p.length by omega]
      match f with
      | 0 =>
        rw [extF]
        exact .inl (nth_ext (by rw [hh.len]; simp; omega) he')
      | f + 1 =>
        exact ext_min ha hh hL f _ _ (hp.step ha h3 (by omega)).1 (by simp; omega) he'
theorem hole_pair (ha : Ady n R) {L : Nat} {h : List Nat} (hh : HoleL R n L h) : nth h 0 < nth h 1 ∧ GR R (nth h 0) (nth h 1) := by
  have h4 := hh.four
  exact ⟨hh.min 1 (by omega) (by omega), ha.sym _ _ ((hh.adj 1 0 (by omega) (by omega)).2 (by omega))⟩
theorem scT_min (ha : Ady n R) {L : Nat} {h : List Nat} (hh : HoleL R n L h) (hL : ∀ m q, HoleL R n m q → L ≤ m) : scT R n L (nth h 0) (nth h 1) ≠ [] ∧ LeL (scT R n L (nth h 0) (nth h 1)) h := by
  have h4 := hh.four
  obtain ⟨p1, p2⟩ := hole_pair ha hh
  have hp := pt_two ha p1 p2
  obtain ⟨m, rfl⟩ : ∃ m, L = m + 3 := ⟨L - 3, by omega⟩
  have he : ∀ i, i < [nth h 0, nth h 1].length → nth [nth h 0, nth h 1] i = nth h i := by
    intro i hi
    simp at hi
    rcases (show i = 0 ∨ i = 1 by omega) with rfl | rfl <;> rfl
  have hok := ok_next ha hh hL hp (by simp) he
  have hx := ext_hole ha h4 m _ _ hp (by simp; omega) ⟨_, hh.lt _ (by simp), hok⟩
  have hm := ext_min ha hh hL m _ _ hp (by simp; omega) he
  unfold scT
  rw [if_pos (by rw [Bool.and_eq_true, decide_eq_true_eq]; exact ⟨p1, p2⟩), show m + 3 - 2 = m + 1 by omega]
  refine ⟨fun e => ?_, hm⟩
  have := hx.len
  rw [e] at this
  simp at this
theorem scT_pre {L s t : Nat} (h : scT R n L s t ≠ []) : nth (scT R n L s t) 0 = s ∧ nth (scT R n L s t) 1 = t := by
  unfold scT at h ⊢
  split at h
  · rename_i hc
    rw [if_pos hc]
    exact ⟨extF_pre L _ _ _ h 0 (by simp), extF_pre L _ _ _ h 1 (by simp)⟩
  · exact absurd rfl h
theorem firstNE_first {g : Nat → List Nat} {k : Nat} (hk : k < n) (h : g k ≠ []) : ∃ m, m ≤ k ∧ firstNE ((List.range n).map g) = g m ∧ g m ≠ [] := by
  obtain ⟨m, h1, h2⟩ := least (P := fun u => g u ≠ []) h
  have hm : m ≤ k := by
    rcases Nat.lt_or_ge k m with h3 | h3
    · exact absurd h (h2 k h3)
    · exact h3
  exact ⟨m, hm, firstNE_at (fun j hj => by have := h2 j hj; simpa using this) h1 (by omega), h1⟩
/-- shortestCycle answers the first of the shortest cycles. -/
theorem sc_min (ha : Ady n R) {L : Nat} {h : List Nat} (hh : HoleL R n L h) (hL : L = cylF R n) : LeL (scF R n) h := by
  have h4 := hh.four
  have hmin : ∀ m q, HoleL R n m q → L ≤ m := fun m q hq => by rw [hL]; exact (hole_cyl ha hq).2
  have h0 : cylF R n ≠ 0 := (hole_cyl ha hh).1
  unfold scF
  rw [if_neg h0, ← hL]
  obtain ⟨k1, k2⟩ := scT_min ha hh hmin
  obtain ⟨t, t1, t2, t3⟩ := firstNE_first (g := scT R n L (nth h 0)) (hh.lt 1 (by omega)) k1
  have hrow : scRow R n L (nth h 0) ≠ [] := by unfold scRow; rw [t2]; exact t3
  obtain ⟨s, s1, s2, s3⟩ := firstNE_first (g := scRow R n L) (hh.lt 0 (by omega)) hrow
  rw [s2]
  have hsc := sc_some ha h0
  have hlen := (sc_hole ha hsc).len
  unfold scF at hlen
  rw [if_neg h0, ← hL, s2] at hlen
  rcases Nat.lt_or_ge s (nth h 0) with h5 | h5
  · have hpre : nth (scRow R n L s) 0 = s := by
      unfold scRow at s3 ⊢
      refine firstNE_prop (P := fun l => nth l 0 = s) (fun x hx hxn => ?_) s3
      rw [List.mem_map] at hx
      obtain ⟨t, _, rfl⟩ := hx
      exact (scT_pre hxn).1
    exact .inr ⟨0, by omega, fun j hj => by omega, by rw [hpre]; exact h5⟩
  · obtain rfl : s = nth h 0 := by omega
    unfold scRow at hlen ⊢
    rw [t2] at hlen ⊢
    obtain ⟨p0, p1⟩ := scT_pre t3
    rcases Nat.lt_or_ge t (nth h 1) with h6 | h6
    · exact .inr ⟨1, by omega, fun j hj => by obtain rfl : j = 0 := by omega
                                              exact p0, by rw [p1]; exact h6⟩
    · obtain rfl : t = nth h 1 := by omega
      exact k2
theorem nth_map_range {f : Nat → Nat} {L i : Nat} (h : i < L) : nth ((List.range L).map f) i = f i := by
  rw [nth_eq (by simpa using h)]; simp
/-- A cycle read backwards. -/
theorem HoleL.back (ha : Ady n R) {L : Nat} {p : List Nat} (h : HoleL R n L p) : HoleL R n L ((List.range L).map fun i => if i = 0 then nth p 0 else nth p (L - i)) := by
  have h4 := h.four
  have key : ∀ i, i < L → nth ((List.range L).map fun i => if i = 0 then nth p 0 else nth p (L - i)) i = if i = 0 then nth p 0 else nth p (L - i) := fun i hi => nth_map_range hi
  refine ⟨h4, by simp, fun i hi => ?_, fun i h0 hi => ?_, fun i j hji hi => ?_, fun i j hji hi => ?_⟩
  · rw [key i hi]
    split
    · exact h.lt 0 (by omega)
    · exact h.lt _ (by omega)
  · rw [key i hi, key 0 (by omega), if_pos rfl, if_neg (by omega)]
    exact h.min _ (by omega) (by omega)
  · rw [key i hi, key j (by omega), if_neg (by omega)]
    split
    · have := h.min (L - i) (by omega) (by omega); omega
    · exact fun e => h.dis (L - j) (L - i) (by omega) (by omega) e.symm
  · rw [key i hi, key j (by omega), if_neg (by omega)]
    split
    · rename_i h5
      rw [h.adj (L - i) 0 (by omega) (by omega)]; omega
    · constructor
      · intro g
        have := (h.adj (L - j) (L - i) (by omega) (by omega)).1 (ha.sym _ _ g); omega
      · intro g
        exact ha.sym _ _ ((h.adj (L - j) (L - i) (by omega) (by omega)).2 (by omega))
/-- Its second vertex is less than its last one. -/
theorem sc_turn (ha : Ady n R) (h0 : scF R n ≠ []) : nth (scF R n) 1 < nth (scF R n) (cylF R n - 1) := by
  have hh := sc_hole ha h0
  have h4 := hh.four
  have hm := sc_min ha (hh.back ha) rfl
  generalize cylF R n = L at *
  have hd := hh.dis (L - 1) 1 (by omega) (by omega)
  have key : ∀ i, i < L → nth ((List.range L).map fun i => if i = 0 then nth (scF R n) 0 else nth (scF R n) (L - i)) i = if i = 0 then nth (scF R n) 0 else nth (scF R n) (L - i) := fun i hi => nth_map_range hi
  refine Classical.byContradiction fun hx => ?_
  have hlt : nth (scF R n) (L - 1) < nth (scF R n) 1 := by omega
  rcases hm with he | ⟨i, hi, e1, l1⟩
  · have h1 := congrArg (fun l => nth l 1) he
    have h2 := key 1 (by omega)
    rw [if_neg (by omega)] at h2
    have h3 := h1.trans h2
    omega
  · rw [hh.len] at hi
    rcases Nat.eq_zero_or_pos i with rfl | hi0
    · rw [key 0 (by omega), if_pos rfl] at l1; omega
    · rcases Nat.lt_or_ge 1 i with h5 | h5
      · have := e1 1 h5
        rw [key 1 (by omega), if_neg (by omega)] at this; omega
      · obtain rfl : i = 1 := by omega
        rw [key 1 (by omega), if_neg (by omega)] at l1; omega
end
end Go.Proofs.Ytkiahnffepbgpaa
namespace Go.Proofs.Ytkiahnffepbgpaa
section
variable {n : Nat} {es : List Nat}
theorem bits_list (hn : n ≤ 32) : ∀ (l : List Nat) (S : Nat), l.Nodup → S < 2 ^ n → (∀ u, S.testBit u = true ↔ u ∈ l) → bitsOf n S = l.length
  | [], S, _, _, hm => by
    have : S = 0 := by
      refine Classical.byContradiction fun hne => ?_
      obtain ⟨u, hu⟩ := nz_bit hne
      have := (hm u).1 hu; cases this
    subst this; exact bitsOf_zero n
  | v :: r, S, hd, hS, hm => by
    rw [List.nodup_cons] at hd
    have hv : S.testBit v = true := (hm v).2 (by simp)
    have hvn := testBit_lt hS hv
    have hS32 := lt32_2 hn hS
    have hdr := drop_bit hS32 (show v < 32 by omega)
    have hS' : andn S (2 ^ v) < 2 ^ n := Nat.lt_of_le_of_lt Nat.and_le_left hS
    have ih := bits_list hn r (andn S (2 ^ v)) hd.2 hS' (fun u => by
      rw [hdr, hm, List.mem_cons]
      constructor
      · rintro ⟨h1 | h1, h2⟩
        · exact absurd h1 h2
        · exact h1
      · intro h1; exact ⟨.inr h1, fun e => hd.1 (e ▸ h1)⟩)
    have h1 := bits_drop hS32 (show v < 32 by omega) hvn hv
    have h2 := bits_or_le (n := n) (andn S (2 ^ v)) v
    have h3 : andn S (2 ^ v) ||| 2 ^ v = S := by
      apply Nat.eq_of_testBit_eq
      intro u
      rw [Bool.eq_iff_iff, or_bit, hdr]
      constructor
      · rintro (h | rfl)
        · exact h.1
        · exact hv
      · intro h
        by_cases e : u = v
        · exact .inr e
        · exact .inl ⟨h, e⟩
    rw [h3] at h2
    rw [List.length_cons]; omega
theorem nodup_of {l : List Nat} (h : ∀ i j, j < i → i < l.length → nth l j < nth l i) : l.Nodup := by
  rw [List.nodup_iff_pairwise_ne, List.pairwise_iff_getElem]
  intro i j hi hj hij e
  have := h j i hij hj
  rw [nth_eq hi, nth_eq hj] at this
  omega
theorem ClqL.bits (hn : n ≤ 32) {l : List Nat} {c : Nat} (h : ClqL n es l c) : bitsOf n c = l.length := bits_list hn l c (nodup_of h.inc) h.cl h.mem
theorem ClqL.ext (hn : n ≤ 32) {l : List Nat} {c : Nat} (h : ClqL n es l c) : Ext n es 0 (linkOf es) l.length :=
  ⟨c, h.lk, h.clq, by rw [h.bits hn]; exact Nat.le_refl _, by simpa using h.cov⟩
theorem ClqL.len_le (hn : n ≤ 32) {l : List Nat} {c : Nat} (h : ClqL n es l c) : l.length ≤ n := by
  rw [← h.bits hn]; exact bitsOf_le n c
/-- What may still be taken is there. -/
theorem grdy_has (hn : n ≤ 32) (hb : ∀ e ∈ es, e < 2 ^ n) (m : Nat) : ∀ k, k ≤ n → ∀ u, k ≤ u → (linkOf es).testBit u = true → (∀ a, (grdy n es m k).2.1.testBit a = true → (adj es a).testBit u = true) → (grdy n es m k).2.2.testBit u = true
  | 0, _, u, _, hl, _ => by rw [grdy]; exact hl
  | k + 1, hk, u, hu, hl, ha => by
    have hp := (grdy_pre hn hb m k (by omega)).1
    have r32 := lt32_2 hn hp.rl
    have hdr := drop_bit r32 (show k < 32 by omega)
    have ih := grdy_has hn hb m k (by omega) u (by omega) hl
    rw [grdy] at ha ⊢
    by_cases hrk : (grdy n es m k).2.2.testBit k = true
    · rw [if_pos hrk] at ha ⊢
      split
      · rename_i hc
        rw [if_pos hc] at ha
        simp only at ha ⊢
        rw [Nat.testBit_and, Bool.and_eq_true, hdr]
        exact ⟨⟨ih fun a h => ha a ((or_bit _ _ _).2 (.inl h)), by omega⟩, ha k ((or_bit _ _ _).2 (.inr rfl))⟩
      · rename_i hc
        rw [if_neg hc] at ha
        simp only at ha ⊢
        exact (hdr u).2 ⟨ih ha, by omega⟩
    · rw [if_neg hrk] at ha ⊢
      exact ih ha
theorem LtL.grow {a b : List Nat} (h : LtL a b) (v : Nat) : LtL (a ++ [v]) b := by
  obtain ⟨i, hi, e1, l1⟩ := h
  refine ⟨i, by simp; omega, fun j hj => ?_, ?_⟩
  · rw [nth_snoc, if_pos (by omega)]; exact e1 j hj
  · rw [nth_snoc, if_pos hi]; exact l1
theorem nth_drop {l : List Nat} {j i : Nat} : nth (l.drop j) i = nth l (j + i) := by simp [nth, List.getD]
/-- The greedy search finds the first one. -/
theorem grdy_lt (hn : n ≤ 32) (hb : ∀ e ∈ es, e < 2 ^ n) {m : Nat} {q : List Nat} {d : Nat} (hq : ClqL n es q d) (hm : q.length = m) (hE : Ext n es 0 (linkOf es) m) : ∀ k, k ≤ n →
    LtL (grdy n es m k).1 q ∨ ((∀ i, i < (grdy n es m k).1.length → nth (grdy n es m k).1 i = nth q i) ∧ ((grdy n es m k).1.length < m → k ≤ nth q (grdy n es m k).1.length))
  | 0, _ => .inr ⟨fun i hi => by simp [grdy] at hi, fun _ => Nat.zero_le _⟩
  | k + 1, hk => by
    have hs := grdy_spec hn hb hE k (by omega)
    have hh := grdy_has hn hb m k (by omega)
    have ih := grdy_lt hn hb hq hm hE k (by omega)
    rw [grdy]
    generalize grdy n es m k = t at hs hh ih ⊢
    obtain ⟨l, c, r⟩ := t
    simp only at hs hh ih ⊢
    have hkn : k < n := by omega
    have r32 : r < 2 ^ 32 := lt32_2 hn hs.pre.rl
    have hdr := drop_bit r32 (show k < 32 by omega)
    rcases ih with ih | ⟨i1, i2⟩
    · left
      split
      · split
        · exact ih.grow k
        · exact ih
      · exact ih
    by_cases hjk : l.length < m ∧ nth q l.length = k
    · obtain ⟨hj, hjk⟩ := hjk
      have hcq : ∀ a, c.testBit a = true → ∃ i, i < l.length ∧ a = nth q i := by
        intro a h
        obtain ⟨i, hi, he⟩ := mem_nth ((hs.mem a).1 h)
        exact ⟨i, hi, by rw [← he]; exact i1 i hi⟩
      have hin : ∀ i, i < m → d.testBit (nth q i) = true := fun i hi => (hq.mem _).2 (nth_mem (by omega))
      have hadj : ∀ a i, c.testBit a = true → l.length ≤ i → i < m → (adj es a).testBit (nth q i) = true := by
        intro a i ha h1 h2
        obtain ⟨i', h3, rfl⟩ := hcq a ha
        have := hq.inc i i' (by omega) (by omega)
        exact hq.clq _ _ (hin i' (by omega)) (hin i h2) (by omega)
      have hrk : r.testBit k = true := by
        refine hh k (Nat.le_refl _) ?_ fun a ha => ?_
        · rw [← hjk]; exact hq.lk _ (hin _ hj)
        · rw [← hjk]; exact hadj a _ ha (Nat.le_refl _) hj
      have hck : c ||| 2 ^ k < 2 ^ n := Nat.or_lt_two_pow hs.pre.cl (Nat.pow_lt_pow_right (by omega) hkn)
      have hSb : ∀ u, (andn d (c ||| 2 ^ k)).testBit u = true ↔ u ∈ q.drop (l.length + 1) := by
        intro u
        rw [testBit_andn (lt32_2 hn hck) (lt32_2 hn hq.cl), Bool.and_eq_true, Bool.not_eq_true', ← Bool.not_eq_true, or_bit]
        constructor
        · rintro ⟨h1, h2⟩
          obtain ⟨i, hi, rfl⟩ := mem_nth ((hq.mem u).1 h1)
          have hil : l.length < i := by
            rcases Nat.lt_trichotomy i l.length with h3 | h3 | h3
            · exact absurd (.inl ((hs.mem _).2 (by rw [← i1 i h3]; exact nth_mem h3))) h2
            · exact absurd (.inr (by rw [h3]; exact hjk)) h2
            · exact h3
          have : nth q i = nth (q.drop (l.length + 1)) (i - (l.length + 1)) := by rw [nth_drop]; congr 1; omega
          rw [this]
          exact nth_mem (by simp; omega)
        · intro h1
          obtain ⟨i, hi, rfl⟩ := mem_nth h1
          rw [List.length_drop] at hi
          rw [nth_drop]
          refine ⟨hin _ (by omega), ?_⟩
          rintro (h2 | h2)
          · obtain ⟨i', h3, h4⟩ := hcq _ h2
            have := hq.inc (l.length + 1 + i) i' (by omega) (by omega); omega
          · have := hq.inc (l.length + 1 + i) l.length (by omega) (by omega); omega
      have hSn : andn d (c ||| 2 ^ k) < 2 ^ n := Nat.lt_of_le_of_lt Nat.and_le_left hq.cl
      have hSd : sub (andn d (c ||| 2 ^ k)) d := fun u hu => by
        rw [testBit_andn (lt32_2 hn hck) (lt32_2 hn hq.cl), Bool.and_eq_true] at hu; exact hu.1
      have hx : extB n es (c ||| 2 ^ k) (andn r (2 ^ k) &&& adj es k) (m - l.length - 1) = true := by
        refine (extB_iff (hs.pre.take hn (fun u hu => hu) hrk).rl).2 ⟨andn d (c ||| 2 ^ k), fun u hu => ?_, fun a b h1 h2 h3 => hq.clq a b (hSd a h1) (hSd b h2) h3, ?_, ?_⟩
        · obtain ⟨i, hi, rfl⟩ := mem_nth ((hSb u).1 hu)
          rw [List.length_drop] at hi
          rw [nth_drop]
          have hlt := hq.inc (l.length + 1 + i) l.length (by omega) (by omega)
          rw [Nat.testBit_and, Bool.and_eq_true, hdr]
          refine ⟨⟨hh _ (by omega) (hq.lk _ (hin _ (by omega))) fun a ha => hadj a _ ha (by omega) (by omega), by omega⟩, ?_⟩
          exact hq.clq _ _ (by rw [← hjk]; exact hin _ hj) (hin _ (by omega)) (by omega)
        · rw [bits_list hn _ _ ((List.drop_sublist _ _).nodup (nodup_of hq.inc)) hSn hSb, List.length_drop]; omega
        · rintro ⟨e, he, hsub⟩
          refine hq.cov ⟨e, he, fun u hu => hsub u ?_⟩
          rw [Nat.testBit_or, Bool.or_eq_true]
          cases hcu : (c ||| 2 ^ k).testBit u with
          | true => exact .inl rfl
          | false => exact .inr (by rw [testBit_andn (lt32_2 hn hck) (lt32_2 hn hq.cl), hu, hcu]; rfl)
      right
      rw [if_pos hrk, if_pos (by rw [Bool.and_eq_true, decide_eq_true_eq]; exact ⟨hj, hx⟩)]
      simp only
      refine ⟨fun i hi => ?_, fun h => ?_⟩
      · rw [List.length_append, List.length_singleton] at hi
        rw [nth_snoc]
        split
        · exact i1 i (by assumption)
        · rw [if_pos (by omega), ← hjk]
          congr 1; omega
      · rw [List.length_append, List.length_singleton] at h ⊢
        have := hq.inc (l.length + 1) l.length (by omega) (by omega)
        omega
    · have hge : l.length < m → k + 1 ≤ nth q l.length := fun h => by
        have := i2 h
        have : nth q l.length ≠ k := fun e => hjk ⟨h, e⟩
        omega
      split
      · split
        · rename_i hc
          left
          rw [Bool.and_eq_true, decide_eq_true_eq] at hc
          refine ⟨l.length, by simp, fun j hj => ?_, ?_⟩
          · simp only; rw [nth_snoc, if_pos hj]; exact i1 j hj
          · simp only; rw [nth_snoc, if_neg (by omega), if_pos rfl]
            have := hge hc.1; omega
        · exact .inr ⟨i1, hge⟩
      · exact .inr ⟨i1, hge⟩
/-- smallestClique answers the first of the smallest ones. -/
theorem clF_min (hn : n ≤ 32) (hb : ∀ e ∈ es, e < 2 ^ n) (h0 : linkOf es ≠ 0) {most : Nat} {q : List Nat} {d : Nat} (hq : ClqL n es q d) (hm : q.length ≤ most) :
    clF n es most ≠ [] ∧ (clF n es most).length ≤ q.length ∧ ((clF n es most).length = q.length → LeL (clF n es most) q) := by
  have hq3 := hq.three hn hb h0
  have hfind : ∀ t : Nat, t ≤ most → 3 ≤ t → Ext n es 0 (linkOf es) t → ∃ m, m ≤ t ∧ clLen n es most = some m ∧ 3 ≤ m ∧ Ext n es 0 (linkOf es) m := by
    intro t h1 h3 hE
    obtain ⟨m, k1, k2, k3, k4⟩ := find_some (p := fun m => decide (3 ≤ m) && extB n es 0 (linkOf es) m) (n := most + 1) (v := t) (by omega) (by rw [Bool.and_eq_true, decide_eq_true_eq]; exact ⟨h3, (extB_iff (linkOf_lt hb)).2 hE⟩)
    rw [Bool.and_eq_true, decide_eq_true_eq] at k3
    refine ⟨m, ?_, k1, k3.1, (extB_iff (linkOf_lt hb)).1 k3.2⟩
    rcases Nat.lt_or_ge t m with h4 | h4
    · have := k4 t h4
      rw [Bool.and_eq_false_iff] at this
      rcases this with h5 | h5
      · rw [decide_eq_false_iff_not] at h5; omega
      · rw [(extB_iff (linkOf_lt hb)).2 hE] at h5; cases h5
    · exact h4
  obtain ⟨m, m1, m2, m3, mE⟩ := hfind q.length hm hq3 (hq.ext hn)
  have hs := grdy_spec hn hb mE n (Nat.le_refl _)
  have hg := hs.done
  have hg3 := hg.three hn hb h0
  have hlen := hs.len
  have hgm : (grdy n es m n).1.length = m := by
    obtain ⟨m', k1, k2, _, _⟩ := hfind (grdy n es m n).1.length (by omega) hg3 (hg.ext hn)
    rw [m2] at k2
    injection k2 with k2
    omega
  have hcl : clF n es most = (grdy n es m n).1 := by
    unfold clF
    rw [if_neg h0, m2]
  rw [hcl]
  refine ⟨fun e => by rw [e] at hg3; simp at hg3, by omega, fun he => ?_⟩
  rcases grdy_lt hn hb hq (by omega : q.length = m) mE n (Nat.le_refl _) with h1 | ⟨h1, _⟩
  · exact .inr h1
  · exact .inl (nth_ext (by omega) h1)
end
end Go.Proofs.Ytkiahnffepbgpaa
namespace Go.Proofs.Ytkiahnffepbgpaa

/-- The reference's listed. -/
def listedB (R : List Nat) (l : List Nat) : Bool :=
  ((List.range l.length).all fun i => decide (nth l 0 ≤ nth l i)) &&
    (if decide (4 ≤ l.length) && !(nth R (nth l 0)).testBit (nth l 2) then decide (nth l 1 < nth l (l.length - 1)) else (List.range (l.length - 1)).all fun i => decide (nth l i ≤ nth l (i + 1)))
def goodB (R : List Nat) (n : Nat) (es : List Nat) (l : List Nat) : Bool := chkB R n es (ints l) && listedB R l
/-- The reference's search, f vertices lacking. -/
def srchF (G : List Nat → Bool) (n : Nat) : Nat → List Nat → Option (List Nat)
  | 0, p => if G p then some p else none
  | f + 1, p => (List.range n).findSome? fun v => srchF G n f (p ++ [v])
def robsF (G : List Nat → Bool) (n : Nat) : Option (List Nat) := (List.range (n + 1)).findSome? fun m => if 3 ≤ m then srchF G n m [] else none

theorem findSome_at {α : Type} {g : Nat → Option α} {n k : Nat} {x : α} (h1 : ∀ j, j < k → g j = none) (h2 : g k = some x) (h3 : k < n) : (List.range n).findSome? g = some x := by
  rw [List.findSome?_eq_some_iff]
  refine ⟨List.range k, k, List.range' (k + 1) (n - (k + 1)), ?_, h2, fun a ha => h1 a (by simpa using ha)⟩
  rw [List.range_eq_range', List.range_eq_range', ← List.range'_succ, show n - (k + 1) + 1 = n - k by omega]
  have := List.range'_append (s := 0) (m := k) (n := n - k) (step := 1)
  simp only [Nat.one_mul, Nat.zero_add] at this
  rw [this, show k + (n - k) = n by omega]
theorem findSome_none {α : Type} {g : Nat → Option α} {n : Nat} (h : ∀ j, j < n → g j = none) : (List.range n).findSome? g = none := by
  rw [List.findSome?_eq_none_iff]; intro x hx; exact h x (by simpa using hx)
section
variable {G : List Nat → Bool} {n : Nat}
theorem srch_none : ∀ (f : Nat) (p : List Nat), (∀ l, l.length = p.length + f → (∀ i, i < l.length → nth l i < n) → (∀ i, i < p.length → nth l i = nth p i) → (∀ i, i < p.length → nth p i < n) → G l = false) → (∀ i, i < p.length → nth p i < n) → srchF G n f p = none
  | 0, p, h, hp => by
    rw [srchF, h p rfl hp (fun _ _ => rfl) hp]; rfl
  | f + 1, p, h, hp => by
    rw [srchF]
    refine findSome_none fun v hv => srch_none f _ (fun l hl hlt he _ => h l (by simp at hl; omega) hlt (fun i hi => ?_) hp) (fun i hi => ?_)
    · rw [he i (by simp; omega), nth_snoc, if_pos hi]
    · rw [nth_snoc]
      split
      · exact hp i (by assumption)
      · split
        · exact hv
        · omega
/-- The search answers the first good list. -/
theorem srch_some {o : List Nat} (hG : G o = true) (ho : ∀ i, i < o.length → nth o i < n) (hmin : ∀ l, l.length = o.length → G l = true → (∀ i, i < l.length → nth l i < n) → LeL o l) : ∀ (f : Nat) (p : List Nat), o.length = p.length + f → (∀ i, i < p.length → nth o i = nth p i) → srchF G n f p = some o
  | 0, p, hl, he => by
    have : p = o := nth_ext (by omega) fun i hi => (he i hi).symm
    subst this
    rw [srchF, hG]; rfl
  | f + 1, p, hl, he => by
    have hpn : ∀ i, i < p.length → nth p i < n := fun i hi => by rw [← he i hi]; exact ho i (by omega)
    rw [srchF]
    refine findSome_at (k := nth o p.length) (fun v hv => ?_) (srch_some hG ho hmin f _ (by simp; omega) fun i hi => ?_) (ho _ (by omega))
    · have hvn : v < n := by have := ho p.length (by omega); omega
      refine srch_none f _ (fun l hl2 hlt he2 _ => ?_) (fun i hi => ?_)
      · rw [← Bool.not_eq_true]
        intro hgl
        rw [List.length_append, List.length_singleton] at hl2
        refine (hmin l (by omega) hgl hlt).not (by omega) ⟨p.length, by omega, fun j hj => ?_, ?_⟩
        · rw [he2 j (by simp; omega), nth_snoc, if_pos hj, he j hj]
        · rw [he2 p.length (by simp), nth_snoc, if_neg (by omega), if_pos rfl]; exact hv
      · rw [nth_snoc]
        split
        · exact hpn i (by assumption)
        · split
          · exact hvn
          · omega
    · rw [List.length_append, List.length_singleton] at hi
      rw [nth_snoc]
      split
      · exact he i (by assumption)
      · rw [if_pos (by omega)]
        congr 1; omega
end
section
variable {n : Nat} {es : List Nat}
theorem chk_mem {l : List Nat} (h : chkB (adjRow n es) n es (ints l) = true) : (∀ i, i < l.length → nth l i < n) ∧ ∀ i j, j < i → i < l.length → nth l i ≠ nth l j := by
  rw [chkB, Bool.and_eq_true] at h
  have h1 := h.1
  rw [okTo, List.all_eq_true] at h1
  have key : ∀ i, i < l.length → okAt n (ints l) i = true := fun i hi => h1 i (by rw [List.mem_range, ints_length]; exact hi)
  constructor
  · intro i hi
    have := key i hi
    simp only [okAt, Bool.and_eq_true, decide_eq_true_eq] at this
    rw [inth_ints hi] at this
    omega
  · intro i j hj hi e
    have := key i hi
    simp only [okAt, Bool.and_eq_true, decide_eq_true_eq, List.all_eq_true] at this
    have := this.2.2 j (by simpa using hj)
    rw [inth_ints hi, inth_ints (by omega), e] at this
    simp at this
theorem set_mem {l : List Nat} (hok : okTo n (ints l) (ints l).length = true) : ∀ u, (setTo (ints l) (ints l).length).testBit u = true ↔ u ∈ l := by
  intro u
  have h := setTo_bit hok (v := (u : Int)) (by omega)
  rw [Int.toNat_natCast] at h
  rw [h, List.any_eq_true]
  constructor
  · rintro ⟨i, hi, he⟩
    rw [List.mem_range, ints_length] at hi
    rw [inth_ints hi, beq_iff_eq] at he
    have : nth l i = u := by omega
    rw [← this]; exact nth_mem hi
  · intro hu
    obtain ⟨i, hi, he⟩ := mem_nth hu
    refine ⟨i, by rw [List.mem_range, ints_length]; exact hi, ?_⟩
    rw [inth_ints hi, he]; simp
/-- A good list is a chordless cycle, or a clique that no edge contains. -/
theorem good_cases (hn : n ≤ 32) (hb : ∀ e ∈ es, e < 2 ^ n) {l : List Nat} (h : goodB (adjRow n es) n es l = true) : HoleL (adjRow n es) n l.length l ∨ (linkOf es ≠ 0 ∧ ∃ c, ClqL n es l c) := by
  rw [goodB, Bool.and_eq_true] at h
  obtain ⟨hc, hl⟩ := h
  obtain ⟨hlt, hdis⟩ := chk_mem hc
  have ha := ady hn hb
  rw [chkB, Bool.and_eq_true] at hc
  obtain ⟨hok, hc⟩ := hc
  rw [listedB, Bool.and_eq_true, List.all_eq_true] at hl
  obtain ⟨hmin, hl⟩ := hl
  have hmin' : ∀ i, 0 < i → i < l.length → nth l 0 < nth l i := fun i h0 hi => by
    have := hmin i (by simpa using hi)
    rw [decide_eq_true_eq] at this
    have := hdis i 0 h0 hi
    omega
  by_cases hcli : cliTo (adjRow n es) (ints l) (ints l).length = true
  · right
    rw [if_pos hcli] at hc
    rw [cliTo, Bool.and_eq_true, decide_eq_true_eq, ints_length, List.all_eq_true] at hcli
    have hgr : ∀ i j, j < i → i < l.length → GR (adjRow n es) (nth l i) (nth l j) := by
      intro i j hj hi
      have h1 := hcli.2 i (by simpa using hi)
      rw [cliRow, List.all_eq_true] at h1
      have h2 := h1 j (by simpa using hj)
      rwa [link_list hi (by omega)] at h2
    have h3 := hcli.1
    have hasc : (List.range (l.length - 1)).all (fun i => decide (nth l i ≤ nth l (i + 1))) = true := by
      rw [if_neg] at hl
      · exact hl
      · rw [Bool.and_eq_true, not_and, decide_eq_true_eq, Bool.not_eq_true']
        intro _ h4
        have := ha.sym _ _ (hgr 2 0 (by omega) (by omega))
        unfold GR at this
        rw [this] at h4; cases h4
    rw [List.all_eq_true] at hasc
    have hstep : ∀ i, i + 1 < l.length → nth l i < nth l (i + 1) := fun i hi => by
      have := hasc i (by rw [List.mem_range]; omega)
      rw [decide_eq_true_eq] at this
      have := hdis (i + 1) i (by omega) hi
      omega
    have hinc : ∀ i j, j < i → i < l.length → nth l j < nth l i := by
      intro i
      induction i with
      | zero => intro j hj; omega
      | succ i ih =>
        intro j hj hi
        have h1 := hstep i hi
        rcases Nat.lt_or_ge j i with h2 | h2
        · have := ih j h2 (by omega); omega
        · obtain rfl : j = i := by omega
          exact h1
    have hmem := set_mem hok
    have hcl := setTo_lt hok
    generalize setTo (ints l) (ints l).length = c at *
    have hlk : sub c (linkOf es) := by
      intro u hu
      obtain ⟨i, hi, rfl⟩ := mem_nth ((hmem u).1 hu)
      have hx : ∃ j, j < l.length ∧ GR (adjRow n es) (nth l i) (nth l j) := by
        rcases Nat.eq_zero_or_pos i with rfl | h0
        · exact ⟨1, by omega, ha.sym _ _ (hgr 1 0 (by omega) (by omega))⟩
        · exact ⟨0, by omega, hgr i 0 h0 hi⟩
      obtain ⟨j, _, hg⟩ := hx
      obtain ⟨_, e, he, h1, _⟩ := (gr_adj hn hb).1 hg
      rw [testBit_linkOf, List.any_eq_true]
      exact ⟨e, he, h1⟩
    refine ⟨fun h0 => ?_, c, hmem, fun x hx => ?_, hinc, ?_, ?_, hlk, hcl⟩
    · have h1 := hlk (nth l 0) ((hmem _).2 (nth_mem (by omega)))
      rw [h0] at h1; simp at h1
    · obtain ⟨i, hi, rfl⟩ := mem_nth hx; exact hlt i hi
    · refine (clq_gr hn hb hcl).2 fun a b h1 h2 h4 => ?_
      obtain ⟨i, hi, rfl⟩ := mem_nth ((hmem a).1 h1)
      obtain ⟨j, hj, rfl⟩ := mem_nth ((hmem b).1 h2)
      rcases Nat.lt_trichotomy i j with h5 | h5 | h5
      · exact ha.sym _ _ (hgr j i h5 hj)
      · subst h5; exact absurd rfl h4
      · exact hgr i j h5 hi
    · rintro ⟨e, he, hs⟩
      rw [Bool.not_eq_true', List.any_eq_false] at hc
      exact hc e he ((holds_iff (lt32_2 hn hcl) (lt32_of hn hb e he)).2 hs)
  · left
    rw [if_neg hcli] at hc
    rw [cycTo, Bool.and_eq_true, decide_eq_true_eq, ints_length, List.all_eq_true] at hc
    refine ⟨hc.1, rfl, hlt, hmin', hdis, fun i j hj hi => ?_⟩
    have h1 := hc.2 i (by simpa using hi)
    rw [cycRow, List.all_eq_true] at h1
    have h2 := h1 j (by simpa using hj)
    rw [link_list hi (by omega), beq_iff_eq] at h2
    unfold GR
    rw [h2, nearL, ints_length]
    simp
theorem good_hole (hn : n ≤ 32) (hb : ∀ e ∈ es, e < 2 ^ n) {L : Nat} {l : List Nat} (h : HoleL (adjRow n es) n L l) (ht : nth l 1 < nth l (L - 1)) : goodB (adjRow n es) n es l = true := by
  have h4 := h.four
  have ha := ady hn hb
  have hl := h.len
  subst hl
  rw [goodB, chk_hole h, Bool.true_and, listedB, Bool.and_eq_true, List.all_eq_true]
  refine ⟨fun i hi => ?_, ?_⟩
  · rw [decide_eq_true_eq]
    rcases Nat.eq_zero_or_pos i with rfl | h0
    · exact Nat.le_refl _
    · exact Nat.le_of_lt (h.min i h0 (by simpa using hi))
  · have hg : (nth (adjRow n es) (nth l 0)).testBit (nth l 2) = false := by
      rw [← Bool.not_eq_true]
      intro g
      have := (h.adj 2 0 (by omega) (by omega)).1 (ha.sym _ _ g)
      omega
    rw [hg, decide_eq_true h4]
    simpa using ht
theorem good_clq (hn : n ≤ 32) (hb : ∀ e ∈ es, e < 2 ^ n) (h0 : linkOf es ≠ 0) {l : List Nat} {c : Nat} (h : ClqL n es l c) : goodB (adjRow n es) n es l = true := by
  have h3 := h.three hn hb h0
  rw [goodB, chk_clq hn hb h0 h, Bool.true_and, listedB, Bool.and_eq_true, List.all_eq_true]
  refine ⟨fun i hi => ?_, ?_⟩
  · rw [decide_eq_true_eq]
    rcases Nat.eq_zero_or_pos i with rfl | h4
    · exact Nat.le_refl _
    · exact Nat.le_of_lt (h.inc i 0 h4 (by simpa using hi))
  · have hg : (nth (adjRow n es) (nth l 0)).testBit (nth l 2) = true := by
      have h4 := h.inc 2 0 (by omega) (by omega)
      exact (clq_gr hn hb h.cl).1 h.clq _ _ ((h.mem _).2 (nth_mem (by omega))) ((h.mem _).2 (nth_mem (by omega))) (by omega)
    rw [hg, if_neg (by simp), List.all_eq_true]
    intro i hi
    rw [List.mem_range] at hi
    rw [decide_eq_true_eq]
    exact Nat.le_of_lt (h.inc (i + 1) i (by omega) (by omega))
theorem lexLt_iff : ∀ {a b : List Nat}, a.length = b.length → (lexLt a b = true ↔ LtL a b)
  | [], [], _ => by
    rw [lexLt]
    exact ⟨(fun h => by cases h), fun ⟨i, hi, _⟩ => by simp at hi⟩
  | x :: a, y :: b, hl => by
    have hl' : a.length = b.length := by simpa using hl
    have ih := lexLt_iff hl'
    rw [lexLt]
    by_cases h1 : x < y
    · rw [if_pos h1]
      exact ⟨fun _ => ⟨0, by simp, fun j hj => by omega, h1⟩, fun _ => rfl⟩
    · rw [if_neg h1]
      by_cases h2 : y < x
      · rw [if_pos h2]
        refine ⟨(fun h => by cases h), ?_⟩
        rintro ⟨i, hi, e1, l1⟩
        rcases Nat.eq_zero_or_pos i with rfl | h0
        · exact absurd l1 h1
        · have := e1 0 h0
          have : x = y := this
          omega
      · rw [if_neg h2, ih]
        obtain rfl : x = y := by omega
        constructor
        · rintro ⟨i, hi, e1, l1⟩
          refine ⟨i + 1, by simpa using hi, fun j hj => ?_, l1⟩
          cases j with
          | zero => rfl
          | succ j => exact e1 j (by omega)
        · rintro ⟨i, hi, e1, l1⟩
          cases i with
          | zero => exact absurd l1 h1
          | succ i => exact ⟨i, by simpa using hi, fun j hj => e1 (j + 1) (by omega), l1⟩
/-- Two lists of one length can be compared. -/
theorem lex_total : ∀ {a b : List Nat}, a.length = b.length → LtL a b ∨ LeL b a
  | [], [], _ => .inr (.inl rfl)
  | x :: a, y :: b, hl => by
    rcases Nat.lt_trichotomy x y with h | rfl | h
    · exact .inl ⟨0, by simp, fun j hj => by omega, h⟩
    · rcases lex_total (a := a) (b := b) (by simpa using hl) with ⟨i, hi, e1, l1⟩ | rfl | ⟨i, hi, e1, l1⟩
      · refine .inl ⟨i + 1, by simpa using hi, fun j hj => ?_, l1⟩
        cases j with
        | zero => rfl
        | succ j => exact e1 j (by omega)
      · exact .inr (.inl rfl)
      · refine .inr (.inr ⟨i + 1, by simpa using hi, fun j hj => ?_, l1⟩)
        cases j with
        | zero => rfl
        | succ j => exact e1 j (by omega)
    · exact .inr (.inr ⟨0, by simp, fun j hj => by omega, h⟩)
/-- What Obstruction answers is the first good list. -/
theorem obs_first (hn : n ≤ 32) (hb : ∀ e ∈ es, e < 2 ^ n) :
    ((obsF (adjRow n es) n es).2 = true → goodB (adjRow n es) n es (obsF (adjRow n es) n es).1 = true) ∧
    ∀ l, goodB (adjRow n es) n es l = true → (obsF (adjRow n es) n es).2 = true ∧ (obsF (adjRow n es) n es).1.length ≤ l.length ∧ ((obsF (adjRow n es) n es).1.length = l.length → LeL (obsF (adjRow n es) n es).1 l) := by
  have ha := ady hn hb
  have hcl := fun h => clF_ok hn hb (es := es) (most := mostF n (scF (adjRow n es) n)) h
  have hcm := fun (h0 : linkOf es ≠ 0) q d hq hm => clF_min hn hb h0 (most := mostF n (scF (adjRow n es) n)) (q := q) (d := d) hq hm
  have hsl : scF (adjRow n es) n ≠ [] → (scF (adjRow n es) n).length = cylF (adjRow n es) n := fun h => (sc_hole ha h).len
  have hsg : scF (adjRow n es) n ≠ [] → goodB (adjRow n es) n es (scF (adjRow n es) n) = true := fun h => good_hole hn hb (sc_hole ha h) (sc_turn ha h)
  have hsm : ∀ L p, HoleL (adjRow n es) n L p → scF (adjRow n es) n ≠ [] ∧ (scF (adjRow n es) n).length ≤ p.length ∧ ((scF (adjRow n es) n).length = p.length → LeL (scF (adjRow n es) n) p) := by
    intro L p hp
    obtain ⟨h1, h2⟩ := hole_cyl ha hp
    have h3 := sc_some ha h1
    have h4 := hsl h3
    refine ⟨h3, by rw [h4, hp.len]; exact h2, fun he => ?_⟩
    exact sc_min ha hp (by rw [← hp.len, ← he, h4])
  unfold obsF
  generalize hcyc : scF (adjRow n es) n = cyc at *
  generalize hclq : clF n es (mostF n cyc) = cl at *
  unfold pickF
  by_cases hc0 : cl = []
  · rw [if_pos hc0]
    refine ⟨fun h => hsg fun e => by rw [e] at h; simp at h, fun l hl => ?_⟩
    rcases good_cases hn hb hl with h1 | ⟨h0, c, h1⟩
    · obtain ⟨k1, k2, k3⟩ := hsm _ _ h1
      exact ⟨by have := List.length_pos_iff.2 k1; simpa using this, k2, k3⟩
    · have hlm : ¬ l.length ≤ mostF n cyc := fun hm => (hcm h0 l c h1 hm).1 hc0
      unfold mostF at hlm
      split at hlm
      · have := h1.len_le hn; omega
      · rename_i h2
        have := List.length_pos_iff.2 h2
        exact ⟨by simpa using this, by simp only; omega, fun he => by simp only at he; omega⟩
  · rw [if_neg hc0]
    obtain ⟨h0, c, hcc⟩ := hcl hc0
    have hcg := good_clq hn hb h0 hcc
    by_cases hy0 : cyc = []
    · rw [if_pos hy0]
      refine ⟨fun _ => hcg, fun l hl => ?_⟩
      rcases good_cases hn hb hl with h1 | ⟨h0, c, h1⟩
      · exact absurd hy0 (hsm _ _ h1).1
      · have hm : mostF n cyc = n := by unfold mostF; rw [if_pos hy0]
        have := h1.len_le hn
        obtain ⟨_, k2, k3⟩ := hcm h0 l c h1 (by omega)
        exact ⟨rfl, k2, k3⟩
    · rw [if_neg hy0]
      have hm : mostF n cyc = cyc.length := by unfold mostF; rw [if_neg hy0]
      have hyl := hsl hy0
      have hclm : cl.length ≤ cyc.length := by
        rw [← hclq, hm]
        unfold clF
        split
        · simp
        · split
          · rename_i m hfm
            have h5 := List.mem_of_find?_eq_some hfm
            have h6 := List.find?_some hfm
            rw [Bool.and_eq_true] at h6
            have h7 := (grdy_spec hn hb ((extB_iff (linkOf_lt hb)).1 h6.2) n (Nat.le_refl _)).len
            rw [List.mem_range] at h5
            omega
          · simp
      have key : ∀ l, goodB (adjRow n es) n es l = true → cl.length ≤ l.length ∧ (cl.length = l.length → LeL cl l ∨ LeL cyc l) ∧ (∀ L, HoleL (adjRow n es) n L l → cyc.length ≤ l.length ∧ (cyc.length = l.length → LeL cyc l)) := by
        intro l hl
        rcases good_cases hn hb hl with h1 | ⟨h0, c, h1⟩
        · obtain ⟨_, k2, k3⟩ := hsm _ _ h1
          exact ⟨by omega, fun he => .inr (k3 (by omega)), fun L hL => (hsm _ _ hL).2⟩
        · by_cases hlm : l.length ≤ cyc.length
          · obtain ⟨_, k2, k3⟩ := hcm h0 l c h1 (by omega)
            exact ⟨k2, fun he => .inl (k3 he), fun L hL => (hsm _ _ hL).2⟩
          · exact ⟨by omega, fun he => by omega, fun L hL => (hsm _ _ hL).2⟩
      by_cases hlt : cl.length < cyc.length
      · rw [if_pos hlt]
        refine ⟨fun _ => hcg, fun l hl => ?_⟩
        obtain ⟨k1, _, _⟩ := key l hl
        refine ⟨rfl, k1, fun he => ?_⟩
        rcases good_cases hn hb hl with h1 | ⟨h0, c, h1⟩
        · have := (hsm _ _ h1).2.1
          simp only at he; omega
        · exact (hcm h0 l c h1 (by simp only at he; omega)).2.2 he
      · rw [if_neg hlt]
        have heq : cl.length = cyc.length := by omega
        by_cases hll : lexLt cl cyc = true
        · rw [if_pos hll]
          have hll' := (lexLt_iff heq).1 hll
          refine ⟨fun _ => hcg, fun l hl => ?_⟩
          obtain ⟨k1, k2, _⟩ := key l hl
          refine ⟨rfl, k1, fun he => ?_⟩
          rcases k2 he with h1 | h1
          · exact h1
          · exact LeL.trans heq (.inr hll') h1
        · rw [if_neg hll]
          have hle : LeL cyc cl := (lex_total heq).resolve_left fun h => hll ((lexLt_iff heq).2 h)
          refine ⟨fun _ => hsg hy0, fun l hl => ?_⟩
          obtain ⟨k1, k2, _⟩ := key l hl
          refine ⟨rfl, by simp only; omega, fun he => ?_⟩
          rcases k2 (by simp only at he; omega) with h1 | h1
          · exact LeL.trans heq.symm hle h1
          · exact h1
/-- The exhaustive search finds what Obstruction finds. -/
theorem robs_obs (hn : n ≤ 32) (hb : ∀ e ∈ es, e < 2 ^ n) : robsF (goodB (adjRow n es) n es) n = if (obsF (adjRow n es) n es).2 = true then some (obsF (adjRow n es) n es).1 else none := by
  obtain ⟨h1, h2⟩ := obs_first hn hb
  generalize obsF (adjRow n es) n es = o at *
  obtain ⟨o, ok⟩ := o
  simp only at h1 h2 ⊢
  have hin : ∀ l, goodB (adjRow n es) n es l = true → ∀ i, i < l.length → nth l i < n := fun l hl => by
    rw [goodB, Bool.and_eq_true] at hl; exact (chk_mem hl.1).1
  have h3 : ∀ l, goodB (adjRow n es) n es l = true → 3 ≤ l.length := by
    intro l hl
    rcases good_cases hn hb hl with h4 | ⟨h0, c, h4⟩
    · have := h4.four; omega
    · exact h4.three hn hb h0
  unfold robsF
  cases ok with
  | true =>
    rw [if_pos rfl]
    have hg := h1 rfl
    have hon : o.length ≤ n := by
      rw [goodB, Bool.and_eq_true] at hg
      obtain ⟨k1, k2⟩ := chk_mem hg.1
      have hnd : o.Nodup := by
        rw [List.nodup_iff_pairwise_ne, List.pairwise_iff_getElem]
        intro i j hi hj hij e
        refine k2 j i hij hj ?_
        rw [nth_eq hi, nth_eq hj]; exact e.symm
      have hok := hg.1
      rw [chkB, Bool.and_eq_true] at hok
      rw [← bits_list hn o _ hnd (setTo_lt hok.1) (set_mem hok.1)]
      exact bitsOf_le n _
    refine findSome_at (k := o.length) (fun m hm => ?_) ?_ (by omega)
    · split
      · refine srch_none m [] (fun l hl _ _ _ => ?_) (fun i hi => by simp at hi)
        rw [← Bool.not_eq_true]
        intro hgl
        have := (h2 l hgl).2.1
        simp at hl; omega
      · rfl
    · rw [if_pos (h3 o hg)]
      exact srch_some hg (hin o hg) (fun l hl hgl _ => (h2 l hgl).2.2 hl.symm) o.length [] (by simp) (fun i hi => by simp at hi)
  | false =>
    rw [if_neg (by simp)]
    refine findSome_none fun m hm => ?_
    split
    · refine srch_none m [] (fun l hl _ _ _ => ?_) (fun i hi => by simp at hi)
      rw [← Bool.not_eq_true]
      intro hgl
      have := (h2 l hgl).1
      cases this
    · rfl
end
end Go.Proofs.Ytkiahnffepbgpaa
