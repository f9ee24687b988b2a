/-
  Plain: a graph without chordless cycles has a vertex whose neighbours are pairwise adjacent.
-/
import Derived.Test.YtkiahnffepbgpaaExtP
namespace Go.Proofs.Ytkiahnffepbgpaa
section
variable {R : List Nat} {n : Nat}
theorem no_hole (ha : Ady n R) (h0 : cylF R n = 0) {v x y : Nat} (g1 : GR R v x) (g2 : GR R v y) (hne : x ≠ y) (g3 : ¬ GR R x y) (k : Nat) : ¬ Wk (GR R) (fun u => (¬ GR R v u ∧ u ≠ v) ∨ u = x ∨ u = y) k x y := by
  have key : ∀ {x y : Nat}, GR R v x → GR R v y → y < x → ¬ GR R x y → ∀ k, ¬ Wk (GR R) (fun u => (¬ GR R v u ∧ u ≠ v) ∨ u = x ∨ u = y) k x y := by
    intro x y g1 g2 hlt g3 k w
    have hx := ha.hi g1
    have hv := ha.lo g1
    have hno := cylF_zero h0 (v := v) (x := x) (y := y)
    have hd : distF R n x y (restOf R n v x y) = 0 := Classical.byContradiction fun hd => hno ⟨⟨hv, hx, hlt⟩, skip_no.2 ⟨g1, g2, g3⟩, hd⟩
    rcases dist_spec ha.nn ha.lt (restOf R n v x y) hx (show x ≠ y by omega) with ⟨_, h1⟩ | ⟨h1, _⟩
    · refine h1 k (w.mono2 fun a b g i => (rest_bit ha hv).2 ?_)
      rcases i with ⟨i1, i2⟩ | i
      · exact .inl ⟨ha.hi g, i1, i2⟩
      · exact .inr i
    · omega
  rcases Nat.lt_or_ge y x with h | h
  · exact key g1 g2 h g3 k
  · intro w
    refine key g2 g1 (by omega) (fun g => g3 (ha.sym _ _ g)) k ?_
    have := w.rev ha.sym (.inr (.inl rfl))
    exact this.mono fun u i => by
      rcases i with i | i | i
      · exact .inl i
      · exact .inr (.inr i)
      · exact .inr (.inl i)
theorem bitset (P : Nat → Prop) : ∀ n, ∃ W, W < 2 ^ n ∧ ∀ u, W.testBit u = true ↔ u < n ∧ P u
  | 0 => ⟨0, by simp, fun u => by simp⟩
  | n + 1 => by
    obtain ⟨W, h1, h2⟩ := bitset P n
    by_cases hp : P n
    · refine ⟨W ||| 2 ^ n, Nat.or_lt_two_pow (Nat.lt_trans h1 (Nat.pow_lt_pow_right (by omega) (by omega))) (Nat.pow_lt_pow_right (by omega) (by omega)), fun u => ?_⟩
      rw [or_bit, h2]
      constructor
      · rintro (⟨h3, h4⟩ | rfl)
        · exact ⟨by omega, h4⟩
        · exact ⟨by omega, hp⟩
      · rintro ⟨h3, h4⟩
        by_cases hu : u = n
        · exact .inr hu
        · exact .inl ⟨by omega, h4⟩
    · refine ⟨W, Nat.lt_trans h1 (Nat.pow_lt_pow_right (by omega) (by omega)), fun u => ?_⟩
      rw [h2]
      constructor
      · rintro ⟨h3, h4⟩; exact ⟨by omega, h4⟩
      · rintro ⟨h3, h4⟩
        have : u ≠ n := fun e => hp (e ▸ h4)
        exact ⟨by omega, h4⟩
theorem bits_lt_of {A B v : Nat} (hs : sub A B) (hv : v < n) (h1 : A.testBit v = false) (h2 : B.testBit v = true) : bitsOf n A < bitsOf n B :=
  countP_lt_of _ _ _ (fun x _ hx => hs x hx) ⟨v, by simpa using hv, h1, h2⟩
def Con (R : List Nat) (U : Nat) : Prop := ∀ x y, U.testBit x = true → U.testBit y = true → ∃ k, Wk (GR R) (InS U) k x y
/-- A connected part, with a vertex apart from it. -/
def Far (R : List Nat) (S U : Nat) : Prop := (sub U S ∧ ∃ u, U.testBit u = true) ∧ Con R U ∧ ∃ w, S.testBit w = true ∧ U.testBit w = false ∧ ∀ u, U.testBit u = true → ¬ GR R w u
theorem nz_bit {x : Nat} (h : x ≠ 0) : ∃ u, x.testBit u = true := by
  refine Classical.byContradiction fun hno => h (zero_of_bits fun v => ?_)
  cases hv : x.testBit v with
  | false => rfl
  | true => exact absurd ⟨v, hv⟩ hno
theorem dirac (ha : Ady n R) (h0 : cylF R n = 0) : ∀ (m S : Nat), bitsOf n S = m → S < 2 ^ n → S ≠ 0 → ∃ v, S.testBit v = true ∧ ∀ x y, S.testBit x = true → S.testBit y = true → GR R v x → GR R v y → x ≠ y → GR R x y := by
  intro m
  induction m using Nat.strongRecOn with
  | ind m ih =>
  intro S hm hS hS0
  by_cases hc : ∃ a b, S.testBit a = true ∧ S.testBit b = true ∧ a ≠ b ∧ ¬ GR R a b
  · obtain ⟨a, b, sa, sb, hab, hg⟩ := hc
    have start : Far R S (2 ^ a) := by
      refine ⟨⟨fun u hu => ?_, a, by rw [two_bit]⟩, fun x y hx hy => ?_, b, sb, ?_, fun u hu => ?_⟩
      · rw [two_bit] at hu; rw [hu]; exact sa
      · rw [two_bit] at hx hy; rw [hx, hy]; exact ⟨0, .nil _⟩
      · rw [← Bool.not_eq_true, two_bit]; exact fun e => hab e.symm
      · rw [two_bit] at hu; rw [hu]; exact fun g => hg (ha.sym _ _ g)
    obtain ⟨j, ⟨U, hU, hj⟩, hmax⟩ := least (P := fun j => ∃ U, Far R S U ∧ bitsOf n U + j = n) (n := n - bitsOf n (2 ^ a)) ⟨2 ^ a, start, by have := bitsOf_le n (2 ^ a); omega⟩
    have hbig : ∀ U', Far R S U' → bitsOf n U' ≤ bitsOf n U := by
      intro U' hU'
      rcases Nat.lt_or_ge (bitsOf n U) (bitsOf n U') with h | h
      · have := bitsOf_le n U'
        exact absurd ⟨U', hU', by omega⟩ (hmax (n - bitsOf n U') (by omega))
      · exact h
    obtain ⟨⟨hUS, u0, hu0⟩, hcon, w0, sw0, uw0, gw0⟩ := hU
    -- the vertices apart
    obtain ⟨W, hW, hWb⟩ := bitset (fun w => S.testBit w = true ∧ U.testBit w = false ∧ ∀ u, U.testBit u = true → ¬ GR R w u) n
    have hSn : ∀ u, S.testBit u = true → u < n := fun u hu => testBit_lt hS hu
    have hW0 : W.testBit w0 = true := (hWb w0).2 ⟨hSn _ sw0, sw0, uw0, gw0⟩
    have full : ∀ x w, S.testBit x = true → U.testBit x = false → (∃ u, U.testBit u = true ∧ GR R x u) → W.testBit w = true → GR R x w := by
      intro x w sx ux ⟨u, hu, gu⟩ hw
      refine Classical.byContradiction fun hng => ?_
      obtain ⟨_, sw, uw, gw⟩ := (hWb w).1 hw
      have hxw : w ≠ x := fun e => gw u hu (e ▸ gu)
      have far : Far R S (U ||| 2 ^ x) := by
        refine ⟨⟨fun v hv => ?_, u0, (or_bit U x u0).2 (.inl hu0)⟩, fun p q hp hq => ?_, w, sw, ?_, fun v hv => ?_⟩
        · rcases (or_bit U x v).1 hv with h | rfl
          · exact hUS v h
          · exact sx
        · have hsub : ∀ v, InS U v → InS (U ||| 2 ^ x) v := fun v hv => (or_bit U x v).2 (.inl hv)
          rcases (or_bit U x p).1 hp with h1 | rfl
          · rcases (or_bit U x q).1 hq with h2 | rfl
            · obtain ⟨k, wk⟩ := hcon p q h1 h2; exact ⟨k, wk.mono hsub⟩
            · obtain ⟨k, wk⟩ := hcon p u h1 hu
              exact ⟨k + 1, .snoc (wk.mono hsub) (ha.sym _ _ gu) hq⟩
          · rcases (or_bit U p q).1 hq with h2 | rfl
            · obtain ⟨k, wk⟩ := hcon u q hu h2
              exact ⟨k + 1, Wk.cons gu (hsub u hu) (wk.mono hsub)⟩
            · exact ⟨0, .nil _⟩
        · rw [← Bool.not_eq_true, or_bit]
          rintro (h | h)
          · rw [uw] at h; cases h
          · exact hxw h
        · rcases (or_bit U x v).1 hv with h | rfl
          · exact gw v h
          · exact fun g => hng (ha.sym _ _ g)
      have h1 := hbig _ far
      have h2 : bitsOf n U < bitsOf n (U ||| 2 ^ x) := bits_lt_of (fun v hv => (or_bit U x v).2 (.inl hv)) (hSn x sx) ux ((or_bit U x x).2 (.inr rfl))
      omega
    have rim : ∀ x y, S.testBit x = true → U.testBit x = false → (∃ u, U.testBit u = true ∧ GR R x u) → S.testBit y = true → U.testBit y = false → (∃ u, U.testBit u = true ∧ GR R y u) → x ≠ y → GR R x y := by
      intro x y sx ux ex sy uy ey hxy
      refine Classical.byContradiction fun hng => ?_
      have g1 := ha.sym _ _ (full x w0 sx ux ex hW0)
      have g2 := ha.sym _ _ (full y w0 sy uy ey hW0)
      obtain ⟨p, hp, gp⟩ := ex
      obtain ⟨q, hq, gq⟩ := ey
      obtain ⟨k, wk⟩ := hcon p q hp hq
      have hI : ∀ v, InS U v → (fun u => (¬ GR R w0 u ∧ u ≠ w0) ∨ u = x ∨ u = y) v := fun v hv => .inl ⟨gw0 v hv, fun e => by rw [e] at hv; exact absurd hv (by rw [InS, uw0]; simp)⟩
      exact no_hole ha h0 g1 g2 hxy hng (k + 1 + 1) (.snoc (Wk.cons gp (hI p hp) (wk.mono hI)) (ha.sym _ _ gq) (.inr (.inr rfl)))
    have hWS : sub W S := fun v hv => ((hWb v).1 hv).2.1
    have hlt : bitsOf n W < m := by
      rw [← hm]
      refine bits_lt_of hWS (hSn u0 (hUS u0 hu0)) ?_ (hUS u0 hu0)
      cases h : W.testBit u0 with
      | false => rfl
      | true => have := ((hWb u0).1 h).2.2.1; rw [hu0] at this; cases this
    obtain ⟨v, hv, hsim⟩ := ih _ hlt W rfl hW (fun e => by rw [e] at hW0; simp at hW0)
    obtain ⟨_, sv, uv, gv⟩ := (hWb v).1 hv
    refine ⟨v, sv, fun x y sx sy gx gy hxy => ?_⟩
    have part : ∀ x, S.testBit x = true → GR R v x → W.testBit x = true ∨ (U.testBit x = false ∧ ∃ u, U.testBit u = true ∧ GR R x u) := by
      intro x sx gx
      cases hux : U.testBit x with
      | true => exact absurd gx (gv x hux)
      | false =>
        by_cases hex : ∃ u, U.testBit u = true ∧ GR R x u
        · exact .inr ⟨rfl, hex⟩
        · exact .inl ((hWb x).2 ⟨hSn x sx, sx, hux, fun u hu g => hex ⟨u, hu, g⟩⟩)
    rcases part x sx gx with hx | ⟨ux, ex⟩
    · rcases part y sy gy with hy | ⟨uy, ey⟩
      · exact hsim x y hx hy gx gy hxy
      · exact ha.sym _ _ (full y x sy uy ey hx)
    · rcases part y sy gy with hy | ⟨uy, ey⟩
      · exact full x y sx ux ex hy
      · exact rim x y sx ux ex sy uy ey hxy
  · obtain ⟨v, hv⟩ := nz_bit hS0
    refine ⟨v, hv, fun x y sx sy _ _ hxy => Classical.byContradiction fun hng => hc ⟨x, y, sx, sy, hxy, hng⟩⟩
end
end Go.Proofs.Ytkiahnffepbgpaa
