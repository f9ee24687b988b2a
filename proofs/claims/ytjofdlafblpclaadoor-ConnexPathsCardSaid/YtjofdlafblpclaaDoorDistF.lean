/-
  Plain: the distance as a function, and the length of a shortest chordless cycle as one.
-/
import Derived.Test.YtjofdlafblpclaaDoorCylP
import Derived.Test.YtjofdlafblpclaaDoorObsP
namespace Go.Proofs.YtjofdlafblpclaaDoor

/-- What hypergraph.distance answers, as a function. -/
def distF (R : List Nat) (n a b ins : Nat) : Nat := (distO R n b ins (n + 1) 0 (2 ^ a) 1).getD 0
section
variable {R : List Nat} {n : Nat}
theorem nth_lt2 (hR : ∀ x ∈ R, x < 2 ^ n) (k : Nat) : nth R k < 2 ^ n := by
  by_cases h : k < R.length
  · exact hR _ (nth_mem h)
  · have : nth R k = 0 := by simp only [nth, List.getD]; rw [List.getElem?_eq_none (by omega)]; rfl
    rw [this]; exact pow2_pos n
theorem orTo_lt (hR : ∀ x ∈ R, x < 2 ^ n) (f : Nat) : ∀ k, orTo R f k < 2 ^ n
  | 0 => pow2_pos n
  | k + 1 => by
    rw [orTo]
    split
    · exact Nat.or_lt_two_pow (orTo_lt hR f k) (nth_lt2 hR k)
    · exact orTo_lt hR f k
theorem nextL_lt (hR : ∀ x ∈ R, x < 2 ^ n) (ins seen front : Nat) : nextL R n ins seen front < 2 ^ n :=
  Nat.lt_of_le_of_lt (Nat.le_trans Nat.and_le_left Nat.and_le_left) (orTo_lt hR front n)
theorem distO_some (hn : n ≤ 32) (hR : ∀ x ∈ R, x < 2 ^ n) (b ins : Nat) : ∀ (f seen front l : Nat), seen < 2 ^ n → front < 2 ^ n → (∀ u, ¬ (seen.testBit u = true ∧ front.testBit u = true)) → n + 1 ≤ f + bitsOf n seen →
    ∃ d, distO R n b ins f seen front l = some d ∧ d < l + f := by
  intro f
  induction f with
  | zero => intro seen front l _ _ _ h; have := bitsOf_le n seen; omega
  | succ f ih =>
    intro seen front l hs hf hd hm
    rw [distO]
    by_cases h0 : front = 0
    · exact ⟨0, by rw [if_pos h0], by omega⟩
    · rw [if_neg h0]
      by_cases h1 : (nextL R n ins seen front).testBit b = true
      · exact ⟨l, by rw [if_pos h1], by omega⟩
      · rw [if_neg h1]
        have hso : seen ||| front < 2 ^ n := Nat.or_lt_two_pow hs hf
        have hlt : bitsOf n seen < bitsOf n (seen ||| front) := by
          obtain ⟨u, hu⟩ : ∃ u, front.testBit u = true := by
            refine Classical.byContradiction fun hno => h0 (Nat.eq_of_testBit_eq fun u => ?_)
            rw [Nat.zero_testBit]
            cases hu : front.testBit u with
            | false => rfl
            | true => exact absurd ⟨u, hu⟩ hno
          apply countP_lt_of
          · intro x _ hx
            rw [Nat.testBit_or, hx, Bool.true_or]
          · refine ⟨u, by simpa using testBit_lt hf hu, ?_, by rw [Nat.testBit_or, hu, Bool.or_true]⟩
            cases hsu : seen.testBit u with
            | false => simp
            | true => exact absurd ⟨hsu, hu⟩ (hd u)
        obtain ⟨d, h2, h3⟩ := ih (seen ||| front) (nextL R n ins seen front) (l + 1) hso (nextL_lt hR ins seen front) (fun u ⟨h4, h5⟩ => by
          unfold nextL at h5
          rw [testBit_andn (Nat.lt_of_lt_of_le hso (two_pow_le hn)) (Nat.lt_of_le_of_lt Nat.and_le_left (Nat.lt_of_lt_of_le (orTo_lt hR front n) (two_pow_le hn))), h4] at h5
          simp at h5) (by omega)
        exact ⟨d, h2, by omega⟩
theorem distF_spec (hn : n ≤ 32) (hR : ∀ x ∈ R, x < 2 ^ n) {a : Nat} (ha : a < n) (b ins : Nat) : DistIs R n a b ins (distF R n a b ins) ∧ distF R n a b ins ≤ n + 1 := by
  obtain ⟨d, h1, h2⟩ := distO_some hn hR b ins (n + 1) 0 (2 ^ a) 1 (pow2_pos n) (Nat.pow_lt_pow_right (by omega) ha) (fun u ⟨h, _⟩ => by simp at h) (by omega)
  have e : distF R n a b ins = d := by rw [distF, h1]; rfl
  rw [e]
  exact ⟨⟨_, h1⟩, by omega⟩
theorem DistIs.eq (hn : n ≤ 32) (hR : ∀ x ∈ R, x < 2 ^ n) {a b ins d : Nat} (ha : a < n) (h : DistIs R n a b ins d) : d = distF R n a b ins := h.one (distF_spec hn hR ha b ins).1

/-- hypergraph.cycleLength, as a function. -/
def stepF (R : List Nat) (n v x y s : Nat) : Nat :=
  if skipB R v x y = true then s
  else if 0 < distF R n x y (restOf R n v x y) ∧ (s = 0 ∨ distF R n x y (restOf R n v x y) + 2 < s) then distF R n x y (restOf R n v x y) + 2 else s
def cylYF (R : List Nat) (n v x : Nat) : Nat → Nat → Nat
  | 0, s => s
  | k + 1, s => stepF R n v x k (cylYF R n v x k s)
def cylXF (R : List Nat) (n v : Nat) : Nat → Nat → Nat
  | 0, s => s
  | k + 1, s => cylYF R n v k k (cylXF R n v k s)
def cylVF (R : List Nat) (n : Nat) : Nat → Nat → Nat
  | 0, s => s
  | k + 1, s => cylXF R n k n (cylVF R n k s)
def cylF (R : List Nat) (n : Nat) : Nat := cylVF R n n 0
theorem CylStep.eq (hn : n ≤ 32) (hR : ∀ x ∈ R, x < 2 ^ n) {v x y s t : Nat} (hx : x < n) (h : CylStep R n v x y s t) : t = stepF R n v x y s := by
  unfold CylStep at h
  unfold stepF
  split at h
  · rename_i h1; rw [if_pos h1]; exact h
  · rename_i h1
    rw [if_neg h1]
    obtain ⟨d, hd, rfl⟩ := h
    rw [← hd.eq hn hR hx]
theorem CylY.eq (hn : n ≤ 32) (hR : ∀ x ∈ R, x < 2 ^ n) {v x : Nat} (hx : x < n) : ∀ {k s t : Nat}, CylY R n v x k s t → t = cylYF R n v x k s
  | 0, s, t, h => h
  | k + 1, s, t, ⟨m, h1, h2⟩ => by
    rw [cylYF, ← h1.eq hn hR hx]; exact h2.eq hn hR hx
theorem CylX.eq (hn : n ≤ 32) (hR : ∀ x ∈ R, x < 2 ^ n) {v : Nat} : ∀ {k s t : Nat}, k ≤ n → CylX R n v k s t → t = cylXF R n v k s
  | 0, s, t, _, h => h
  | k + 1, s, t, hk, ⟨m, h1, h2⟩ => by
    rw [cylXF, ← h1.eq hn hR (by omega)]; exact h2.eq hn hR (by omega)
theorem CylV.eq (hn : n ≤ 32) (hR : ∀ x ∈ R, x < 2 ^ n) : ∀ {k s t : Nat}, k ≤ n → CylV R n k s t → t = cylVF R n k s
  | 0, s, t, _, h => h
  | k + 1, s, t, hk, ⟨m, h1, h2⟩ => by
    rw [cylVF, ← h1.eq hn hR (by omega)]; exact h2.eq hn hR (Nat.le_refl _)
/-- How great it is. -/
def LenOk (n s : Nat) : Prop := s = 0 ∨ (3 ≤ s ∧ s ≤ n + 3)
theorem LenOk.step (hn : n ≤ 32) (hR : ∀ x ∈ R, x < 2 ^ n) {v x y s : Nat} (hx : x < n) (h : LenOk n s) : LenOk n (stepF R n v x y s) := by
  unfold stepF
  split
  · exact h
  · split
    · have := (distF_spec hn hR hx y (restOf R n v x y)).2
      right; omega
    · exact h
theorem LenOk.y (hn : n ≤ 32) (hR : ∀ x ∈ R, x < 2 ^ n) {v x s : Nat} (hx : x < n) (h : LenOk n s) : ∀ k, LenOk n (cylYF R n v x k s)
  | 0 => h
  | k + 1 => by rw [cylYF]; exact LenOk.step hn hR hx (LenOk.y hn hR hx h k)
theorem LenOk.x (hn : n ≤ 32) (hR : ∀ x ∈ R, x < 2 ^ n) {v s : Nat} (h : LenOk n s) : ∀ k, k ≤ n → LenOk n (cylXF R n v k s)
  | 0, _ => h
  | k + 1, hk => by rw [cylXF]; exact LenOk.y hn hR (by omega) (LenOk.x hn hR h k (by omega)) k
theorem LenOk.v (hn : n ≤ 32) (hR : ∀ x ∈ R, x < 2 ^ n) : ∀ k, k ≤ n → LenOk n (cylVF R n k 0)
  | 0, _ => .inl rfl
  | k + 1, hk => by rw [cylVF]; exact LenOk.x hn hR (LenOk.v hn hR k (by omega)) n (Nat.le_refl _)
theorem cylF_ok (hn : n ≤ 32) (hR : ∀ x ∈ R, x < 2 ^ n) : LenOk n (cylF R n) := LenOk.v hn hR n (Nat.le_refl _)
end
/-- The rows of a graph's neighbours. -/
theorem adjRow_lt {n : Nat} {es : List Nat} (hes : ∀ e ∈ es, e < 2 ^ n) : ∀ x ∈ (List.range 32).map (fun v => if v < n then adj es v else 0), x < 2 ^ n := by
  intro x hx
  rw [List.mem_map] at hx
  obtain ⟨v, _, rfl⟩ := hx
  split
  · have : ∀ (l : List Nat) (a : Nat), (∀ e ∈ l, e < 2 ^ n) → a < 2 ^ n → l.foldl (fun a e => if e.testBit v then a ||| andn e (2 ^ v) else a) a < 2 ^ n := by
      intro l
      induction l with
      | nil => intro a _ h; exact h
      | cons e l ih =>
        intro a hl ha
        rw [List.foldl_cons]
        refine ih _ (fun x hx => hl x (by simp [hx])) ?_
        split
        · exact Nat.or_lt_two_pow ha (Nat.lt_of_le_of_lt Nat.and_le_left (hl e (by simp)))
        · exact ha
    exact this es 0 hes (pow2_pos n)
  · exact pow2_pos n
end Go.Proofs.YtjofdlafblpclaaDoor
