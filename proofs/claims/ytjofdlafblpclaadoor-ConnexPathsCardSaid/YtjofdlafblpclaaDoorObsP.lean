/-
  Cliques that no edge contains, plainly: what the search for the smallest one asks.
-/
import Derived.Test.YtjofdlafblpclaaDoorCompP
namespace Go.Proofs.YtjofdlafblpclaaDoor

theorem bit_zero' (e v : Nat) (he : e < 2 ^ 32) : (bits .and .u32 ((e : Int) / 2 ^ v) 1 == 0) = !e.testBit v := by
  rw [bits_and_one e v he]
  cases e.testBit v <;> rfl
/-- Any two different vertices are adjacent. -/
def Clq (es : List Nat) (S : Nat) : Prop := ∀ a b, S.testBit a = true → S.testBit b = true → a ≠ b → (adj es a).testBit b = true
def Cov (es : List Nat) (S : Nat) : Prop := ∃ e ∈ es, sub S e
/-- A clique of at most k vertices of r makes c a set that no edge contains. -/
def Ext (n : Nat) (es : List Nat) (c r k : Nat) : Prop := ∃ S, sub S r ∧ Clq es S ∧ bitsOf n S ≤ k ∧ ¬ Cov es (c ||| S)
/-- Every vertex of r is adjacent to every one of c. -/
structure Pre (n : Nat) (es : List Nat) (c r : Nat) : Prop where
  cl : c < 2 ^ n
  rl : r < 2 ^ n
  ad : ∀ u w, r.testBit u = true → c.testBit w = true → (adj es w).testBit u = true
section
variable {n : Nat} {es : List Nat} {c r k v : Nat}
theorem or_bit (a v u : Nat) : (a ||| 2 ^ v).testBit u = true ↔ a.testBit u = true ∨ u = v := by
  rw [Nat.testBit_or, Nat.testBit_two_pow, Bool.or_eq_true, decide_eq_true_eq]
  constructor
  · rintro (h | h)
    · exact .inl h
    · exact .inr h.symm
  · rintro (h | h)
    · exact .inl h
    · exact .inr h.symm
theorem drop_bit {a : Nat} (ha : a < 2 ^ 32) (hv : v < 32) (u : Nat) : (andn a (2 ^ v)).testBit u = true ↔ a.testBit u = true ∧ u ≠ v := by
  rw [testBit_andn (pow2_lt32 hv) ha, Nat.testBit_two_pow]
  simp only [Bool.and_eq_true, Bool.not_eq_true', decide_eq_false_iff_not]
  constructor
  · rintro ⟨h1, h2⟩; exact ⟨h1, fun e => h2 e.symm⟩
  · rintro ⟨h1, h2⟩; exact ⟨h1, fun e => h2 e.symm⟩
theorem bits_or_le (S v : Nat) : bitsOf n (S ||| 2 ^ v) ≤ bitsOf n S + 1 := by
  unfold bitsOf
  have : ∀ l : List Nat, l.Nodup → l.countP (fun u => (S ||| 2 ^ v).testBit u) ≤ l.countP (fun u => S.testBit u) + 1 := by
    intro l
    induction l with
    | nil => intro _; simp
    | cons x l ih =>
      intro hnd
      rw [List.nodup_cons] at hnd
      rw [List.countP_cons, List.countP_cons]
      by_cases hx : x = v
      · have e : l.countP (fun u => (S ||| 2 ^ v).testBit u) = l.countP (fun u => S.testBit u) := by
          apply List.countP_congr
          intro u hu
          rw [or_bit]
          have : u ≠ v := fun e => hnd.1 (by rw [hx, ← e]; exact hu)
          simp [this]
        rw [e]; split <;> split <;> omega
      · have := ih hnd.2
        have e : (S ||| 2 ^ v).testBit x = S.testBit x := by
          rw [Bool.eq_iff_iff, or_bit]; simp [hx]
        rw [e]; split <;> omega
  exact this _ List.nodup_range
theorem bits_drop {S : Nat} (hS : S < 2 ^ 32) (hv : v < 32) (hvn : v < n) (h : S.testBit v = true) : bitsOf n (andn S (2 ^ v)) + 1 ≤ bitsOf n S :=
  andn_less hS (pow2_lt32 hv) hvn h (Nat.testBit_two_pow_self)
theorem sub_lt {S r : Nat} (h : sub S r) (hr : r < 2 ^ n) : S < 2 ^ n := bits_lt fun u hu => testBit_lt hr (h u hu)
/-- A vertex that is taken. -/
theorem Ext.take (hn : n ≤ 32) (hb : ∀ e ∈ es, e < 2 ^ n) (hr : r < 2 ^ n) (hv : r.testBit v = true) (hk : 1 ≤ k) (h : Ext n es (c ||| 2 ^ v) (andn r (2 ^ v) &&& adj es v) (k - 1)) : Ext n es c r k := by
  have hvn : v < n := testBit_lt hr hv
  have r32 : r < 2 ^ 32 := Nat.lt_of_lt_of_le hr (two_pow_le hn)
  obtain ⟨S, h1, h2, h3, h4⟩ := h
  have hS : ∀ u, S.testBit u = true → r.testBit u = true ∧ (adj es v).testBit u = true := by
    intro u hu
    have := h1 u hu
    rw [Nat.testBit_and, Bool.and_eq_true, drop_bit r32 (by omega)] at this
    exact ⟨this.1.1, this.2⟩
  refine ⟨S ||| 2 ^ v, fun u hu => ?_, fun a b ha hb2 hab => ?_, ?_, ?_⟩
  · rcases (or_bit S v u).1 hu with h5 | rfl
    · exact (hS u h5).1
    · exact hv
  · rcases (or_bit S v a).1 ha with h5 | rfl
    · rcases (or_bit S v b).1 hb2 with h6 | rfl
      · exact h2 a b h5 h6 hab
      · exact adj_symm hn hb (by omega) (hS a h5).2
    · rcases (or_bit S a b).1 hb2 with h6 | rfl
      · exact (hS b h6).2
      · exact absurd rfl hab
  · have := bits_or_le (n := n) S v; omega
  · have e : c ||| (S ||| 2 ^ v) = c ||| 2 ^ v ||| S := by rw [Nat.or_comm S, Nat.or_assoc]
    rw [e]; exact h4
/-- A vertex is taken or not. -/
theorem Ext.split (hn : n ≤ 32) (hr : r < 2 ^ n) (hv : r.testBit v = true) (h : Ext n es c r k) : Ext n es c (andn r (2 ^ v)) k ∨ Ext n es (c ||| 2 ^ v) (andn r (2 ^ v) &&& adj es v) (k - 1) := by
  have hvn : v < n := testBit_lt hr hv
  have r32 : r < 2 ^ 32 := Nat.lt_of_lt_of_le hr (two_pow_le hn)
  obtain ⟨S, h1, h2, h3, h4⟩ := h
  have S32 : S < 2 ^ 32 := Nat.lt_of_lt_of_le (sub_lt h1 hr) (two_pow_le hn)
  by_cases hSv : S.testBit v = true
  · right
    refine ⟨andn S (2 ^ v), fun u hu => ?_, fun a b ha hb2 hab => ?_, ?_, ?_⟩
    · obtain ⟨h5, h6⟩ := (drop_bit S32 (by omega) u).1 hu
      rw [Nat.testBit_and, Bool.and_eq_true, drop_bit r32 (by omega)]
      exact ⟨⟨h1 u h5, h6⟩, h2 v u hSv h5 (Ne.symm h6)⟩
    · exact h2 a b ((drop_bit S32 (by omega) a).1 ha).1 ((drop_bit S32 (by omega) b).1 hb2).1 hab
    · have := bits_drop S32 (by omega) hvn hSv; omega
    · have e : c ||| 2 ^ v ||| andn S (2 ^ v) = c ||| S := by
        apply Nat.eq_of_testBit_eq
        intro u
        rw [Bool.eq_iff_iff, Nat.testBit_or (c ||| 2 ^ v), Nat.testBit_or c S, Bool.or_eq_true, Bool.or_eq_true, or_bit, drop_bit S32 (by omega)]
        constructor
        · rintro ((h5 | rfl) | h5)
          · exact .inl h5
          · exact .inr hSv
          · exact .inr h5.1
        · rintro (h5 | h5)
          · exact .inl (.inl h5)
          · by_cases huv : u = v
            · exact .inl (.inr huv)
            · exact .inr ⟨h5, huv⟩
      rw [e]; exact h4
  · left
    refine ⟨S, fun u hu => ?_, h2, h3, h4⟩
    rw [drop_bit r32 (by omega)]
    exact ⟨h1 u hu, fun e => hSv (e ▸ hu)⟩
/-- Nothing outside of an edge is left. -/
theorem Ext.none {e r' : Nat} (he : e ∈ es) (hc : sub c e) (hr : sub r' e) : ¬ Ext n es c r' k := by
  rintro ⟨S, h1, _, _, h4⟩
  apply h4
  refine ⟨e, he, fun u hu => ?_⟩
  rw [Nat.testBit_or, Bool.or_eq_true] at hu
  rcases hu with h | h
  · exact hc u h
  · exact hr u (h1 u h)
theorem Ext.mono {r' : Nat} (h : Ext n es c r' k) (hs : sub r' r) : Ext n es c r k := by
  obtain ⟨S, h1, h2, h3, h4⟩ := h
  exact ⟨S, fun u hu => hs u (h1 u hu), h2, h3, h4⟩
theorem Ext.now (hc : ¬ Cov es c) : Ext n es c r k := ⟨0, fun u hu => by simp at hu, fun a b ha => by simp at ha, by rw [bitsOf_zero]; omega, by simpa using hc⟩
theorem Pre.take (hn : n ≤ 32) (h : Pre n es c r) {r' : Nat} (hs : sub r' r) (hv : r'.testBit v = true) : Pre n es (c ||| 2 ^ v) (andn r' (2 ^ v) &&& adj es v) := by
  have r'l := sub_lt hs h.rl
  have hvn : v < n := testBit_lt r'l hv
  have r32 : r' < 2 ^ 32 := Nat.lt_of_lt_of_le r'l (two_pow_le hn)
  refine ⟨Nat.or_lt_two_pow h.cl (Nat.pow_lt_pow_right (by omega) hvn), Nat.lt_of_le_of_lt (Nat.le_trans Nat.and_le_left Nat.and_le_left) r'l, fun u w hu hw => ?_⟩
  rw [Nat.testBit_and, Bool.and_eq_true, drop_bit r32 (by omega)] at hu
  rcases (or_bit c v w).1 hw with h1 | rfl
  · exact h.ad u w (hs u hu.1.1) h1
  · exact hu.2
/-- The bound by disjoint sets: each of them must be hit. -/
def Hit (n : Nat) (es : List Nat) (c r used cnt : Nat) : Prop := ∀ S, sub S r → (∀ e ∈ es, sub c e → ∃ u, S.testBit u = true ∧ e.testBit u = false) → cnt ≤ bitsOf n (S &&& used)
theorem Hit.step {used cnt e : Nat} (hn : n ≤ 32) (hr : r < 2 ^ n) (he : e < 2 ^ 32) (hmem : e ∈ es) (hc : sub c e) (hd : andn r e &&& used = 0) (h : Hit n es c r used cnt) : Hit n es c r (used ||| andn r e) (cnt + 1) := by
  intro S h1 h2
  have h3 := h S h1 h2
  obtain ⟨u, h4, h5⟩ := h2 e hmem hc
  have r32 : r < 2 ^ 32 := Nat.lt_of_lt_of_le hr (two_pow_le hn)
  have hu : (andn r e).testBit u = true := by rw [testBit_andn he r32, h1 u h4, h5]; rfl
  have hnu : used.testBit u = false := by
    have : (andn r e &&& used).testBit u = false := by rw [hd]; simp
    rw [Nat.testBit_and, hu] at this; simpa using this
  have : bitsOf n (S &&& used) < bitsOf n (S &&& (used ||| andn r e)) := by
    apply countP_lt_of
    · intro x _ hx
      simp only [Nat.testBit_and, Nat.testBit_or, Bool.and_eq_true, Bool.or_eq_true] at hx ⊢
      exact ⟨hx.1, .inl hx.2⟩
    · refine ⟨u, by simpa using testBit_lt hr (h1 u h4), ?_, ?_⟩
      · simp [Nat.testBit_and, hnu]
      · simp [Nat.testBit_and, Nat.testBit_or, h4, hu]
  omega
theorem Hit.none {used cnt : Nat} (h : Hit n es c r used cnt) (hk : k < cnt) : ¬ Ext n es c r k := by
  rintro ⟨S, h1, _, h3, h4⟩
  have := h S h1 (fun e he hc => Classical.byContradiction fun hno => h4 ⟨e, he, fun u hu => by
    rw [Nat.testBit_or, Bool.or_eq_true] at hu
    rcases hu with h5 | h5
    · exact hc u h5
    · cases hx : e.testBit u with
      | true => rfl
      | false => exact absurd ⟨u, h5, hx⟩ hno⟩)
  have h6 : bitsOf n (S &&& used) ≤ bitsOf n S := by
    unfold bitsOf
    apply List.countP_mono_left
    intro x _ hx
    rw [Nat.testBit_and, Bool.and_eq_true] at hx
    exact hx.1
  omega
end
end Go.Proofs.YtjofdlafblpclaaDoor
