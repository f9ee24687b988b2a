/-
  Elimination from the last vertex to the first one, plainly; a clique of an acyclic graph lies in an edge.
-/
import Derived.Test.YtdagdamliggfmaaCompP
namespace Go.Proofs.Ytdagdamliggfmaa

/-- Two vertices share an edge, or are the same one that is in an edge. -/
def Near (es : List Nat) (a b : Nat) : Prop := ∃ e ∈ es, e.testBit a = true ∧ e.testBit b = true
/-- Every clique of an acyclic graph lies in an edge. -/
theorem clique_in : ∀ {l : List Nat}, rip l → ∀ K : Nat → Prop, (∃ a, K a) → (∀ a b, K a → K b → Near l a b) → ∃ e ∈ l, ∀ a, K a → e.testBit a = true
  | [], _, K, ⟨a, ha⟩, h => by obtain ⟨e, he, _⟩ := h a a ha ha; simp at he
  | e :: l, ⟨h1, h2⟩, K, hK, h => by
    by_cases hx : ∃ a, K a ∧ ¬ inU l a
    · obtain ⟨a, ha, hno⟩ := hx
      refine ⟨e, by simp, fun b hb => ?_⟩
      obtain ⟨f, hf, hfa, hfb⟩ := h a b ha hb
      rcases List.mem_cons.1 hf with rfl | hf
      · exact hfb
      · exact absurd ⟨f, hf, hfa⟩ hno
    · have hin : ∀ a, K a → inU l a := fun a ha => Classical.byContradiction fun hno => hx ⟨a, ha, hno⟩
      rcases h1 with h1 | ⟨f, hf, h1⟩
      · obtain ⟨a, ha⟩ := hK
        obtain ⟨x, hx2, _⟩ := hin a ha
        rw [h1] at hx2; simp at hx2
      · obtain ⟨g, hg, hgK⟩ := clique_in h2 K hK (fun a b ha hb => by
          obtain ⟨x, hx2, hxa, hxb⟩ := h a b ha hb
          rcases List.mem_cons.1 hx2 with rfl | hx2
          · exact ⟨f, hf, h1 a hxa (hin a ha), h1 b hxb (hin b hb)⟩
          · exact ⟨x, hx2, hxa, hxb⟩)
        exact ⟨g, by simp [hg], hgK⟩
theorem clique_acyc {n : Nat} {es : List Nat} (hn : n ≤ 32) (hb : ∀ e ∈ es, e < 2 ^ n) (h : Acyc n es) (K : Nat → Prop) (hK : ∃ a, K a) (hc : ∀ a b, K a → K b → Near es a b) : ∃ e ∈ es, ∀ a, K a → e.testBit a = true := by
  obtain ⟨l, hp, hr⟩ := (acyc_iff hn hb).1 h
  obtain ⟨e, he, h1⟩ := clique_in hr K hK (fun a b ha hb => by
    obtain ⟨x, hx, h2⟩ := hc a b ha hb
    exact ⟨x, hp.mem_iff.1 hx, h2⟩)
  exact ⟨e, hp.mem_iff.2 he, h1⟩

/-- No vertex has two lower neighbors that are not adjacent. -/
def NoTrio (n : Nat) (es : List Nat) : Prop := ∀ c a b, c < n → a < b → b < c → (adj es c).testBit a = true → (adj es c).testBit b = true → (adj es a).testBit b = true
/-- The neighbors when the vertices from m on have been eliminated. -/
structure Elm (n : Nat) (es : List Nat) (m : Nat) (nb : List Nat) : Prop where
  len : nb.length = 32
  lt : ∀ x ∈ nb, x < 2 ^ n
  self : ∀ u, u < n → (nth nb u).testBit u = false
  low : ∀ u t, u < m → t < m → (adj es u).testBit t = true → (nth nb u).testBit t = true
  same : NoTrio n es → ∀ u t, u < m → ((nth nb u).testBit t = true ↔ t < m ∧ (adj es u).testBit t = true)
/-- What the elimination of v makes of the neighbors of u. -/
def elim1 (n : Nat) (nb : List Nat) (v u : Nat) : Nat := if u < n ∧ (nth nb v).testBit u = true then andn (nth nb u ||| nth nb v) (2 ^ u ||| 2 ^ v) else nth nb u
section
variable {n m : Nat} {es nb nb' : List Nat}
theorem Elm.ltn (h : Elm n es m nb) (u : Nat) : nth nb u < 2 ^ n := by
  by_cases hu : u < nb.length
  · exact h.lt _ (nth_mem hu)
  · have : nth nb u = 0 := by simp [nth, List.getD, List.getElem?_eq_none (show nb.length ≤ u by omega)]
    rw [this]; exact pow2_pos n
theorem elim1_bit (hn : n ≤ 32) (h : ∀ u, nth nb u < 2 ^ n) {v u : Nat} (hv : v < n) (t : Nat) : (elim1 n nb v u).testBit t = if u < n ∧ (nth nb v).testBit u = true then ((nth nb u).testBit t || (nth nb v).testBit t) && !(decide (t = u) || decide (t = v)) else (nth nb u).testBit t := by
  unfold elim1
  have l32 : ∀ u, nth nb u < 2 ^ 32 := fun u => Nat.lt_of_lt_of_le (h u) (two_pow_le hn)
  split
  · rename_i hc
    rw [testBit_andn (Nat.or_lt_two_pow (pow2_lt32 (by omega)) (pow2_lt32 (by omega))) (Nat.or_lt_two_pow (l32 u) (l32 v)), Nat.testBit_or, Nat.testBit_or, Nat.testBit_two_pow, Nat.testBit_two_pow]
    congr 1
    simp only [eq_comm]
  · rfl
theorem Elm.step (h : Elm n es (m + 1) nb) (hn : n ≤ 32) (hm : m < n) (hb : ∀ e ∈ es, e < 2 ^ n) (hl : nb'.length = 32) (hnb : ∀ u, u < 32 → nth nb' u = elim1 n nb m u) : Elm n es m nb' := by
  have hbit := fun {u : Nat} => elim1_bit hn h.ltn hm (u := u)
  have b32 := lt32_of hn hb
  refine ⟨hl, fun x hx => ?_, fun u hu => ?_, fun u t hu ht ha => ?_, fun hno u t hu => ?_⟩
  · obtain ⟨k, hk, rfl⟩ := List.getElem_of_mem hx
    rw [← nth_eq hk, hnb k (by omega)]
    unfold elim1
    split
    · exact Nat.lt_of_le_of_lt Nat.and_le_left (Nat.or_lt_two_pow (h.ltn k) (h.ltn m))
    · exact h.ltn k
  · rw [hnb u (by omega), hbit]
    split
    · simp
    · exact h.self u hu
  · rw [hnb u (by omega), hbit]
    have h1 := h.low u t (by omega) (by omega) ha
    have htu : t ≠ u := ((adj_bit b32 (by omega)).1 ha).1
    split
    · simp [h1, htu]; omega
    · exact h1
  · rw [hnb u (by omega), hbit]
    have hs := h.same hno
    have hmu := hs m u (by omega)
    split
    · rename_i hc
      have ham := (hmu.1 hc.2).2
      constructor
      · intro hx
        simp only [Bool.and_eq_true, Bool.or_eq_true, Bool.not_eq_true', Bool.or_eq_false_iff, decide_eq_false_iff_not] at hx
        obtain ⟨h1, h2, h3⟩ := hx
        rcases h1 with h1 | h1
        · have := (hs u t (by omega)).1 h1
          exact ⟨by omega, this.2⟩
        · have h4 := (hs m t (by omega)).1 h1
          refine ⟨by omega, ?_⟩
          rcases Nat.lt_trichotomy u t with h5 | h5 | h5
          · exact hno m u t hm h5 (by omega) ham h4.2
          · exact absurd h5.symm h2
          · exact adj_symm hn hb (by omega) (hno m t u hm h5 (by omega) h4.2 ham)
      · rintro ⟨h1, h2⟩
        have h3 := (hs u t (by omega)).2 ⟨by omega, h2⟩
        have htu : t ≠ u := ((adj_bit b32 (by omega)).1 h2).1
        simp [h3, htu]; omega
    · rename_i hc
      rw [hs u t (by omega)]
      constructor
      · rintro ⟨h1, h2⟩
        refine ⟨?_, h2⟩
        by_cases htm : t = m
        · subst htm
          exact absurd ⟨by omega, hmu.2 ⟨by omega, adj_symm hn hb (by omega) h2⟩⟩ hc
        · omega
      · rintro ⟨h1, h2⟩; exact ⟨by omega, h2⟩
theorem Elm.init (hn : n ≤ 32) (hb : ∀ e ∈ es, e < 2 ^ n) (hl : nb.length = 32) (hnb : ∀ u, u < 32 → nth nb u = if u < n then adj es u else 0) : Elm n es n nb := by
  have b32 := lt32_of hn hb
  refine ⟨hl, fun x hx => ?_, fun u hu => ?_, fun u t hu ht ha => ?_, fun _ u t hu => ?_⟩
  · obtain ⟨k, hk, rfl⟩ := List.getElem_of_mem hx
    rw [← nth_eq hk, hnb k (by omega)]
    split
    · exact bits_lt fun t ht => adj_lt_n hn hb (by omega) ht
    · exact pow2_pos n
  · rw [hnb u (by omega), if_pos hu]
    cases hx : (adj es u).testBit u with
    | false => rfl
    | true => exact absurd rfl ((adj_bit b32 (by omega)).1 hx).1
  · rw [hnb u (by omega), if_pos hu]; exact ha
  · rw [hnb u (by omega), if_pos hu]
    exact ⟨fun h => ⟨adj_lt_n hn hb (by omega) h, h⟩, fun h => h.2⟩
end
/-- The bag of a vertex: its neighbors when it is eliminated. -/
structure Key (n : Nat) (es : List Nat) (v k : Nat) : Prop where
  lt : k < 2 ^ n
  self : k.testBit v = false
  low : ∀ t, t < v → (adj es v).testBit t = true → k.testBit t = true
  same : NoTrio n es → ∀ t, (k.testBit t = true ↔ t < v ∧ (adj es v).testBit t = true)
theorem Elm.key {n m : Nat} {es nb : List Nat} (h : Elm n es (m + 1) nb) (hn : n ≤ 32) (hm : m < n) (hb : ∀ e ∈ es, e < 2 ^ n) : Key n es m (nth nb m) := by
  refine ⟨h.ltn m, h.self m hm, fun t ht ha => h.low m t (by omega) (by omega) ha, fun hno t => ?_⟩
  rw [h.same hno m t (by omega)]
  constructor
  · rintro ⟨h1, h2⟩
    have := ((adj_bit (lt32_of hn hb) (by omega)).1 h2).1
    exact ⟨by omega, h2⟩
  · rintro ⟨h1, h2⟩; exact ⟨by omega, h2⟩
/-- Every bag lies in an edge or is a single vertex: exactly without a trio. -/
theorem bags_decide {n : Nat} {es : List Nat} (hn : n ≤ 32) (hb : ∀ e ∈ es, e < 2 ^ n) (ha : Acyc n es) (K : Nat → Nat) (hK : ∀ v, v < n → Key n es v (K v)) :
    (∀ v, v < n → (∃ e ∈ es, sub (K v ||| 2 ^ v) e) ∨ K v = 0) ↔ NoTrio n es := by
  have b32 := lt32_of hn hb
  constructor
  · intro h c a b hc hab hbc h1 h2
    have hk := hK c hc
    rcases h c hc with ⟨e, he, hs⟩ | h0
    · have ea := hs a (by rw [Nat.testBit_or, hk.low a (by omega) h1]; rfl)
      have eb := hs b (by rw [Nat.testBit_or, hk.low b (by omega) h2]; rfl)
      exact (adj_bit b32 (by omega)).2 ⟨by omega, e, he, ea, eb⟩
    · have := hk.low a (by omega) h1
      rw [h0] at this; simp at this
  · intro hno v hv
    have hk := hK v hv
    by_cases h0 : K v = 0
    · exact .inr h0
    · left
      have hs := hk.same hno
      obtain ⟨t0, ht0, _⟩ := low_bit h0
      have h1 := (hs t0).1 ht0
      obtain ⟨e, he, h2⟩ := clique_acyc hn hb ha (fun a => (K v ||| 2 ^ v).testBit a = true) ⟨v, by simp [Nat.testBit_two_pow_self]⟩ (by
        intro a b hA hB
        have part : ∀ x, (K v ||| 2 ^ v).testBit x = true → x = v ∨ (x < v ∧ (adj es v).testBit x = true) := by
          intro x hx
          rw [Nat.testBit_or, Nat.testBit_two_pow, Bool.or_eq_true] at hx
          rcases hx with hx | hx
          · exact .inr ((hs x).1 hx)
          · left; have : v = x := by simpa using hx
            exact this.symm
        have nearv : ∀ x, (x < v ∧ (adj es v).testBit x = true) → Near es v x := by
          rintro x ⟨_, hx⟩
          obtain ⟨_, e, he, h3, h4⟩ := (adj_bit b32 (by omega)).1 hx
          exact ⟨e, he, h3, h4⟩
        have nsym : ∀ x y, Near es x y → Near es y x := fun x y ⟨e, he, h3, h4⟩ => ⟨e, he, h4, h3⟩
        have nself : ∀ x, (x < v ∧ (adj es v).testBit x = true) → Near es x x := by
          intro x hx
          obtain ⟨e, he, h3, h4⟩ := nearv x hx
          exact ⟨e, he, h4, h4⟩
        have nvv : Near es v v := by
          obtain ⟨e, he, h3, h4⟩ := nearv t0 h1
          exact ⟨e, he, h3, h3⟩
        have both : ∀ x y, x < y → (x < v ∧ (adj es v).testBit x = true) → (y < v ∧ (adj es v).testBit y = true) → Near es x y := by
          intro x y hxy hx hy
          obtain ⟨_, e, he, h3, h4⟩ := (adj_bit b32 (by omega)).1 (hno v x y hv hxy hy.1 hx.2 hy.2)
          exact ⟨e, he, h3, h4⟩
        rcases part a hA with rfl | hA
        · rcases part b hB with rfl | hB
          · exact nvv
          · exact nearv b hB
        · rcases part b hB with rfl | hB
          · exact nsym _ _ (nearv a hA)
          · rcases Nat.lt_trichotomy a b with h5 | h5 | h5
            · exact both a b h5 hA hB
            · subst h5; exact nself a hA
            · exact nsym _ _ (both b a h5 hB hA))
      exact ⟨e, he, h2⟩
end Go.Proofs.Ytdagdamliggfmaa
