/-
  An acyclic graph has an order of its vertices without a disruptive trio: the vertices in the reverse order of their removal.
-/
import Derived.Test.YtjofdlafblpclaaDoorAcy
namespace Go.Proofs.YtjofdlafblpclaaDoor

def InR (r : List Nat) (v : Nat) : Prop := ∃ i, i < r.length ∧ (nth r i).testBit v = true
def AdjR (r : List Nat) (a b : Nat) : Prop := ∃ i, i < r.length ∧ (nth r i).testBit a = true ∧ (nth r i).testBit b = true
theorem AdjR.left {r : List Nat} {a b : Nat} (h : AdjR r a b) : InR r a := let ⟨i, h1, h2, _⟩ := h; ⟨i, h1, h2⟩
theorem AdjR.right {r : List Nat} {a b : Nat} (h : AdjR r a b) : InR r b := let ⟨i, h1, _, h2⟩ := h; ⟨i, h1, h2⟩
theorem AdjR.symm {r : List Nat} {a b : Nat} (h : AdjR r a b) : AdjR r b a := let ⟨i, h1, h2, h3⟩ := h; ⟨i, h1, h3, h2⟩
theorem andn_zero_bits {x y v : Nat} (hx : x < 2 ^ 32) (hy : y < 2 ^ 32) (h : andn x y = 0) (hv : x.testBit v = true) : y.testBit v = true := by
  have h1 := testBit_andn (i := v) hy hx
  rw [h, hv] at h1
  simp at h1
  exact h1
theorem nth_set_ne {r : List Nat} {e i x : Nat} (h : i ≠ e) : nth (r.set e x) i = nth r i := by
  simp [nth, List.getD, List.getElem?_set, Ne.symm h]
theorem nth_set_eq {r : List Nat} {e x : Nat} (h : e < r.length) : nth (r.set e x) e = x := by
  simp [nth, List.getD, h]
section
variable {n : Nat} {r : List Nat} {g : List Bool} {e f v : Nat}
theorem abs_adj (hb : ∀ x ∈ r, x < 2 ^ 32) (h : AbsSpec r g (some (e, f))) (a b : Nat) : AdjR (r.set e 0) a b ↔ AdjR r a b := by
  obtain ⟨he, hf, hab, _, _⟩ := h
  obtain ⟨hne, _, _, hz⟩ := absorbs_parts hab
  constructor
  · rintro ⟨i, hi, h1, h2⟩
    by_cases hie : i = e
    · rw [hie, nth_set_eq he] at h1; simp at h1
    · rw [nth_set_ne hie] at h1 h2
      exact ⟨i, by simpa using hi, h1, h2⟩
  · rintro ⟨i, hi, h1, h2⟩
    by_cases hie : i = e
    · subst hie
      refine ⟨f, by simpa using hf, ?_, ?_⟩
      · rw [nth_set_ne (Ne.symm hne)]; exact andn_zero_bits (hb _ (nth_mem he)) (hb _ (nth_mem hf)) hz h1
      · rw [nth_set_ne (Ne.symm hne)]; exact andn_zero_bits (hb _ (nth_mem he)) (hb _ (nth_mem hf)) hz h2
    · exact ⟨i, by simpa using hi, by rw [nth_set_ne hie]; exact h1, by rw [nth_set_ne hie]; exact h2⟩
theorem inR_adj (r : List Nat) (a : Nat) : InR r a ↔ AdjR r a a := ⟨fun ⟨i, h, h1⟩ => ⟨i, h, h1, h1⟩, fun h => h.left⟩
theorem iso_bit (hn : n ≤ 32) (hb : ∀ x ∈ r, x < 2 ^ 32) (h : IsoSpec n r (some (e, v))) (i a : Nat) (hi : i < r.length) : (nth (r.set e (andn (nth r e) (2 ^ v))) i).testBit a = ((nth r i).testBit a && decide (¬ (i = e ∧ a = v))) := by
  obtain ⟨hv, he, _, _, _⟩ := h
  by_cases hie : i = e
  · subst hie
    rw [nth_set_eq he, testBit_andn (pow2_lt32 (by omega)) (hb _ (nth_mem he)), Nat.testBit_two_pow]
    congr 1
    by_cases hav : a = v
    · simp [hav]
    · simp [hav, Ne.symm hav]
  · rw [nth_set_ne hie]; simp [hie]
theorem iso_out (hn : n ≤ 32) (hb : ∀ x ∈ r, x < 2 ^ 32) (h : IsoSpec n r (some (e, v))) : ¬ InR (r.set e (andn (nth r e) (2 ^ v))) v := by
  rintro ⟨i, hi, h1⟩
  have hi' : i < r.length := by simpa using hi
  rw [iso_bit hn hb h i v hi'] at h1
  simp at h1
  obtain ⟨_, he, hbit, ho, _⟩ := h
  exact h1.2 (countP_one (p := fun x => x.testBit v) hi' he h1.1 hbit ho)
theorem iso_adj (hn : n ≤ 32) (hb : ∀ x ∈ r, x < 2 ^ 32) (h : IsoSpec n r (some (e, v))) {a b : Nat} (ha : a ≠ v) (hbv : b ≠ v) : AdjR (r.set e (andn (nth r e) (2 ^ v))) a b ↔ AdjR r a b := by
  constructor
  · rintro ⟨i, hi, h1, h2⟩
    have hi' : i < r.length := by simpa using hi
    rw [iso_bit hn hb h i _ hi'] at h1 h2
    simp at h1 h2
    exact ⟨i, hi', h1.1, h2.1⟩
  · rintro ⟨i, hi, h1, h2⟩
    refine ⟨i, by simpa using hi, ?_, ?_⟩
    · rw [iso_bit hn hb h i _ hi, h1]; simp [ha]
    · rw [iso_bit hn hb h i _ hi, h2]; simp [hbv]
end
theorem Run.bound {n : Nat} {r0 r : List Nat} {g0 g : List Bool} {l : List (Int × Int × Int)} (h : Run n r0 g0 l r g) (hb : ∀ x ∈ r0, x < 2 ^ 32) : ∀ x ∈ r, x < 2 ^ 32 := by
  induction h with
  | nil => exact hb
  | abs h1 h2 ih => exact set_lt ih (by omega)
  | iso h1 h2 h3 ih => exact set_lt ih (Nat.lt_of_le_of_lt Nat.and_le_left (ih _ (nth_mem h3.2.1)))
/-- What holds of the vertices that have been removed so far, in the order of their removal. -/
structure Elim (n : Nat) (es r : List Nat) (ord : List Nat) : Prop where
  nodup : ord.Nodup
  lt : ∀ v ∈ ord, v < n
  gone : ∀ v ∈ ord, ¬ InR r v
  all : ∀ v, InR es v → v ∈ ord ∨ InR r v
  adj : ∀ a b, InR r a → InR r b → (AdjR es a b ↔ AdjR r a b)
  clique : ∀ j v, ord[j]? = some v → ∀ a b, AdjR es a v → AdjR es b v → a ∉ ord.take (j + 1) → b ∉ ord.take (j + 1) → AdjR es a b
theorem Run.elim {n : Nat} (hn : n ≤ 32) {es r : List Nat} {g0 g : List Bool} {l : List (Int × Int × Int)} (h : Run n es g0 l r g) (hb : ∀ x ∈ es, x < 2 ^ 32) : ∃ ord, Elim n es r ord := by
  induction h with
  | nil => exact ⟨[], List.nodup_nil, by simp, by simp, fun v h => .inr h, fun a b _ _ => Iff.rfl, by simp⟩
  | @abs l r g e f h1 h2 ih =>
    obtain ⟨ord, E⟩ := ih
    have hin : ∀ v, InR (r.set e 0) v ↔ InR r v := fun v => by rw [inR_adj, inR_adj]; exact abs_adj (h1.bound hb) h2 v v
    refine ⟨ord, E.nodup, E.lt, fun v hv h => E.gone v hv ((hin v).1 h), fun v h => (E.all v h).imp id (hin v).2, fun a b ha hb' => ?_, E.clique⟩
    rw [E.adj a b ((hin a).1 ha) ((hin b).1 hb'), abs_adj (h1.bound hb) h2]
  | @iso l r g e v h1 h2 h3 ih =>
    obtain ⟨ord, E⟩ := ih
    have hbr := h1.bound hb
    have hvin : InR r v := ⟨e, h3.2.1, h3.2.2.1⟩
    have hvo : v ∉ ord := fun h => E.gone v h hvin
    have hout := iso_out hn hbr h3
    have hin : ∀ u, u ≠ v → (InR (r.set e (andn (nth r e) (2 ^ v))) u ↔ InR r u) := fun u hu => by rw [inR_adj, inR_adj]; exact iso_adj hn hbr h3 hu hu
    refine ⟨ord ++ [v], ?_, ?_, ?_, ?_, ?_, ?_⟩
    · rw [List.nodup_append]
      exact ⟨E.nodup, by simp, fun a ha b hb' => by simp at hb'; subst hb'; intro h; subst h; exact hvo ha⟩
    · intro u hu
      rcases List.mem_append.1 hu with h | h
      · exact E.lt u h
      · simp at h; subst h; exact h3.1
    · intro u hu h
      rcases List.mem_append.1 hu with h' | h'
      · by_cases huv : u = v
        · subst huv; exact hout h
        · exact E.gone u h' ((hin u huv).1 h)
      · simp at h'; subst h'; exact hout h
    · intro u hu
      by_cases huv : u = v
      · subst huv; left; simp
      · rcases E.all u hu with h | h
        · left; simp [h]
        · right; exact (hin u huv).2 h
    · intro a b ha hb'
      have hav : a ≠ v := fun h => by subst h; exact hout ha
      have hbv : b ≠ v := fun h => by subst h; exact hout hb'
      rw [E.adj a b ((hin a hav).1 ha) ((hin b hbv).1 hb'), iso_adj hn hbr h3 hav hbv]
    · intro j u hj a b ha hb' hna hnb
      by_cases hjl : j < ord.length
      · rw [List.getElem?_append_left hjl] at hj
        rw [List.take_append_of_le_length (by omega)] at hna hnb
        exact E.clique j u hj a b ha hb' hna hnb
      · have hjlt : j < (ord ++ [v]).length := (List.getElem?_eq_some_iff.1 hj).1
        have hje : j = ord.length := by simp at hjlt; omega
        subst hje
        simp at hj
        subst hj
        rw [List.take_of_length_le (by simp)] at hna hnb
        simp at hna hnb
        have key : ∀ a, AdjR es a v → a ∉ ord → (nth r e).testBit a = true := by
          intro a ha hao
          have hain : InR r a := (E.all a ha.left).resolve_left hao
          obtain ⟨i, hi, i1, i2⟩ := (E.adj a v hain hvin).1 ha
          have : i = e := countP_one (p := fun x => x.testBit v) hi h3.2.1 i2 h3.2.2.1 h3.2.2.2.1
          rw [← this]; exact i1
        have ka := key a ha hna.1
        have kb := key b hb' hnb.1
        exact (E.adj a b ⟨e, h3.2.1, ka⟩ ⟨e, h3.2.1, kb⟩).2 ⟨e, h3.2.1, ka, kb⟩
end Go.Proofs.YtjofdlafblpclaaDoor
