/-
  Plain: the edges that no other edge contains.
-/
import Derived.Test.YtjofdlafblpclaaDoorRip
namespace Go.Proofs.YtjofdlafblpclaaDoor
set_option linter.unusedVariables false

def contStep (es : List Nat) (b i : Nat) : Nat := if (decide (andn (nth es b) (nth es i) = 0) && (decide (nth es i ≠ nth es b) || decide (i < b))) = true then i else b
/-- Where connex.container stands after k edges. -/
def contTo (es : List Nat) (e : Nat) : Nat → Nat
  | 0 => e
  | k + 1 => contStep es (contTo es e k) k
def contF (es : List Nat) (e : Nat) : Nat := contTo es e es.length
def keptI (es : List Nat) : List Nat := (List.range es.length).filter fun i => contF es i == i
def keptE (es : List Nat) : List Nat := (keptI es).map (nth es)
section
variable {n : Nat} {es : List Nat}
/-- No edge but itself contains the edge, none of equal ones lies ahead. -/
def TopE (es : List Nat) (j k : Nat) : Prop := ∀ m, m < k → ¬ (sub (nth es j) (nth es m) ∧ (nth es m ≠ nth es j ∨ m < j))
theorem cont_test (hb : ∀ x ∈ es, x < 2 ^ 32) {b i : Nat} (h1 : b < es.length) (h2 : i < es.length) : (decide (andn (nth es b) (nth es i) = 0) && (decide (nth es i ≠ nth es b) || decide (i < b))) = true ↔ (sub (nth es b) (nth es i) ∧ (nth es i ≠ nth es b ∨ i < b)) := by
  rw [Bool.and_eq_true, Bool.or_eq_true, decide_eq_true_eq, decide_eq_true_eq, decide_eq_true_eq]
  have x1 := hb _ (nth_mem h1)
  have x2 := hb _ (nth_mem h2)
  exact ⟨fun h => ⟨sub_of_andn x1 x2 h.1, h.2⟩, fun h => ⟨andn_of_sub x1 x2 h.1, h.2⟩⟩
theorem sub_trans {a b c : Nat} (h1 : sub a b) (h2 : sub b c) : sub a c := fun v hv => h2 v (h1 v hv)
theorem sub_anti {a b : Nat} (h1 : sub a b) (h2 : sub b a) : a = b := by
  apply Nat.eq_of_testBit_eq
  intro v
  rw [Bool.eq_iff_iff]
  exact ⟨h1 v, h2 v⟩
theorem cont_inv (hb : ∀ x ∈ es, x < 2 ^ 32) {e : Nat} (he : e < es.length) : ∀ k, k ≤ es.length → contTo es e k < es.length ∧ sub (nth es e) (nth es (contTo es e k)) ∧ TopE es (contTo es e k) k
  | 0, _ => ⟨he, fun v hv => hv, fun m hm => by omega⟩
  | k + 1, hk => by
    obtain ⟨h1, h2, h3⟩ := cont_inv hb he k (by omega)
    rw [contTo]
    generalize contTo es e k = b at *
    unfold contStep
    by_cases hc : (decide (andn (nth es b) (nth es k) = 0) && (decide (nth es k ≠ nth es b) || decide (k < b))) = true
    · rw [if_pos hc]
      obtain ⟨c1, c2⟩ := (cont_test hb h1 (show k < es.length by omega)).1 hc
      refine ⟨by omega, sub_trans h2 c1, fun m hm => ?_⟩
      rintro ⟨d1, d2⟩
      rcases Nat.lt_or_ge m k with h4 | h4
      · have h5 := h3 m h4
        have h6 : nth es m = nth es b := by
          refine Classical.byContradiction fun hne => h5 ⟨sub_trans c1 d1, .inl hne⟩
        have h7 : ¬ m < b := fun h => h5 ⟨sub_trans c1 d1, .inr h⟩
        have h8 : nth es k = nth es b := sub_anti (h6 ▸ d1) c1
        rcases c2 with c2 | c2
        · exact c2 h8
        · omega
      · obtain rfl : m = k := by omega
        rcases d2 with d2 | d2
        · exact d2 rfl
        · omega
    · rw [if_neg hc]
      refine ⟨h1, h2, fun m hm => ?_⟩
      rcases Nat.lt_or_ge m k with h4 | h4
      · exact h3 m h4
      · obtain rfl : m = k := by omega
        exact fun h => hc ((cont_test hb h1 (show m < es.length by omega)).2 h)
theorem cont_lt (hb : ∀ x ∈ es, x < 2 ^ 32) {e : Nat} (he : e < es.length) : contF es e < es.length := (cont_inv hb he _ (Nat.le_refl _)).1
/-- The container is kept, and contains the edge. -/
theorem cont_top (hb : ∀ x ∈ es, x < 2 ^ 32) {e : Nat} (he : e < es.length) : sub (nth es e) (nth es (contF es e)) ∧ contF es (contF es e) = contF es e := by
  obtain ⟨h1, h2, h3⟩ := cont_inv hb he _ (Nat.le_refl _)
  rw [show contTo es e es.length = contF es e from rfl] at h1 h2 h3
  refine ⟨h2, ?_⟩
  show contTo es (contF es e) es.length = contF es e
  have : ∀ k, k ≤ es.length → contTo es (contF es e) k = contF es e := by
    intro k
    induction k with
    | zero => intro _; rfl
    | succ k ih =>
      intro hk
      rw [contTo, ih (by omega)]
      unfold contStep
      rw [if_neg fun hc => h3 k (by omega) ((cont_test hb h1 (show k < es.length by omega)).1 hc)]
  exact this _ (Nat.le_refl _)
theorem keptE_sub (hb : ∀ x ∈ es, x < 2 ^ 32) : ∀ x ∈ es, ∃ y ∈ keptE es, sub x y := by
  intro x hx
  obtain ⟨i, hi, rfl⟩ := List.getElem_of_mem hx
  rw [← nth_eq hi]
  obtain ⟨h1, h2⟩ := cont_top hb hi
  refine ⟨_, List.mem_map.2 ⟨contF es i, List.mem_filter.2 ⟨?_, ?_⟩, rfl⟩, h1⟩
  · rw [List.mem_range]; exact cont_lt hb hi
  · rw [beq_iff_eq]; exact h2
theorem keptI_lt : ∀ i ∈ keptI es, i < es.length := fun i hi => by
  have := (List.mem_filter.1 hi).1
  simpa using this
theorem keptE_mem : ∀ x ∈ keptE es, x ∈ es := by
  intro x hx
  obtain ⟨i, hi, rfl⟩ := List.mem_map.1 hx
  exact nth_mem (keptI_lt i hi)
theorem keptI_len : (keptI es).length ≤ es.length := by
  have := List.length_filter_le (fun i => contF es i == i) (List.range es.length)
  rwa [List.length_range] at this
theorem keptE_len : (keptE es).length ≤ es.length := by
  rw [keptE, List.length_map]; exact keptI_len
theorem map_nth : (List.range es.length).map (nth es) = es := by
  apply List.ext_getElem (by simp)
  intro i h1 h2
  simp [nth, List.getD, h2]
theorem rip_extra {l : List Nat} : ∀ xs : List Nat, (∀ x ∈ xs, ∃ y ∈ l, sub x y) → (Rip (xs ++ l) ↔ Rip l)
  | [], _ => Iff.rfl
  | x :: xs, h => by
    have ih := rip_extra xs fun y hy => h y (by simp [hy])
    obtain ⟨y, hy, hs⟩ := h x (by simp)
    rw [← ih, List.cons_append]
    exact ⟨fun h => h.del (by simp [hy]) hs, fun h => h.add (by simp [hy]) hs⟩
/-- Only the kept edges matter. -/
theorem rip_kept (hb : ∀ x ∈ es, x < 2 ^ 32) (b : Nat) : Rip (keptE es ++ [b]) ↔ Rip (es ++ [b]) := by
  have hp : (((List.range es.length).filter fun i => !(contF es i == i)).map (nth es) ++ (keptE es ++ [b])).Perm (es ++ [b]) := by
    rw [← List.append_assoc]
    refine List.Perm.append_right [b] ?_
    have h1 := (List.filter_append_perm (fun i => contF es i == i) (List.range es.length)).map (nth es)
    rw [map_nth, List.map_append] at h1
    exact (List.perm_append_comm).trans h1
  have h2 := rip_extra (l := keptE es ++ [b]) (((List.range es.length).filter fun i => !(contF es i == i)).map (nth es)) (fun x hx => by
    obtain ⟨i, hi, rfl⟩ := List.mem_map.1 hx
    have hil : i < es.length := by have := (List.mem_filter.1 hi).1; simpa using this
    obtain ⟨y, hy, hs⟩ := keptE_sub hb _ (nth_mem hil)
    exact ⟨y, by simp [hy], hs⟩)
  rw [← h2]
  exact ⟨fun h => Rip.perm hp h, fun h => Rip.perm hp.symm h⟩
theorem acyc_kept (hn : n ≤ 32) (hb : ∀ x ∈ es, x < 2 ^ n) {b : Nat} (h : b < 2 ^ n) : Acyc n (keptE es ++ [b]) ↔ Acyc n (es ++ [b]) := by
  rw [acyc_iff hn (fun x hx => ?_), acyc_iff hn (fun x hx => ?_)]
  · exact rip_kept (fun x hx => Nat.lt_of_lt_of_le (hb x hx) (two_pow_le hn)) b
  · rw [List.mem_append, List.mem_singleton] at hx
    rcases hx with h1 | rfl
    · exact hb x h1
    · exact h
  · rw [List.mem_append, List.mem_singleton] at hx
    rcases hx with h1 | rfl
    · exact hb x (keptE_mem x h1)
    · exact h
theorem keptI_take {k : Nat} (h : k < es.length) : (List.range (k + 1)).filter (fun i => contF es i == i) = (List.range k).filter (fun i => contF es i == i) ++ (if contF es k = k then [k] else []) := by
  rw [List.range_succ, List.filter_append]
  by_cases h0 : contF es k = k
  · simp [h0]
  · simp [h0]
end
end Go.Proofs.YtjofdlafblpclaaDoor
