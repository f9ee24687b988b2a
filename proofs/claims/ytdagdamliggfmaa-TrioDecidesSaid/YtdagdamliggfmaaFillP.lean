/-
  Plain facts for the filling of trios: the number of adjacent pairs grows with each round.
-/
import Derived.Test.YtdagdamliggfmaaTrioP
namespace Go.Proofs.Ytdagdamliggfmaa

def prs (n : Nat) : List (Nat × Nat) := (List.range' 0 n).flatMap fun a => (List.range' 0 n).map fun b => (a, b)
/-- The number of ordered adjacent pairs. -/
def cnt (es : List Nat) (n : Nat) : Nat := (prs n).countP fun p => adjB es p.1 p.2
theorem mem_prs {n a b : Nat} : (a, b) ∈ prs n ↔ a < n ∧ b < n := by
  simp only [prs, List.mem_flatMap, List.mem_map, List.mem_range', Prod.mk.injEq]
  constructor
  · rintro ⟨x, ⟨i, hi, rfl⟩, y, ⟨k, hk, rfl⟩, rfl, rfl⟩; omega
  · rintro ⟨h1, h2⟩; exact ⟨a, ⟨a, h1, by omega⟩, b, ⟨b, h2, by omega⟩, rfl, rfl⟩
theorem prs_length (n : Nat) : (prs n).length = n * n := by
  have : ∀ l : List Nat, (l.flatMap fun a => (List.range' 0 n).map fun b => (a, b)).length = l.length * n := by
    intro l
    induction l with
    | nil => simp
    | cons x l ih => simp only [List.flatMap_cons, List.length_append, List.length_map, List.length_range', ih, List.length_cons, Nat.add_mul]; omega
  rw [prs, this, List.length_range']
theorem countP_strict {α : Type} (p q : α → Bool) : ∀ l : List α, (∀ x ∈ l, p x = true → q x = true) → (∃ x ∈ l, p x = false ∧ q x = true) → l.countP p < l.countP q := by
  intro l
  induction l with
  | nil => rintro _ ⟨x, hx, _⟩; simp at hx
  | cons y l ih =>
    rintro h ⟨x, hx, hp, hq⟩
    have hle : l.countP p ≤ l.countP q := List.countP_mono_left (fun x hx => h x (by simp [hx]))
    rw [List.countP_cons, List.countP_cons]
    rcases List.mem_cons.1 hx with rfl | hx
    · rw [hp, hq]; simp; omega
    · have := ih (fun x hx => h x (by simp [hx])) ⟨x, hx, hp, hq⟩
      have hy := h y (by simp)
      cases hpy : p y with
      | true => rw [hy hpy]; simp; omega
      | false => cases q y <;> simp <;> omega
theorem cnt_lt (es : List Nat) {n : Nat} (hn : 0 < n) : cnt es n < n * n := by
  have h := countP_strict (fun p : Nat × Nat => adjB es p.1 p.2) (fun _ => true) (prs n) (fun _ _ _ => rfl) ⟨(0, 0), mem_prs.2 ⟨hn, hn⟩, by simp [adjB], rfl⟩
  rw [List.countP_true, prs_length] at h
  exact h
/-- One graph's adjacent pairs are another's, and some pair is new. -/
theorem cnt_grows {es fs : List Nat} {n a b : Nat} (h : ∀ x y, adjB es x y = true → adjB fs x y = true) (ha : a < n) (hb : b < n) (h1 : adjB es a b = false) (h2 : adjB fs a b = true) : cnt es n < cnt fs n :=
  countP_strict _ _ _ (fun p _ hp => h _ _ hp) ⟨(a, b), mem_prs.2 ⟨ha, hb⟩, h1, h2⟩
theorem cnt_congr {es fs : List Nat} {n : Nat} (h : ∀ x y, x < n → y < n → adjB es x y = adjB fs x y) : cnt es n = cnt fs n := by
  unfold cnt
  apply List.countP_congr
  rintro ⟨a, b⟩ hp
  obtain ⟨ha, hb⟩ := mem_prs.1 hp
  simp [h a b ha hb]
/-- The edges of the two first vertices of trios. -/
def fillE (l : List (Nat × Nat × Nat)) : List Nat := l.map fun t => 2 ^ t.1 ||| 2 ^ t.2.1
theorem bit_pair {a b i : Nat} : (2 ^ a ||| 2 ^ b).testBit i = (decide (i = a) || decide (i = b)) := by
  rw [Nat.testBit_or, Nat.testBit_two_pow, Nat.testBit_two_pow]
  congr 1 <;> exact decide_eq_decide.2 eq_comm
theorem adjB_append_left {es fs : List Nat} {x y : Nat} (h : adjB es x y = true) : adjB (es ++ fs) x y = true := by
  unfold adjB at h ⊢
  rw [Bool.and_eq_true] at h ⊢
  exact ⟨h.1, by rw [List.any_append, h.2]; rfl⟩
theorem adjB_fill {es : List Nat} {l : List (Nat × Nat × Nat)} {t : Nat × Nat × Nat} (ht : t ∈ l) (hne : t.1 ≠ t.2.1) : adjB (es ++ fillE l) t.1 t.2.1 = true := by
  unfold adjB
  rw [Bool.and_eq_true]
  refine ⟨decide_eq_true hne, ?_⟩
  rw [List.any_eq_true]
  exact ⟨_, List.mem_append_right _ (List.mem_map.2 ⟨t, ht, rfl⟩), by simp [bit_pair]⟩
/-- The pairs of adjacent vertices as edges, from (v, w) on. -/
def pairW (es : List Nat) (v w : Nat) : List Nat := (List.range' w (v - w)).flatMap fun w => if es.any (fun e => e.testBit v && e.testBit w) then [2 ^ v ||| 2 ^ w] else []
def pairV (es : List Nat) (n v : Nat) : List Nat := (List.range' v (n - v)).flatMap fun v => pairW es v 0
def pairL (es : List Nat) (n : Nat) : List Nat := pairV es n 0
theorem pairW_step {es : List Nat} {v w : Nat} (h : w < v) : pairW es v w = (if es.any (fun e => e.testBit v && e.testBit w) then [2 ^ v ||| 2 ^ w] else []) ++ pairW es v (w + 1) := by unfold pairW; rw [range'_step h, List.flatMap_cons]
theorem pairW_end {es : List Nat} {v w : Nat} (h : v ≤ w) : pairW es v w = [] := by unfold pairW; rw [range'_end h]; rfl
theorem pairV_step {es : List Nat} {n v : Nat} (h : v < n) : pairV es n v = pairW es v 0 ++ pairV es n (v + 1) := by unfold pairV; rw [range'_step h, List.flatMap_cons]
theorem pairV_end {es : List Nat} {n v : Nat} (h : n ≤ v) : pairV es n v = [] := by unfold pairV; rw [range'_end h]; rfl
theorem mem_pairL {es : List Nat} {n e : Nat} : e ∈ pairL es n ↔ ∃ v w, v < n ∧ w < v ∧ es.any (fun e => e.testBit v && e.testBit w) = true ∧ e = 2 ^ v ||| 2 ^ w := by
  simp only [pairL, pairV, pairW, List.mem_flatMap, List.mem_range']
  constructor
  · rintro ⟨v, ⟨i, hi, rfl⟩, w, ⟨k, hk, rfl⟩, he⟩
    split at he
    · rename_i h
      simp only [List.mem_singleton] at he
      exact ⟨_, _, by omega, by omega, h, he⟩
    · simp at he
  · rintro ⟨v, w, h1, h2, h3, rfl⟩
    exact ⟨v, ⟨v, by omega, by omega⟩, w, ⟨w, by omega, by omega⟩, by rw [if_pos h3]; simp⟩
theorem pairL_length (es : List Nat) {n : Nat} (hn : n ≤ 6) : (pairL es n).length ≤ 36 := by
  have h := length_flatMap_le (fun v => pairW es v 0) 6 (List.range' 0 (n - 0)) (fun v hv => by
    have h2 := length_flatMap_le (fun w => if es.any (fun e => e.testBit v && e.testBit w) then [2 ^ v ||| 2 ^ w] else []) 1 (List.range' 0 (v - 0)) (fun w _ => by split <;> simp)
    rw [List.length_range'] at h2
    unfold pairW
    simp only [List.mem_range'] at hv
    obtain ⟨i, hi, rfl⟩ := hv
    omega)
  rw [List.length_range'] at h
  unfold pairL pairV
  omega
theorem adjB_pairL {es : List Nat} {n x y : Nat} (hx : x < n) (hy : y < n) : adjB (pairL es n) x y = adjB es x y := by
  by_cases hxy : x = y
  · simp [adjB, hxy]
  unfold adjB
  congr 1
  rw [Bool.eq_iff_iff, List.any_eq_true, List.any_eq_true]
  constructor
  · rintro ⟨e, he, hb⟩
    obtain ⟨v, w, h1, h2, h3, rfl⟩ := mem_pairL.1 he
    rw [List.any_eq_true] at h3
    obtain ⟨f, hf, hfb⟩ := h3
    refine ⟨f, hf, ?_⟩
    rw [bit_pair, bit_pair] at hb
    simp only [Bool.and_eq_true, Bool.or_eq_true, decide_eq_true_eq] at hb hfb ⊢
    rcases hb with ⟨rfl | rfl, rfl | rfl⟩ <;> simp_all
  · rintro ⟨e, he, hb⟩
    simp at hb
    rcases Nat.lt_or_gt_of_ne hxy with h | h
    · exact ⟨2 ^ y ||| 2 ^ x, mem_pairL.2 ⟨y, x, hy, h, by rw [List.any_eq_true]; exact ⟨e, he, by simp [hb]⟩, rfl⟩, by simp [bit_pair]⟩
    · exact ⟨2 ^ x ||| 2 ^ y, mem_pairL.2 ⟨x, y, hx, h, by rw [List.any_eq_true]; exact ⟨e, he, by simp [hb]⟩, rfl⟩, by simp [bit_pair]⟩
theorem pairL_lt {es : List Nat} {n e : Nat} (h : e ∈ pairL es n) : e < 2 ^ n := by
  obtain ⟨v, w, h1, h2, _, rfl⟩ := mem_pairL.1 h
  exact Nat.or_lt_two_pow (Nat.pow_lt_pow_right (by omega) h1) (Nat.pow_lt_pow_right (by omega) (by omega))
theorem fillE_lt {es : List Nat} {m n e : Nat} (hmn : m ≤ n) (h : e ∈ fillE (rtrios es m)) : e < 2 ^ n := by
  obtain ⟨t, ht, rfl⟩ := List.mem_map.1 h
  have := mem_rtrios ht
  unfold isT at this
  rw [Bool.and_eq_true] at this
  obtain ⟨h1, h2, h3⟩ := of_decide_eq_true this.1
  exact Nat.or_lt_two_pow (Nat.pow_lt_pow_right (by omega) (by omega)) (Nat.pow_lt_pow_right (by omega) (by omega))
/-- In a graph whose adjacent pairs are those of es with the new edges, no trio of the list is left. -/
theorem fill_isT {es fs : List Nat} {m n : Nat} (hmn : m ≤ n) (h : ∀ x y, x < n → y < n → adjB fs x y = adjB (es ++ fillE (rtrios es m)) x y) {t : Nat × Nat × Nat} (ht : t ∈ rtrios es m) : isT fs m t.1 t.2.1 t.2.2 = false := by
  have hT := mem_rtrios ht
  unfold isT at hT
  rw [Bool.and_eq_true] at hT
  obtain ⟨h1, h2, h3⟩ := of_decide_eq_true hT.1
  have : adjB fs t.1 t.2.1 = true := by
    rw [h _ _ (by omega) (by omega)]
    exact adjB_fill ht (by omega)
  simp [isT, this]
theorem fill_cnt {es fs : List Nat} {m n : Nat} (hmn : m ≤ n) (h : ∀ x y, x < n → y < n → adjB fs x y = adjB (es ++ fillE (rtrios es m)) x y) (hne : rtrios es m ≠ []) : cnt es n < cnt fs n := by
  obtain ⟨t, ht⟩ := List.exists_mem_of_ne_nil _ hne
  have hT := mem_rtrios ht
  unfold isT at hT
  rw [Bool.and_eq_true] at hT
  obtain ⟨h1, h2, h3⟩ := of_decide_eq_true hT.1
  have hab : adjB es t.1 t.2.1 = false := by
    have := hT.2
    simp at this
    exact this.2.2
  rw [cnt_congr h]
  exact cnt_grows (fun x y hxy => adjB_append_left hxy) (show t.1 < n by omega) (show t.2.1 < n by omega) hab (adjB_fill ht (by omega))
end Go.Proofs.Ytdagdamliggfmaa
