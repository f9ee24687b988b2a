/-
Plain: connex.Path answers the first of the shortest free-paths, as the reference's search does.
Plain: an acyclic graph is free-connex if and only if it has no free-path.
-/
import Derived.Test.YtjofdlafblpclaaDoorK4
import Derived.Test.YtjofdlafblpclaaDoorK11
import Derived.Test.YtjofdlafblpclaaDoorK9
namespace Go.Proofs.YtjofdlafblpclaaDoor

/-- a comes before b. -/
def LtL (a b : List Nat) : Prop := ∃ i, i < a.length ∧ (∀ j, j < i → nth a j = nth b j) ∧ nth a i < nth b i
def LeL (a b : List Nat) : Prop := a = b ∨ LtL a b
theorem nth_ext {a b : List Nat} (hl : a.length = b.length) (h : ∀ i, i < a.length → nth a i = nth b i) : a = b := by
  apply List.ext_getElem hl
  intro i h1 h2
  rw [← nth_eq h1, ← nth_eq h2]; exact h i h1
theorem LtL.trans {a b c : List Nat} (hl : a.length = b.length) (h1 : LtL a b) (h2 : LtL b c) : LtL a c := by
  obtain ⟨i, hi, e1, l1⟩ := h1
  obtain ⟨j, hj, e2, l2⟩ := h2
  rcases Nat.lt_trichotomy i j with h | rfl | h
  · exact ⟨i, hi, fun k hk => (e1 k hk).trans (e2 k (by omega)), by rw [← e2 i h]; exact l1⟩
  · exact ⟨i, hi, fun k hk => (e1 k hk).trans (e2 k hk), by omega⟩
  · exact ⟨j, by omega, fun k hk => (e1 k (by omega)).trans (e2 k hk), by rw [e1 j h]; exact l2⟩
theorem LeL.trans {a b c : List Nat} (hl : a.length = b.length) (h1 : LeL a b) (h2 : LeL b c) : LeL a c := by
  rcases h1 with rfl | h1
  · exact h2
  · rcases h2 with rfl | h2
    · exact .inr h1
    · exact .inr (h1.trans hl h2)
theorem LtL.irr {a : List Nat} : ¬ LtL a a := by
  rintro ⟨i, _, _, h⟩; omega
theorem LeL.not {a b : List Nat} (hl : a.length = b.length) (h : LeL a b) : ¬ LtL b a := by
  intro h2
  rcases h with rfl | h
  · exact LtL.irr h2
  · exact LtL.irr (h.trans hl h2)
theorem nth_snocZ {p : List Nat} {v i : Nat} : nth (p ++ [v]) i = if i < p.length then nth p i else if i = p.length then v else 0 := by
  simp only [nth, List.getD]
  by_cases h : i < p.length
  · rw [if_pos h, List.getElem?_append_left h]
  · rw [if_neg h, List.getElem?_append_right (by omega)]
    by_cases h2 : i = p.length
    · subst h2; simp
    · rw [if_neg h2, List.getElem?_eq_none (by simp; omega)]; rfl
/-- The reference's search, f vertices lacking. -/
def srchF (G : List Nat → Bool) (n : Nat) : Nat → List Nat → Option (List Nat)
  | 0, p => if G p then some p else none
  | f + 1, p => (List.range n).findSome? fun v => srchF G n f (p ++ [v])
def robsF (G : List Nat → Bool) (n : Nat) : Option (List Nat) := (List.range (n + 1)).findSome? fun m => if 3 ≤ m then srchF G n m [] else none

theorem findSome_at {α : Type} {g : Nat → Option α} {n k : Nat} {x : α} (h1 : ∀ j, j < k → g j = none) (h2 : g k = some x) (h3 : k < n) : (List.range n).findSome? g = some x := by
  rw [List.findSome?_eq_some_iff]
  refine ⟨List.range k, k, List.range' (k + 1) (n - (k + 1)), ?_, h2, fun a ha => h1 a (by simpa using ha)⟩
  rw [List.range_eq_range', List.range_eq_range', ← List.range'_succ, show n - (k + 1) + 1 = n - k by omega]
  have := List.range'_append (s := 0) (m := k) (n := n - k) (step := 1)
  simp only [Nat.one_mul, Nat.zero_add] at this
  rw [this, show k + (n - k) = n by omega]
theorem findSome_none {α : Type} {g : Nat → Option α} {n : Nat} (h : ∀ j, j < n → g j = none) : (List.range n).findSome? g = none := by
  rw [List.findSome?_eq_none_iff]; intro x hx; exact h x (by simpa using hx)
section
variable {G : List Nat → Bool} {n : Nat}
theorem srch_none : ∀ (f : Nat) (p : List Nat), (∀ l, l.length = p.length + f → (∀ i, i < l.length → nth l i < n) → (∀ i, i < p.length → nth l i = nth p i) → (∀ i, i < p.length → nth p i < n) → G l = false) → (∀ i, i < p.length → nth p i < n) → srchF G n f p = none
  | 0, p, h, hp => by
    rw [srchF, h p rfl hp (fun _ _ => rfl) hp]; rfl
  | f + 1, p, h, hp => by
    rw [srchF]
    refine findSome_none fun v hv => srch_none f _ (fun l hl hlt he _ => h l (by simp at hl; omega) hlt (fun i hi => ?_) hp) (fun i hi => ?_)
    · rw [he i (by simp; omega), nth_snocZ, if_pos hi]
    · rw [nth_snocZ]
      split
      · exact hp i (by assumption)
      · split
        · exact hv
        · omega
/-- The search answers the first good list. -/
theorem srch_some {o : List Nat} (hG : G o = true) (ho : ∀ i, i < o.length → nth o i < n) (hmin : ∀ l, l.length = o.length → G l = true → (∀ i, i < l.length → nth l i < n) → LeL o l) : ∀ (f : Nat) (p : List Nat), o.length = p.length + f → (∀ i, i < p.length → nth o i = nth p i) → srchF G n f p = some o
  | 0, p, hl, he => by
    have : p = o := nth_ext (by omega) fun i hi => (he i hi).symm
    subst this
    rw [srchF, hG]; rfl
  | f + 1, p, hl, he => by
    have hpn : ∀ i, i < p.length → nth p i < n := fun i hi => by rw [← he i hi]; exact ho i (by omega)
    rw [srchF]
    refine findSome_at (k := nth o p.length) (fun v hv => ?_) (srch_some hG ho hmin f _ (by simp; omega) fun i hi => ?_) (ho _ (by omega))
    · have hvn : v < n := by have := ho p.length (by omega); omega
      refine srch_none f _ (fun l hl2 hlt he2 _ => ?_) (fun i hi => ?_)
      · rw [← Bool.not_eq_true]
        intro hgl
        rw [List.length_append, List.length_singleton] at hl2
        refine (hmin l (by omega) hgl hlt).not (by omega) ⟨p.length, by omega, fun j hj => ?_, ?_⟩
        · rw [he2 j (by simp; omega), nth_snocZ, if_pos hj, he j hj]
        · rw [he2 p.length (by simp), nth_snocZ, if_neg (by omega), if_pos rfl]; exact hv
      · rw [nth_snocZ]
        split
        · exact hpn i (by assumption)
        · split
          · exact hvn
          · omega
    · rw [List.length_append, List.length_singleton] at hi
      rw [nth_snocZ]
      split
      · exact he i (by assumption)
      · rw [if_pos (by omega)]
        congr 1; omega
end
theorem pigeon : ∀ (n : Nat) (l : List Nat), l.Nodup → (∀ x ∈ l, x < n) → l.length ≤ n
  | 0, l, _, h => by
    cases l with
    | nil => simp
    | cons x l => exact absurd (h x (by simp)) (by omega)
  | n + 1, l, hd, h => by
    by_cases hm : n ∈ l
    · have h1 := pigeon n (l.erase n) (hd.erase n) (fun x hx => by
        have h2 := (hd.mem_erase_iff).1 hx
        have h3 := h x h2.2
        have h4 : x ≠ n := h2.1
        omega)
      rw [List.length_erase_of_mem hm] at h1
      omega
    · have h1 := pigeon n l hd (fun x hx => by
        have h3 := h x hx
        have h4 : x ≠ n := fun e => hm (e ▸ hx)
        omega)
      omega
end Go.Proofs.YtjofdlafblpclaaDoor
namespace Go.Proofs.YtjofdlafblpclaaDoor
set_option linter.unusedVariables false

/-- A free-path, by its vertices. -/
structure FreeP (R : List Nat) (n f : Nat) (l : List Nat) : Prop where
  len : 3 ≤ l.length
  lt : ∀ i, i < l.length → nth l i < n
  ends : ∀ i, i < l.length → ((i = 0 ∨ i + 1 = l.length) ↔ nth l i < f)
  dis : ∀ i j, j < i → i < l.length → nth l i ≠ nth l j
  link : ∀ i j, j < i → i < l.length → ((nth R (nth l i)).testBit (nth l j) = true ↔ j + 1 = i)
section
variable {n f : Nat} {es : List Nat}
theorem inth_ints9 {D : List Nat} {i : Nat} (h : i < D.length) : inth (ints D) i = (nth D i : Int) := inth_ints h
theorem adj31_iff {a b : Nat} (hn : n ≤ 32) (hb : ∀ e ∈ es, e < 2 ^ n) (ha : a < n) : adj31 es a b = true ↔ (nth (adjRow n es) a).testBit b = true := by
  rw [nth_adjRow (by omega), if_pos ha, adj_bit (fun e he => Nat.lt_of_lt_of_le (hb e he) (two_pow_le hn)) (by omega)]
  simp only [adj31, Bool.and_eq_true, decide_eq_true_eq, List.any_eq_true]
  constructor
  · rintro ⟨h1, e, h2, h3, h4⟩; exact ⟨fun h => h1 h.symm, e, h2, h3, h4⟩
  · rintro ⟨h1, e, h2, h3, h4⟩; exact ⟨fun h => h1 h.symm, e, h2, h3, h4⟩
theorem isB_iff (hn : n ≤ 32) (hb : ∀ e ∈ es, e < 2 ^ n) {l : List Nat} (hl : ∀ i, i < l.length → nth l i < n) : isB es f (ints l) = true ↔ FreeP (adjRow n es) n f l := by
  rw [isB, isTo]
  simp only [Bool.and_eq_true, decide_eq_true_eq, List.all_eq_true, List.mem_range, rowB, endAt, ints_length, beq_iff_eq]
  constructor
  · rintro ⟨h0, h1⟩
    refine ⟨h0, hl, fun i hi => ?_, fun i j hj hi => ?_, fun i j hj hi => ?_⟩
    · have := (h1 i hi).1
      rw [inth_ints9 hi] at this
      rw [Bool.eq_iff_iff] at this
      simpa using this
    · have := ((h1 i hi).2 j hj).1
      rw [inth_ints9 hi, inth_ints9 (by omega)] at this
      intro e; rw [e] at this; exact this rfl
    · have := ((h1 i hi).2 j hj).2
      rw [inth_ints9 hi, inth_ints9 (by omega)] at this
      simp only [Int.toNat_natCast] at this
      rw [← adj31_iff hn hb (hl i hi), this]; simp
  · rintro ⟨h0, _, h2, h3, h4⟩
    refine ⟨h0, fun i hi => ⟨?_, fun j hj => ⟨?_, ?_⟩⟩⟩
    · rw [inth_ints9 hi, Bool.eq_iff_iff]
      simpa using h2 i hi
    · rw [inth_ints9 hi, inth_ints9 (by omega)]
      intro e; exact h3 i j hj hi (by omega)
    · rw [inth_ints9 hi, inth_ints9 (by omega)]
      simp only [Int.toNat_natCast]
      rw [Bool.eq_iff_iff, adj31_iff hn hb (hl i hi), h4 i j hj hi]; simp
end
/-! ### Levels -/
section
variable {R : List Nat} {inn f a : Nat}
theorem seen_at (hb : ∀ x ∈ R, x < 4294967296) : ∀ k v, (bord R inn a k).1.testBit v = true ↔ ∃ j, j < k ∧ (bord R inn a j).2.testBit v = true
  | 0, v => by
    constructor
    · intro h
      have h' : (0 : Nat).testBit v = true := h
      simp at h'
    · rintro ⟨j, hj, _⟩; omega
  | k + 1, v => by
    have e : (bord R inn a (k + 1)).1 = (bord R inn a k).1 ||| (bord R inn a k).2 := rfl
    rw [e, Nat.testBit_or, Bool.or_eq_true, seen_at hb k v]
    constructor
    · rintro (⟨j, hj, h⟩ | h)
      · exact ⟨j, by omega, h⟩
      · exact ⟨k, by omega, h⟩
    · rintro ⟨j, hj, h⟩
      by_cases hjk : j = k
      · subst hjk; exact .inr h
      · exact .inl ⟨j, by omega, h⟩
theorem bord_next (hb : ∀ x ∈ R, x < 4294967296) (k v : Nat) : (bord R inn a (k + 1)).2.testBit v = true ↔ (orTo R (bord R inn a k).2 32).testBit v = true ∧ inn.testBit v = true ∧ ¬ ∃ j, j ≤ k ∧ (bord R inn a j).2.testBit v = true := by
  obtain ⟨l1, l2⟩ := bord_lt (inn := inn) (a := a) hb k
  have e : (bord R inn a (k + 1)).2 = andn (orTo R (bord R inn a k).2 32 &&& inn) ((bord R inn a k).1 ||| (bord R inn a k).2) := rfl
  have e2 : ((bord R inn a k).1 ||| (bord R inn a k).2).testBit v = true ↔ ∃ j, j ≤ k ∧ (bord R inn a j).2.testBit v = true := by
    have h := seen_at (inn := inn) (a := a) hb (k + 1) v
    have e3 : (bord R inn a (k + 1)).1 = (bord R inn a k).1 ||| (bord R inn a k).2 := rfl
    rw [e3] at h
    rw [h]
    constructor
    · rintro ⟨j, h1, h2⟩; exact ⟨j, by omega, h2⟩
    · rintro ⟨j, h1, h2⟩; exact ⟨j, by omega, h2⟩
  rw [e, testBit_andn (Nat.or_lt_two_pow (n := 32) l1 l2) (Nat.lt_of_le_of_lt Nat.and_le_left (orTo_lt9 hb _ 32)), ← e2]
  simp only [Nat.testBit_and, Bool.and_eq_true, Bool.not_eq_true']
  constructor
  · rintro ⟨⟨h1, h2⟩, h3⟩; exact ⟨h1, h2, by rw [h3]; simp⟩
  · rintro ⟨h1, h2, h3⟩
    refine ⟨⟨h1, h2⟩, ?_⟩
    cases h4 : ((bord R inn a k).1 ||| (bord R inn a k).2).testBit v with
    | false => rfl
    | true => exact absurd h4 h3
/-- Levels are apart. -/
theorem bord_apart (hb : ∀ x ∈ R, x < 4294967296) {j k v : Nat} (h1 : (bord R inn a j).2.testBit v = true) (h2 : (bord R inn a k).2.testBit v = true) : j = k := by
  rcases Nat.lt_trichotomy j k with h | h | h
  · cases k with
    | zero => omega
    | succ k => exact absurd ⟨j, by omega, h1⟩ ((bord_next hb k v).1 h2).2.2
  · exact h
  · cases j with
    | zero => omega
    | succ j => exact absurd ⟨k, by omega, h2⟩ ((bord_next hb j v).1 h1).2.2
/-- A step within the inner vertices goes to a level at most one higher. -/
theorem bord_step (hb : ∀ x ∈ R, x < 4294967296) {k u v : Nat} (hu : (bord R inn a k).2.testBit u = true) (hg : (nth R u).testBit v = true) (hi : inn.testBit v = true) : ∃ j, j ≤ k + 1 ∧ (bord R inn a j).2.testBit v = true := by
  by_cases h : ∃ j, j ≤ k ∧ (bord R inn a j).2.testBit v = true
  · obtain ⟨j, h1, h2⟩ := h; exact ⟨j, by omega, h2⟩
  · exact ⟨k + 1, Nat.le_refl _, (bord_next hb k v).2 ⟨orTo_bit.2 ⟨u, bit_lt32 (bord_lt hb k).2 hu, hu, hg⟩, hi, h⟩⟩
theorem res_first {k : Nat} (h : resF R inn f a = some k) : lastF R inn f a k ≠ 0 ∧ ∀ j, j < k → lastF R inn f a j = 0 := by
  unfold resF at h
  rw [List.find?_range_eq_some] at h
  obtain ⟨h1, _, h3⟩ := h
  exact ⟨by simpa using h1, fun j hj => by simpa using h3 j hj⟩
theorem res_le {k : Nat} (hk : k < 33) (h : lastF R inn f a k ≠ 0) : ∃ j, j ≤ k ∧ resF R inn f a = some j := by
  cases hr : resF R inn f a with
  | none =>
    unfold resF at hr
    have := List.find?_eq_none.1 hr k (by simpa using hk)
    simp at this
    exact absurd this h
  | some j =>
    refine ⟨j, ?_, rfl⟩
    rcases Nat.lt_or_ge k j with h1 | h1
    · exact absurd ((res_first hr).2 k h1) h
    · exact h1
theorem last_bit {k v : Nat} : (lastF R inn f a k).testBit v = true ↔ (∃ u, u < 32 ∧ (bord R inn a k).2.testBit u = true ∧ (nth R u).testBit v = true) ∧ (farF R f a).testBit v = true := by
  unfold lastF
  rw [Nat.testBit_and, Bool.and_eq_true, orTo_bit]
  rfl
end
section
variable {R : List Nat} {inn f : Nat}
/-- The search keeps the least number of steps and all who reach it. -/
theorem sh_min (b : Nat) : ∀ a, a < b → ∀ k, resF R inn f a = some k → (shTo R inn f b).1 ≠ 0 ∧ (shTo R inn f b).1 ≤ k + 2 ∧ ((shTo R inn f b).1 = k + 2 → (shTo R inn f b).2 a = lastF R inn f a k) := by
  induction b with
  | zero => intro a h; omega
  | succ b ih =>
    intro a ha k hk
    rw [shTo]
    unfold shStep
    by_cases hab : a = b
    · subst hab
      rw [hk]
      simp only
      split
      · exact ⟨by simp only; omega, Nat.le_refl _, fun _ => by simp⟩
      · rename_i h9
        split
        · rename_i h8
          exact ⟨by simp only; omega, by simp only; omega, fun _ => by simp⟩
        · exact ⟨by omega, by omega, fun h => absurd h.symm (by assumption)⟩
    · obtain ⟨h1, h2, h3⟩ := ih a (by omega) k hk
      cases hr : resF R inn f b with
      | none => exact ⟨h1, h2, h3⟩
      | some m =>
        simp only
        split
        · rename_i h9
          have h8 : m + 2 < (shTo R inn f b).1 := by rcases h9 with h | h <;> omega
          exact ⟨by simp only; omega, by simp only; omega, fun h => by simp only at h; omega⟩
        · split
          · refine ⟨h1, h2, fun h => ?_⟩
            simp only
            rw [if_neg hab]
            exact h3 h
          · exact ⟨h1, h2, h3⟩
theorem sh_some (b : Nat) : (shTo R inn f b).1 ≠ 0 → ∃ a, a < b ∧ (shTo R inn f b).2 a ≠ 0 := by
  induction b with
  | zero => intro h; exact absurd rfl h
  | succ b ih =>
    rw [shTo]
    unfold shStep
    cases hr : resF R inn f b with
    | none => intro h; obtain ⟨a, h1, h2⟩ := ih h; exact ⟨a, by omega, h2⟩
    | some m =>
      have hl := (res_first hr).1
      simp only
      split
      · intro _; exact ⟨b, by omega, by simpa using hl⟩
      · split
        · intro _; exact ⟨b, by omega, by simpa using hl⟩
        · intro h; obtain ⟨a, h1, h2⟩ := ih h; exact ⟨a, by omega, h2⟩
end
end Go.Proofs.YtjofdlafblpclaaDoor
namespace Go.Proofs.YtjofdlafblpclaaDoor
set_option linter.unusedVariables false
section
variable {n f : Nat} {es : List Nat}
theorem inn_bit (hn : n ≤ 32) (hf : f ≤ n) {v : Nat} : (innF n f).testBit v = true ↔ f ≤ v ∧ v < n := by
  unfold innF
  rw [testBit_andn (below_lt9 (by omega)) (below_lt9 hn), Nat.testBit_two_pow_sub_one, Nat.testBit_two_pow_sub_one]
  simp
  omega
theorem far_bit {R : List Nat} (hb : ∀ x ∈ R, x < 4294967296) (hf : f ≤ 32) {a v : Nat} (ha : a < f) : (farF R f a).testBit v = true ↔ v < f ∧ (nth R a).testBit v = false ∧ v ≠ a := by
  have h1 := below_lt9 (f := f) (by omega)
  have h2 := nth_lt32 hb a
  have h3 : 2 ^ a < 2 ^ 32 := Nat.pow_lt_pow_right (by decide) (by omega)
  unfold farF
  have h4 : andn (2 ^ f - 1) (nth R a) < 2 ^ 32 := Nat.lt_of_le_of_lt Nat.and_le_left h1
  rw [testBit_andn h3 h4, testBit_andn h2 h1, Nat.testBit_two_pow_sub_one, Nat.testBit_two_pow]
  simp
  constructor
  · rintro ⟨⟨a1, a2⟩, a3⟩; exact ⟨a1, a2, fun e => a3 e.symm⟩
  · rintro ⟨a1, a2, a3⟩; exact ⟨⟨a1, a2⟩, fun e => a3 e.symm⟩
end
/-- A walk from a free vertex over inner ones to a free one that is far. -/
structure WkL (R : List Nat) (n f : Nat) (l : List Nat) : Prop where
  len : 3 ≤ l.length
  lt : ∀ i, i < l.length → nth l i < n
  st : nth l 0 < f
  inn : ∀ i, 1 ≤ i → i + 1 < l.length → (innF n f).testBit (nth l i) = true
  link : ∀ i, i + 1 < l.length → (nth R (nth l i)).testBit (nth l (i + 1)) = true
  far : (farF R f (nth l 0)).testBit (nth l (l.length - 1)) = true
theorem FreeP.wk {R : List Nat} {n f : Nat} {l : List Nat} (hn : n ≤ 32) (hf : f ≤ n) (hb : ∀ x ∈ R, x < 4294967296) (hs : Symm R) (h : FreeP R n f l) : WkL R n f l := by
  have hl := h.len
  refine ⟨h.len, h.lt, (h.ends 0 (by omega)).1 (.inl rfl), fun i h1 h2 => (inn_bit hn hf).2 ⟨?_, h.lt i (by omega)⟩, fun i hi => ?_, ?_⟩
  · rcases Nat.lt_or_ge (nth l i) f with h3 | h3
    · have := (h.ends i (by omega)).2 h3; omega
    · exact h3
  · have := h.lt i (by omega)
    have := h.lt (i + 1) (by omega)
    exact hs _ _ (by omega) (by omega) ((h.link (i + 1) i (by omega) hi).2 rfl)
  · refine (far_bit hb (by omega) ((h.ends 0 (by omega)).1 (.inl rfl))).2 ⟨(h.ends (l.length - 1) (by omega)).1 (.inr (by omega)), ?_, fun e => h.dis (l.length - 1) 0 (by omega) (by omega) e⟩
    cases h9 : (nth R (nth l 0)).testBit (nth l (l.length - 1)) with
    | false => rfl
    | true =>
      have := h.lt 0 (by omega)
      have := h.lt (l.length - 1) (by omega)
      have := (h.link (l.length - 1) 0 (by omega) (by omega)).1 (hs _ _ (by omega) (by omega) h9)
      omega
section
variable {R : List Nat} {n f : Nat} {l : List Nat}
theorem WkL.level (hb : ∀ x ∈ R, x < 4294967296) (h : WkL R n f l) : ∀ i, i + 2 < l.length → ∃ j, j ≤ i ∧ (bord R (innF n f) (nth l 0) j).2.testBit (nth l (i + 1)) = true
  | 0, hi => by
    refine ⟨0, Nat.le_refl _, ?_⟩
    show (nth R (nth l 0) &&& innF n f).testBit (nth l 1) = true
    rw [Nat.testBit_and, h.link 0 (by omega), h.inn 1 (by omega) hi]; rfl
  | i + 1, hi => by
    obtain ⟨j, h1, h2⟩ := h.level hb i (by omega)
    obtain ⟨j', h3, h4⟩ := bord_step hb h2 (h.link (i + 1) (by omega)) (h.inn (i + 1 + 1) (by omega) hi)
    exact ⟨j', by omega, h4⟩
theorem bord_small (hb : ∀ x ∈ R, x < 4294967296) {inn a j v : Nat} (h : (bord R inn a j).2.testBit v = true) : j < 32 := by
  refine bord_stop (inn := inn) (a := a) hb fun k hk h0 => ?_
  have := bord_zero h0 j hk
  rw [this] at h
  simp at h
theorem WkL.last (hb : ∀ x ∈ R, x < 4294967296) (hn : n ≤ 32) (h : WkL R n f l) : ∃ j, j + 3 ≤ l.length ∧ j < 32 ∧ (lastF R (innF n f) f (nth l 0) j).testBit (nth l (l.length - 1)) = true := by
  have hl := h.len
  obtain ⟨j, h1, h2⟩ := h.level hb (l.length - 3) (by omega)
  refine ⟨j, by omega, bord_small hb h2, last_bit.2 ⟨⟨nth l (l.length - 3 + 1), ?_, h2, ?_⟩, h.far⟩⟩
  · have := h.lt (l.length - 3 + 1) (by omega); omega
  · have := h.link (l.length - 3 + 1) (by omega)
    rwa [show l.length - 3 + 1 + 1 = l.length - 1 by omega] at this
theorem WkL.least (hb : ∀ x ∈ R, x < 4294967296) (hn : n ≤ 32) (h : WkL R n f l) : (shTo R (innF n f) f f).1 ≠ 0 ∧ (shTo R (innF n f) f f).1 + 1 ≤ l.length ∧
    (l.length = (shTo R (innF n f) f f).1 + 1 → ((shTo R (innF n f) f f).2 (nth l 0)).testBit (nth l (l.length - 1)) = true) := by
  obtain ⟨j, h1, h2, h3⟩ := h.last hb hn
  have hz : lastF R (innF n f) f (nth l 0) j ≠ 0 := by intro e; rw [e] at h3; simp at h3
  obtain ⟨k, hk, hr⟩ := res_le (by omega) hz
  obtain ⟨m1, m2, m3⟩ := sh_min f (nth l 0) h.st k hr
  refine ⟨m1, by omega, fun he => ?_⟩
  have hkj : k = j := by omega
  subst hkj
  rw [m3 (by omega)]
  exact h3
end
section
variable {n f a k : Nat} {es : List Nat}
/-- The path that walk builds. -/
theorem way_free {R : List Nat} (hb : ∀ x ∈ R, x < 4294967296) (hs : Symm R) (hn : n ≤ 32) (hf : f ≤ n) (ha : a < f) (hr : resF R (innF n f) f a = some k) :
    FreeP R n f (wkL (stg R (innF n f) (lastF R (innF n f) f a k)) R (k + 2) a (k + 2)) := by
  obtain ⟨hk, hmin⟩ := res_first hr
  have hll : lastF R (innF n f) f a k < 4294967296 := Nat.lt_of_le_of_lt Nat.and_le_left (orTo_lt9 hb _ 32)
  have hok := walk_ok (inn := innF n f) hb hs (show f ≤ 32 by omega) hk
  obtain ⟨S, hS⟩ : ∃ S, S = stg R (innF n f) (lastF R (innF n f) f a k) := ⟨_, rfl⟩
  rw [← hS] at hok ⊢
  have hSl : ∀ j, S j < 4294967296 := fun j => by rw [hS]; exact stg_lt hb hll j
  have hS0 : S 0 = lastF R (innF n f) f a k := by rw [hS]; rfl
  have hSi : ∀ j v, (S (j + 1)).testBit v = true → (innF n f).testBit v = true := fun j v hv => by
    rw [hS, stg_succ, Nat.testBit_and, Bool.and_eq_true] at hv
    exact hv.2
  obtain ⟨p, hp⟩ : ∃ p, p = wkC S R (k + 2) a := ⟨_, rfl⟩
  have hl : (wkL S R (k + 2) a (k + 2)).length = k + 3 := wkL_len _ _ _ _ _
  have hnth : ∀ i, i < k + 3 → nth (wkL S R (k + 2) a (k + 2)) i = p i := fun i hi => by
    rw [hp]; simp [wkL, nth, hi]
  have hstep : ∀ i, i < k + 2 → (S (k + 1 - i)).testBit (p (i + 1)) = true ∧ (nth R (p i)).testBit (p (i + 1)) = true := fun i hi => by
    have h0 := hok i hi
    rw [← hp] at h0
    obtain ⟨_, h2, _⟩ := lowb_spec (Nat.lt_of_le_of_lt Nat.and_le_left (hSl _)) h0
    rw [Nat.testBit_and, Bool.and_eq_true] at h2
    have e : p (i + 1) = lowb (S (k + 2 - 1 - i) &&& nth R (p i)) := by rw [hp, wkC_succ]
    rw [e]
    exact ⟨by rw [show k + 1 - i = k + 2 - 1 - i by omega]; exact h2.1, h2.2⟩
  have hp0 : p 0 = a := by rw [hp]; rfl
  have hin : ∀ i, 1 ≤ i → i ≤ k + 1 → (innF n f).testBit (p i) = true := fun i h1 h2 => by
    have := (hstep (i - 1) (by omega)).1
    rw [show i - 1 + 1 = i by omega, show k + 1 - (i - 1) = (k + 1 - i) + 1 by omega] at this
    exact hSi _ _ this
  have hend : (lastF R (innF n f) f a k).testBit (p (k + 2)) = true := by
    have := (hstep (k + 1) (by omega)).1
    rwa [Nat.sub_self, hS0] at this
  have hfar := (far_bit hb (show f ≤ 32 by omega) ha).1 (last_bit.1 hend).2
  have hinb : ∀ i, 1 ≤ i → i ≤ k + 1 → f ≤ p i ∧ p i < n := fun i h1 h2 => (inn_bit hn hf).1 (hin i h1 h2)
  have hlt : ∀ i, i ≤ k + 2 → p i < n := fun i hi => by
    by_cases h0 : i = 0
    · rw [h0, hp0]; omega
    · by_cases h1 : i = k + 2
      · rw [h1]; have := hfar.1; omega
      · exact (hinb i (by omega) (by omega)).2
  -- no vertex is at a level too low
  have hlow : ∀ d, ∀ i j, i + d = k + 1 → 1 ≤ i → j + 1 < i → (bord R (innF n f) a j).2.testBit (p i) = true → False := by
    intro d
    induction d with
    | zero =>
      intro i j h1 h2 h3 h4
      have hi : i = k + 1 := by omega
      subst hi
      have h5 := hmin j (by omega)
      have h6 : (lastF R (innF n f) f a j).testBit (p (k + 2)) = true := last_bit.2 ⟨⟨p (k + 1), by have := hlt (k + 1) (by omega); omega, h4, (hstep (k + 1) (by omega)).2⟩, (last_bit.1 hend).2⟩
      rw [h5] at h6; simp at h6
    | succ d ih =>
      intro i j h1 h2 h3 h4
      obtain ⟨j', h5, h6⟩ := bord_step hb h4 (hstep i (by omega)).2 (hin (i + 1) (by omega) (by omega))
      exact ih (i + 1) j' (by omega) (by omega) (by omega) h6
  have hlev : ∀ i, i ≤ k → (bord R (innF n f) a i).2.testBit (p (i + 1)) = true := by
    intro i
    induction i with
    | zero =>
      intro _
      show (nth R a &&& innF n f).testBit (p 1) = true
      have := (hstep 0 (by omega)).2
      rw [hp0] at this
      rw [Nat.testBit_and, this, hin 1 (by omega) (by omega)]; rfl
    | succ i ih =>
      intro hi
      obtain ⟨j, h1, h2⟩ := bord_step hb (ih (by omega)) (hstep (i + 1) (by omega)).2 (hin (i + 2) (by omega) (by omega))
      by_cases hj : j = i + 1
      · rwa [hj] at h2
      · exact (hlow (k + 1 - (i + 2)) (i + 2) j (by omega) (by omega) (by omega) h2).elim
  have hadj : ∀ i j, j < i → i ≤ k + 2 → (nth R (p j)).testBit (p i) = true → j + 1 = i := by
    intro i j hji hi hg
    by_cases h1 : i = k + 2
    · subst h1
      by_cases h0 : j = 0
      · subst h0
        rw [hp0, hfar.2.1] at hg; cases hg
      · by_cases hj : j = k + 1
        · omega
        · have h2 := hlev (j - 1) (by omega)
          rw [show j - 1 + 1 = j by omega] at h2
          have h3 : (lastF R (innF n f) f a (j - 1)).testBit (p (k + 2)) = true := last_bit.2 ⟨⟨p j, by have := hlt j (by omega); omega, h2, hg⟩, (last_bit.1 hend).2⟩
          rw [hmin (j - 1) (by omega)] at h3; simp at h3
    · have hli := hlev (i - 1) (by omega)
      rw [show i - 1 + 1 = i by omega] at hli
      by_cases h0 : j = 0
      · subst h0
        have h2 : (bord R (innF n f) a 0).2.testBit (p i) = true := by
          show (nth R a &&& innF n f).testBit (p i) = true
          rw [hp0] at hg
          rw [Nat.testBit_and, hg, hin i (by omega) (by omega)]; rfl
        have := bord_apart hb hli h2
        omega
      · have h2 := hlev (j - 1) (by omega)
        rw [show j - 1 + 1 = j by omega] at h2
        obtain ⟨j', h3, h4⟩ := bord_step hb h2 hg (hin i (by omega) (by omega))
        have := bord_apart hb hli h4
        omega
  refine ⟨by omega, fun i hi => by rw [hnth i (by omega)]; exact hlt i (by omega), fun i hi => ?_, fun i j hj hi => ?_, fun i j hj hi => ?_⟩
  · rw [hl] at hi ⊢
    rw [hnth i hi]
    by_cases h0 : i = 0
    · rw [h0, hp0]; exact ⟨fun _ => ha, fun _ => .inl rfl⟩
    · by_cases h1 : i = k + 2
      · rw [h1]; exact ⟨fun _ => hfar.1, fun _ => .inr (by omega)⟩
      · have := hinb i (by omega) (by omega)
        constructor
        · intro h; omega
        · intro h; omega
  · rw [hl] at hi
    rw [hnth i hi, hnth j (by omega)]
    intro e
    by_cases h1 : i = k + 2
    · subst h1
      by_cases h0 : j = 0
      · rw [h0, hp0] at e; exact hfar.2.2 e
      · have := hinb j (by omega) (by omega)
        have := hfar.1
        omega
    · have h2 := hinb i (by omega) (by omega)
      by_cases h0 : j = 0
      · rw [h0, hp0] at e; omega
      · have hli := hlev (i - 1) (by omega)
        have hlj := hlev (j - 1) (by omega)
        rw [show i - 1 + 1 = i by omega] at hli
        rw [show j - 1 + 1 = j by omega, ← e] at hlj
        have := bord_apart hb hli hlj
        omega
  · rw [hl] at hi
    rw [hnth i hi, hnth j (by omega)]
    have hi32 := hlt i (by omega)
    have hj32 := hlt j (by omega)
    constructor
    · intro hg
      exact hadj i j hj (by omega) (hs _ _ (by omega) (by omega) hg)
    · intro e
      subst e
      exact hs _ _ (by omega) (by omega) (hstep j (by omega)).2
end
end Go.Proofs.YtjofdlafblpclaaDoor
namespace Go.Proofs.YtjofdlafblpclaaDoor
set_option linter.unusedVariables false
section
variable {n f : Nat} {es : List Nat}
/-- The tail of a walk of the right length lies in the stages. -/
theorem WkL.stages {R : List Nat} (hb : ∀ x ∈ R, x < 4294967296) (hs : Symm R) (hn : n ≤ 32) {l : List Nat} (h : WkL R n f l) {last : Nat} (hl : last < 4294967296) (h0 : last.testBit (nth l (l.length - 1)) = true) : ∀ j, j + 2 ≤ l.length → (stg R (innF n f) last j).testBit (nth l (l.length - 1 - j)) = true
  | 0, _ => h0
  | j + 1, hj => by
    have ih := h.stages hb hs hn hl h0 j (by omega)
    have hg := h.link (l.length - 1 - (j + 1)) (by omega)
    rw [show l.length - 1 - (j + 1) + 1 = l.length - 1 - j by omega] at hg
    have h1 := h.lt (l.length - 1 - j) (by omega)
    have h2 := h.lt (l.length - 1 - (j + 1)) (by omega)
    rw [stg_succ, Nat.testBit_and, h.inn (l.length - 1 - (j + 1)) (by omega) (by omega), Bool.and_true]
    exact orTo_bit.2 ⟨nth l (l.length - 1 - j), by omega, ih, hs _ _ (by omega) (by omega) hg⟩
theorem le_of_first {p l : List Nat} (hl : p.length = l.length) (h : ∀ i, i < p.length → (∀ j, j < i → nth p j = nth l j) → nth p i ≤ nth l i) : LeL p l := by
  by_cases he : ∀ i, i < p.length → nth p i = nth l i
  · exact .inl (nth_ext hl he)
  · have hex : ∃ i, i < p.length ∧ nth p i ≠ nth l i := by
      refine Classical.byContradiction fun hn => he fun i hi => ?_
      refine Classical.byContradiction fun h2 => hn ⟨i, hi, h2⟩
    obtain ⟨i, hi⟩ := hex
    obtain ⟨m, ⟨hm1, hm2⟩, hm3⟩ := least (P := fun i => i < p.length ∧ nth p i ≠ nth l i) hi
    have heq : ∀ j, j < m → nth p j = nth l j := fun j hj => by
      refine Classical.byContradiction fun h2 => hm3 j hj ⟨by omega, h2⟩
    have := h m hm1 heq
    exact .inr ⟨m, hm1, heq, by omega⟩
theorem way_min {R : List Nat} (hb : ∀ x ∈ R, x < 4294967296) (hs : Symm R) (hn : n ≤ 32) (hf : f ≤ n) {a k : Nat} (ha : a < f) (hr : resF R (innF n f) f a = some k) {l : List Nat} (h : WkL R n f l) (hlen : l.length = k + 3)
    (hla : a ≤ nth l 0) (hlast : nth l 0 = a → (lastF R (innF n f) f a k).testBit (nth l (l.length - 1)) = true) : LeL (wkL (stg R (innF n f) (lastF R (innF n f) f a k)) R (k + 2) a (k + 2)) l := by
  obtain ⟨hk, _⟩ := res_first hr
  have hll : lastF R (innF n f) f a k < 4294967296 := Nat.lt_of_le_of_lt Nat.and_le_left (orTo_lt9 hb _ 32)
  have hok := walk_ok (inn := innF n f) hb hs (show f ≤ 32 by omega) hk
  have hlp : (wkL (stg R (innF n f) (lastF R (innF n f) f a k)) R (k + 2) a (k + 2)).length = k + 3 := wkL_len _ _ _ _ _
  have hnth : ∀ i, i < k + 3 → nth (wkL (stg R (innF n f) (lastF R (innF n f) f a k)) R (k + 2) a (k + 2)) i = wkC (stg R (innF n f) (lastF R (innF n f) f a k)) R (k + 2) a i := fun i hi => by
    simp [wkL, nth, hi]
  refine le_of_first (by omega) fun i hi he => ?_
  rw [hlp] at hi
  rw [hnth i hi]
  cases i with
  | zero => exact hla
  | succ i =>
    have h0 : nth l 0 = a := by
      have := he 0 (by omega)
      rw [hnth 0 (by omega)] at this
      exact this.symm
    have hi' := he i (by omega)
    rw [hnth i (by omega)] at hi'
    have hst := h.stages hb hs hn hll (hlast h0) (k + 2 - 1 - i) (by omega)
    rw [show l.length - 1 - (k + 2 - 1 - i) = i + 1 by omega] at hst
    have hg := h.link i (by omega)
    rw [← hi'] at hg
    have hz := hok i (by omega)
    obtain ⟨_, _, h3⟩ := lowb_spec (Nat.lt_of_le_of_lt Nat.and_le_left (stg_lt hb hll _)) hz
    rw [wkC_succ]
    rcases Nat.lt_or_ge (nth l (i + 1)) (lowb (stg R (innF n f) (lastF R (innF n f) f a k) (k + 2 - 1 - i) &&& nth R (wkC (stg R (innF n f) (lastF R (innF n f) f a k)) R (k + 2) a i))) with h5 | h5
    · have h6 := h3 _ h5
      rw [Nat.testBit_and, hst, hg] at h6
      cases h6
    · exact h5
theorem pathF_cases (n : Nat) (es : List Nat) (f : Nat) : (pathF n es f = none ∧ ∀ a, a < f → (shF n es f).2 a = 0) ∨ ∃ a, a < f ∧ (∀ b, b < a → (shF n es f).2 b = 0) ∧ (shF n es f).2 a ≠ 0 ∧ pathF n es f = some (wayF n es f a) := by
  by_cases h : ∀ a, a < f → (shF n es f).2 a = 0
  · exact .inl ⟨pathF_none h, h⟩
  · have hex : ∃ a, a < f ∧ (shF n es f).2 a ≠ 0 := by
      refine Classical.byContradiction fun hn => h fun a ha => ?_
      refine Classical.byContradiction fun h2 => hn ⟨a, ha, h2⟩
    obtain ⟨a, ha⟩ := hex
    obtain ⟨m, ⟨hm1, hm2⟩, hm3⟩ := least (P := fun a => a < f ∧ (shF n es f).2 a ≠ 0) ha
    have hz : ∀ b, b < m → (shF n es f).2 b = 0 := fun b hb => by
      refine Classical.byContradiction fun h2 => hm3 b hb ⟨by omega, h2⟩
    exact .inr ⟨m, hm1, hz, hm2, pathF_some hm1 hz hm2⟩
theorem path_best (hn : n ≤ 32) (hb : ∀ e ∈ es, e < 2 ^ n) (hf : f ≤ n) : match pathF n es f with
    | none => ∀ l, ¬ FreeP (adjRow n es) n f l
    | some p => FreeP (adjRow n es) n f p ∧ (∀ l, FreeP (adjRow n es) n f l → p.length ≤ l.length) ∧ ∀ l, FreeP (adjRow n es) n f l → l.length = p.length → LeL p l := by
  have hR := adjRow_lt9 hn hb
  have hS := symm_adj hn hb
  rcases pathF_cases n es f with ⟨h1, h2⟩ | ⟨a, ha, hz, hne, hp⟩
  · rw [h1]
    intro l hl
    obtain ⟨m1, _, _⟩ := (hl.wk hn hf hR hS).least hR hn
    obtain ⟨a, ha, h3⟩ := sh_some (R := adjRow n es) (inn := innF n f) (f := f) f m1
    exact h3 (h2 a ha)
  · rw [hp]
    obtain ⟨_, k, hr, hL, hE⟩ := sh_inv (R := adjRow n es) (inn := innF n f) (f := f) f a hne
    have ew : wayF n es f a = wkL (stg (adjRow n es) (innF n f) (lastF (adjRow n es) (innF n f) f a k)) (adjRow n es) (k + 2) a (k + 2) := by
      have e1 : (shF n es f).1 = k + 2 := hL
      have e2 : (shF n es f).2 a = lastF (adjRow n es) (innF n f) f a k := hE
      rw [wayF, e1, e2]
    have hlen : (wayF n es f a).length = k + 3 := by rw [ew]; exact wkL_len _ _ _ _ _
    refine ⟨by rw [ew]; exact way_free hR hS hn hf ha hr, fun l hl => ?_, fun l hl he => ?_⟩
    · obtain ⟨_, m2, _⟩ := (hl.wk hn hf hR hS).least hR hn
      rw [hL] at m2
      omega
    · have hw := hl.wk hn hf hR hS
      obtain ⟨_, m2, m3⟩ := hw.least hR hn
      rw [hL] at m2 m3
      have h3 := m3 (by omega)
      have h4 : (shF n es f).2 (nth l 0) ≠ 0 := by
        intro e
        have e2 : (shTo (adjRow n es) (innF n f) f f).2 (nth l 0) = 0 := e
        rw [e2] at h3; simp at h3
      rw [ew]
      refine way_min hR hS hn hf ha hr hw (by omega) ?_ (fun h0 => ?_)
      · rcases Nat.lt_or_ge (nth l 0) a with h5 | h5
        · exact absurd (hz _ h5) h4
        · exact h5
      · rw [h0, hE] at h3; exact h3
/-- The reference's Path as a function. -/
def refPath (n : Nat) (es : List Nat) (f : Nat) : Option (List Nat) := (List.range (n + 1)).findSome? fun m => if 3 ≤ m then srchF (fun l => isB es f (ints l)) n m [] else none
theorem FreeP.len_le {R : List Nat} {l : List Nat} (h : FreeP R n f l) : l.length ≤ n := by
  refine pigeon n l ?_ (fun x hx => ?_)
  · rw [List.nodup_iff_pairwise_ne, List.pairwise_iff_getElem]
    intro i j hi hj hij e
    have := h.dis j i hij hj
    rw [nth_eq hi, nth_eq hj] at this
    exact this e.symm
  · obtain ⟨i, hi, rfl⟩ := List.getElem_of_mem hx
    have := h.lt i hi
    rwa [nth_eq hi] at this
theorem path_ref (hn : n ≤ 32) (hb : ∀ e ∈ es, e < 2 ^ n) (hf : f ≤ n) : refPath n es f = pathF n es f := by
  have hB := path_best (f := f) hn hb hf
  have hno : ∀ m, (∀ l, FreeP (adjRow n es) n f l → l.length ≠ m) → (if 3 ≤ m then srchF (fun l => isB es f (ints l)) n m [] else none) = none := fun m h => by
    split
    · refine srch_none m [] (fun l hl hlt _ _ => ?_) (fun i hi => by simp at hi)
      cases h9 : isB es f (ints l) with
      | false => rfl
      | true => exact absurd (by simpa using hl) (h l ((isB_iff hn hb hlt).1 h9))
    · rfl
  cases hp : pathF n es f with
  | none =>
    rw [hp] at hB
    exact findSome_none fun m hm => hno m fun l hl => (hB l hl).elim
  | some p =>
    rw [hp] at hB
    obtain ⟨h1, h2, h3⟩ := hB
    refine findSome_at (k := p.length) (fun m hm => hno m fun l hl e => ?_) ?_ (by have := h1.len_le; omega)
    · have := h2 l hl; omega
    · rw [if_pos h1.len]
      refine srch_some ((isB_iff hn hb h1.lt).2 h1) h1.lt (fun l hl hg hlt => h3 l ((isB_iff hn hb hlt).1 hg) hl) p.length [] (by simp) (fun i hi => by simp at hi)
end
end Go.Proofs.YtjofdlafblpclaaDoor
namespace Go.Proofs.YtjofdlafblpclaaDoor
set_option linter.unusedVariables false
variable {n : Nat} {es : List Nat}

/-- A chordless cycle, as a function, makes the graph cyclic. -/
theorem hole_rip (hn : n ≤ 32) (hb : ∀ e ∈ es, e < 2 ^ n) {L : Nat} {h : Nat → Nat} (hp : Hole (adjRow n es) L h) : ¬ Acyc n es := by
  rw [acyc_iff hn hb]
  rintro ⟨l, hl, hrip⟩
  have h4 := hp.four
  have hmem : ∀ e, e ∈ es ↔ e ∈ l := fun e => hl.mem_iff
  have hadj2 : ∀ i j, i ≠ j → i < L → j < L → ((∃ e ∈ l, e.testBit (h i) = true ∧ e.testBit (h j) = true) ↔ (j = i + 1 ∨ i = j + 1 ∨ (i = 0 ∧ j + 1 = L) ∨ (j = 0 ∧ i + 1 = L))) := by
    intro i j hij hi hj
    rw [← hp.adj i j hi hj, gr_adj hn hb]
    constructor
    · rintro ⟨e, he, a, b⟩; exact ⟨fun he2 => hij (hp.inj i j hi hj he2), e, (hmem e).2 he, a, b⟩
    · rintro ⟨_, e, he, a, b⟩; exact ⟨e, (hmem e).1 he, a, b⟩
  refine rip_simp hrip (fun v => ∃ i, i < L ∧ v = h i) ⟨_, 0, by omega, rfl⟩ ?_
  rintro v ⟨i, hi, rfl⟩
  obtain ⟨a, ha⟩ : ∃ a, a = if i + 1 < L then i + 1 else 0 := ⟨_, rfl⟩
  obtain ⟨b, hb'⟩ : ∃ b, b = if i = 0 then L - 1 else i - 1 := ⟨_, rfl⟩
  have hal : a < L ∧ (a = i + 1 ∨ (a = 0 ∧ i + 1 = L)) := by rw [ha]; split <;> omega
  have hbl : b < L ∧ (b + 1 = i ∨ (i = 0 ∧ b + 1 = L)) := by rw [hb']; split <;> omega
  refine ⟨h a, h b, ⟨⟨a, hal.1, rfl⟩, b, hbl.1, rfl⟩, (hadj2 i a (by omega) hi hal.1).2 (by omega), (hadj2 i b (by omega) hi hbl.1).2 (by omega), fun hh => ?_⟩
  have := (hadj2 a b (by omega) hal.1 hbl.1).1 hh
  omega
/-- Adjacent in the extended graph. -/
theorem gr_ext (hn : n ≤ 32) (hb : ∀ e ∈ es, e < 2 ^ n) {f : Nat} (hf : f ≤ n) {u v : Nat} : GR (adjRow n (es ++ [2 ^ f - 1])) u v ↔ GR (adjRow n es) u v ∨ (u ≠ v ∧ u < f ∧ v < f) := by
  rw [gr_adj hn (bound_snoc hf hb), gr_adj hn hb]
  constructor
  · rintro ⟨h1, e, he, h2, h3⟩
    rw [List.mem_append, List.mem_singleton] at he
    rcases he with he | rfl
    · exact .inl ⟨h1, e, he, h2, h3⟩
    · exact .inr ⟨h1, (lows_bit f u).1 h2, (lows_bit f v).1 h3⟩
  · rintro (⟨h1, e, he, h2, h3⟩ | ⟨h1, h2, h3⟩)
    · exact ⟨h1, e, by simp [he], h2, h3⟩
    · exact ⟨h1, 2 ^ f - 1, by simp, (lows_bit f u).2 h2, (lows_bit f v).2 h3⟩
/-- A free-path makes the extended graph cyclic. -/
theorem free_cyclic (hn : n ≤ 32) (hb : ∀ e ∈ es, e < 2 ^ n) {f : Nat} (hf : f ≤ n) {l : List Nat} (hl : FreeP (adjRow n es) n f l) : ¬ Acyc n (es ++ [2 ^ f - 1]) := by
  have ha := ady hn hb
  have h3 := hl.len
  have e0 : nth l 0 < f := (hl.ends 0 (by omega)).1 (.inl rfl)
  have e1 : nth l (l.length - 1) < f := (hl.ends (l.length - 1) (by omega)).1 (.inr (by omega))
  have hin : ∀ i, 0 < i → i + 1 < l.length → ¬ nth l i < f := fun i h1 h2 h4 => by
    have := (hl.ends i (by omega)).2 h4; omega
  have hlk : ∀ i j, i < l.length → j < l.length → (GR (adjRow n es) (nth l i) (nth l j) ↔ (j = i + 1 ∨ i = j + 1)) := fun i j hi hj => by
    rcases Nat.lt_trichotomy i j with h | h | h
    · have := hl.link j i h hj
      constructor
      · intro g; have := this.1 (ha.sym _ _ g); omega
      · intro g; exact ha.sym _ _ (this.2 (by omega))
    · subst h
      constructor
      · intro g; exact absurd rfl ((gr_adj hn hb).1 g).1
      · intro g; omega
    · have := hl.link i j h hi
      constructor
      · intro g; have := this.1 g; omega
      · intro g; exact this.2 (by omega)
  have hne : ∀ i j, i < l.length → j < l.length → nth l i = nth l j → i = j := fun i j hi hj he => by
    rcases Nat.lt_trichotomy i j with h | h | h
    · exact absurd he.symm (hl.dis j i h hj)
    · exact h
    · exact absurd he (hl.dis i j h hi)
  by_cases h4 : 4 ≤ l.length
  · refine hole_rip hn (bound_snoc hf hb) (L := l.length) (h := nth l) ⟨h4, hne, fun i j hi hj => ?_⟩
    rw [gr_ext hn hb hf, hlk i j hi hj]
    constructor
    · rintro (h | ⟨h1, h2, h5⟩)
      · omega
      · have a1 := (hl.ends i hi).2 h2
        have a2 := (hl.ends j hj).2 h5
        have : i ≠ j := fun h => h1 (by rw [h])
        omega
    · rintro (h | h | ⟨h1, h2⟩ | ⟨h1, h2⟩)
      · exact .inl (.inl h)
      · exact .inl (.inr h)
      · refine .inr ⟨fun h => ?_, (hl.ends i hi).1 (.inl h1), (hl.ends j hj).1 (.inr h2)⟩
        have := hne i j hi hj h; omega
      · refine .inr ⟨fun h => ?_, (hl.ends i hi).1 (.inr h2), (hl.ends j hj).1 (.inl h1)⟩
        have := hne i j hi hj h; omega
  · have h3' : l.length = 3 := by omega
    rw [h3'] at e1 hlk hne hin
    obtain ⟨S, hS, hSb⟩ := bitset (fun u => u = nth l 0 ∨ u = nth l 1 ∨ u = nth l 2) n
    have hm : ∀ i, i < 3 → S.testBit (nth l i) = true := fun i hi => (hSb _).2 ⟨hl.lt i (by omega), by
      have : i = 0 ∨ i = 1 ∨ i = 2 := by omega
      rcases this with rfl | rfl | rfl <;> simp⟩
    refine clique_cyclic hn (bound_snoc hf hb) hS ((clq_gr hn (bound_snoc hf hb) hS).2 fun a b h1 h2 hab => ?_) (hm 0 (by omega)) (hm 2 (by omega)) (fun h => by have := hne 0 2 (by omega) (by omega) h; omega) ?_
    · have key : ∀ u, S.testBit u = true → ∃ i, i < 3 ∧ u = nth l i := fun u hu => by
        rcases ((hSb u).1 hu).2 with h | h | h
        · exact ⟨0, by omega, h⟩
        · exact ⟨1, by omega, h⟩
        · exact ⟨2, by omega, h⟩
      obtain ⟨i, hi, rfl⟩ := key a h1
      obtain ⟨j, hj, rfl⟩ := key b h2
      rw [gr_ext hn hb hf, hlk i j hi hj]
      have hij : i ≠ j := fun h => hab (by rw [h])
      by_cases h : j = i + 1 ∨ i = j + 1
      · exact .inl h
      · refine .inr ⟨hab, ?_, ?_⟩
        · have : i = 0 ∨ i = 2 := by omega
          rcases this with rfl | rfl
          · exact e0
          · exact e1
        · have : j = 0 ∨ j = 2 := by omega
          rcases this with rfl | rfl
          · exact e0
          · exact e1
    · rintro ⟨e, he, hs⟩
      rw [List.mem_append, List.mem_singleton] at he
      rcases he with he | rfl
      · have := (hlk 0 2 (by omega) (by omega)).1 ((gr_adj hn hb).2 ⟨fun h => by have := hne 0 2 (by omega) (by omega) h; omega, e, he, hs _ (hm 0 (by omega)), hs _ (hm 2 (by omega))⟩)
        omega
      · exact hin 1 (by omega) (by omega) ((lows_bit f _).1 (hs _ (hm 1 (by omega))))
theorem nth_map_range {g : Nat → Nat} {L i : Nat} (h : i < L) : nth ((List.range L).map g) i = g i := by simp [nth, List.getD, h]
/-- Without a free-path the extended graph of an acyclic graph is acyclic. -/
theorem free_acyclic (hn : n ≤ 32) (hb : ∀ e ∈ es, e < 2 ^ n) {f : Nat} (hf : f ≤ n) (hac : Acyc n es) (hno : ∀ l, ¬ FreeP (adjRow n es) n f l) : Acyc n (es ++ [2 ^ f - 1]) := by
  have ha := ady hn hb
  have hb' := bound_snoc hf hb
  have ha' := ady hn hb'
  refine acyc_of hn hb' ?_ ?_
  · refine Classical.byContradiction fun h0 => ?_
    obtain ⟨v, x, y, ok, _⟩ := cylF_at h0
    obtain ⟨h, hh, hlt⟩ := hole_of ha' ok
    generalize distF (adjRow n (es ++ [2 ^ f - 1])) n x y (restOf (adjRow n (es ++ [2 ^ f - 1])) n v x y) + 2 = L at *
    have h4 := hh.four
    -- a hole whose first and last vertices are free and not adjacent
    have key : ∀ g : Nat → Nat, Hole (adjRow n (es ++ [2 ^ f - 1])) L g → (∀ i, i < L → g i < n) → g 0 < f → g (L - 1) < f → ¬ GR (adjRow n es) (g 0) (g (L - 1)) → False := by
      intro g hg hgl g0 g1 g2
      have hinn : ∀ i, 0 < i → i + 1 < L → ¬ g i < f := fun i h1 h2 h3 => by
        have a1 := (hg.adj i 0 (by omega) (by omega)).1 ((gr_ext hn hb hf).2 (.inr ⟨fun he => by have := hg.inj _ _ (by omega) (by omega) he; omega, h3, g0⟩))
        have a2 := (hg.adj i (L - 1) (by omega) (by omega)).1 ((gr_ext hn hb hf).2 (.inr ⟨fun he => by have := hg.inj _ _ (by omega) (by omega) he; omega, h3, g1⟩))
        omega
      have hl : ((List.range L).map g).length = L := by simp
      refine hno ((List.range L).map g) ⟨by omega, fun i hi => ?_, fun i hi => ?_, fun i j hj hi => ?_, fun i j hj hi => ?_⟩
      · rw [hl] at hi; rw [nth_map_range hi]; exact hgl i hi
      · rw [hl] at hi ⊢
        rw [nth_map_range hi]
        constructor
        · rintro (rfl | h1)
          · exact g0
          · rw [show i = L - 1 by omega]; exact g1
        · intro h1
          refine Classical.byContradiction fun h2 => hinn i (by omega) (by omega) h1
      · rw [hl] at hi
        rw [nth_map_range hi, nth_map_range (show j < L by omega)]
        intro he
        have := hg.inj _ _ (by omega) (by omega) he; omega
      · rw [hl] at hi
        rw [nth_map_range hi, nth_map_range (show j < L by omega)]
        have hadj := hg.adj i j hi (by omega)
        constructor
        · intro h1
          have h2 := hadj.1 ((gr_ext hn hb hf).2 (.inl h1))
          rcases h2 with h2 | h2 | ⟨h2, h3⟩ | ⟨h2, h3⟩
          · omega
          · omega
          · omega
          · subst h2
            rw [show i = L - 1 by omega] at h1
            exact absurd (ha.sym _ _ h1) g2
        · intro h1
          rcases (gr_ext hn hb hf).1 (hadj.2 (.inr (.inl (by omega)))) with h2 | ⟨h2, h3, h5⟩
          · exact h2
          · exfalso
            by_cases hj0 : 0 < j
            · exact hinn j hj0 (by omega) h5
            · exact hinn i (by omega) (by omega) h3
    by_cases hall : ∀ i j, i < L → j < L → i ≠ j → h i < f → h j < f → GR (adjRow n es) (h i) (h j)
    · refine hole_rip hn hb (L := L) (h := h) ⟨h4, hh.inj, fun i j hi hj => ?_⟩ hac
      rw [← hh.adj i j hi hj, gr_ext hn hb hf]
      constructor
      · exact .inl
      · rintro (h1 | ⟨h1, h2, h3⟩)
        · exact h1
        · exact hall i j hi hj (fun he => h1 (by rw [he])) h2 h3
    · simp only [Classical.not_forall] at hall
      obtain ⟨i, j, hi, hj, hij, h1, h2, h3⟩ := hall
      -- two consecutive ones
      have cons : ∀ k, k + 1 < L → h k < f → h (k + 1) < f → ¬ GR (adjRow n es) (h (k + 1)) (h k) → False := by
        intro k hk k1 k2 k3
        refine key _ (hh.turn (m := k + 1) (by omega)) (fun i hi => ?_) ?_ ?_ ?_
        · split
          · exact hlt _ (by omega)
          · exact hlt _ (by omega)
        · rw [if_pos (by omega)]; simpa using k2
        · rw [if_neg (by omega), show L - 1 + (k + 1) - L = k by omega]; exact k1
        · rw [if_pos (by omega), if_neg (by omega), show L - 1 + (k + 1) - L = k by omega]; simpa using k3
      have hadj := (hh.adj i j hi hj).1 ((gr_ext hn hb hf).2 (.inr ⟨fun he => hij (hh.inj _ _ hi hj he), h1, h2⟩))
      rcases hadj with rfl | rfl | ⟨rfl, h5⟩ | ⟨rfl, h5⟩
      · exact cons i (by omega) h1 h2 (fun g => h3 (ha.sym _ _ g))
      · exact cons j (by omega) h2 h1 h3
      · rw [show j = L - 1 by omega] at h2 h3
        exact key h hh hlt h1 h2 h3
      · rw [show i = L - 1 by omega] at h1 h3
        exact key h hh hlt h2 h1 (fun g => h3 (ha.sym _ _ g))
  · intro S hS hclq hsl h0
    refine Classical.byContradiction fun hnc => ?_
    have hq := (clq_gr hn hb' hS).1 hclq
    by_cases hall : ∀ a b, S.testBit a = true → S.testBit b = true → a ≠ b → a < f → b < f → GR (adjRow n es) a b
    · have hS2 : Clq es S := (clq_gr hn hb hS).2 fun a b h1 h2 hab => by
        rcases (gr_ext hn hb hf).1 (hq a b h1 h2 hab) with h3 | ⟨_, h3, h5⟩
        · exact h3
        · exact hall a b h1 h2 hab h3 h5
      obtain ⟨a, hau⟩ := nz_bit h0
      by_cases hone : ∃ b, S.testBit b = true ∧ a ≠ b
      · obtain ⟨b, hb2, hab⟩ := hone
        refine clique_cyclic hn hb hS hS2 hau hb2 hab (fun ⟨e, he, hs⟩ => hnc ⟨e, by simp [he], hs⟩) hac
      · obtain ⟨e, he, hae⟩ := inU_link.1 (hsl a hau)
        refine hnc ⟨e, he, fun v hv => ?_⟩
        by_cases hav : a = v
        · rw [← hav]; exact hae
        · exact absurd ⟨v, hv, hav⟩ hone
    · simp only [Classical.not_forall] at hall
      obtain ⟨a, b, h1, h2, hab, h3, h5, h6⟩ := hall
      obtain ⟨c, hc1, hc2⟩ : ∃ c, S.testBit c = true ∧ ¬ c < f := by
        refine Classical.byContradiction fun h7 => hnc ⟨2 ^ f - 1, by simp, fun v hv => (lows_bit f v).2 ?_⟩
        refine Classical.byContradiction fun h8 => h7 ⟨v, hv, h8⟩
      have gca : GR (adjRow n es) c a := by
        rcases (gr_ext hn hb hf).1 (hq c a hc1 h1 (by rintro rfl; exact hc2 h3)) with h7 | ⟨_, h7, _⟩
        · exact h7
        · exact absurd h7 hc2
      have gcb : GR (adjRow n es) c b := by
        rcases (gr_ext hn hb hf).1 (hq c b hc1 h2 (by rintro rfl; exact hc2 h5)) with h7 | ⟨_, h7, _⟩
        · exact h7
        · exact absurd h7 hc2
      have hcn : c < n := testBit_lt hS hc1
      refine hno [a, c, b] ⟨by simp, fun i hi => ?_, fun i hi => ?_, fun i j hj hi => ?_, fun i j hj hi => ?_⟩
      all_goals simp only [List.length_cons, List.length_nil, Nat.zero_add, Nat.reduceAdd] at hi ⊢
      · have : i = 0 ∨ i = 1 ∨ i = 2 := by omega
        rcases this with rfl | rfl | rfl
        · show a < n; omega
        · exact hcn
        · show b < n; omega
      · have : i = 0 ∨ i = 1 ∨ i = 2 := by omega
        rcases this with rfl | rfl | rfl
        · exact ⟨fun _ => h3, fun _ => .inl rfl⟩
        · exact ⟨fun h => by omega, fun h => absurd h hc2⟩
        · exact ⟨fun _ => h5, fun _ => .inr rfl⟩
      · have : (i = 1 ∧ j = 0) ∨ (i = 2 ∧ j = 0) ∨ (i = 2 ∧ j = 1) := by omega
        rcases this with ⟨rfl, rfl⟩ | ⟨rfl, rfl⟩ | ⟨rfl, rfl⟩
        · show c ≠ a; rintro rfl; exact hc2 h3
        · show b ≠ a; exact Ne.symm hab
        · show b ≠ c; rintro rfl; exact hc2 h5
      · have : (i = 1 ∧ j = 0) ∨ (i = 2 ∧ j = 0) ∨ (i = 2 ∧ j = 1) := by omega
        rcases this with ⟨rfl, rfl⟩ | ⟨rfl, rfl⟩ | ⟨rfl, rfl⟩
        · exact ⟨fun _ => rfl, fun _ => gca⟩
        · exact ⟨fun g => absurd (ha.sym _ _ g) h6, fun h => by omega⟩
        · exact ⟨fun _ => rfl, fun _ => ha.sym _ _ gcb⟩
/-- The dichotomy. -/
theorem dichotomy (hn : n ≤ 32) (hb : ∀ e ∈ es, e < 2 ^ n) {f : Nat} (hf : f ≤ n) (hac : Acyc n es) : FreeCon n es f ↔ pathF n es f = none := by
  have hp := path_best hn hb hf
  constructor
  · intro h
    cases hc : pathF n es f with
    | none => rfl
    | some p => rw [hc] at hp; exact absurd h.2 (free_cyclic hn hb hf hp.1)
  · intro h
    rw [h] at hp
    exact ⟨hac, free_acyclic hn hb hf hac hp⟩
end Go.Proofs.YtjofdlafblpclaaDoor
