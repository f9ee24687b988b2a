/-
  Connected components, plainly: reachability, the search from a vertex, the list of the components.
-/
import Derived.Test.YtjofdlafblpclaaDoorRip
namespace Go.Proofs.YtjofdlafblpclaaDoor

/-- Reachable by neighbors. -/
inductive Conn (es : List Nat) : Nat → Nat → Prop
  | refl (a : Nat) : Conn es a a
  | step {a b c : Nat} : Conn es a b → (adj es b).testBit c = true → Conn es a c
theorem Conn.trans {es : List Nat} {a b c : Nat} (h : Conn es a b) (k : Conn es b c) : Conn es a c := by
  induction k with
  | refl => exact h
  | step _ h2 ih => exact .step ih h2
section
variable {n : Nat} {es : List Nat}
theorem adj_bit (hb : ∀ e ∈ es, e < 2 ^ 32) {u v : Nat} (hu : u < 32) : (adj es u).testBit v = true ↔ v ≠ u ∧ ∃ e ∈ es, e.testBit u = true ∧ e.testBit v = true := by
  rw [testBit_adj hb hu, Bool.and_eq_true, decide_eq_true_eq, List.any_eq_true]
  simp only [Bool.and_eq_true]
theorem lt32_of (hn : n ≤ 32) (hb : ∀ e ∈ es, e < 2 ^ n) : ∀ e ∈ es, e < 2 ^ 32 := fun e he => Nat.lt_of_lt_of_le (hb e he) (two_pow_le hn)
theorem adj_lt_n (hn : n ≤ 32) (hb : ∀ e ∈ es, e < 2 ^ n) {u v : Nat} (hu : u < 32) (h : (adj es u).testBit v = true) : v < n := by
  obtain ⟨_, e, he, _, h2⟩ := (adj_bit (lt32_of hn hb) hu).1 h
  exact testBit_lt (hb e he) h2
theorem adj_symm (hn : n ≤ 32) (hb : ∀ e ∈ es, e < 2 ^ n) {u v : Nat} (hu : u < n) (h : (adj es u).testBit v = true) : (adj es v).testBit u = true := by
  have hv := adj_lt_n hn hb (by omega) h
  obtain ⟨h1, e, he, h2, h3⟩ := (adj_bit (lt32_of hn hb) (show u < 32 by omega)).1 h
  exact (adj_bit (lt32_of hn hb) (by omega)).2 ⟨Ne.symm h1, e, he, h3, h2⟩
theorem Conn.lt (hn : n ≤ 32) (hb : ∀ e ∈ es, e < 2 ^ n) {u v : Nat} (hu : u < n) (h : Conn es u v) : v < n := by
  induction h with
  | refl => exact hu
  | step _ h2 ih => exact adj_lt_n hn hb (by omega) h2
theorem Conn.symm (hn : n ≤ 32) (hb : ∀ e ∈ es, e < 2 ^ n) {u v : Nat} (hu : u < n) (h : Conn es u v) : Conn es v u := by
  induction h with
  | refl => exact .refl _
  | step h1 h2 ih => exact (Conn.step (.refl _) (adj_symm hn hb (h1.lt hn hb hu) h2)).trans ih
end
/-- The vertices that are reachable from v. -/
def IsCls (n : Nat) (es : List Nat) (v x : Nat) : Prop := ∀ u, x.testBit u = true ↔ u < n ∧ Conn es v u
theorem IsCls.unique {n : Nat} {es : List Nat} {v x y : Nat} (h : IsCls n es v x) (k : IsCls n es v y) : x = y :=
  Nat.eq_of_testBit_eq fun u => by
    rw [Bool.eq_iff_iff]; exact (h u).trans (k u).symm
theorem IsCls.lt {n : Nat} {es : List Nat} {v x : Nat} (h : IsCls n es v x) : x < 2 ^ n := by
  apply Nat.lt_pow_two_of_testBit
  intro i hi
  cases hx : x.testBit i with
  | false => rfl
  | true => have := ((h i).1 hx).1; omega

/-- The neighbors of the first k vertices of a border. -/
def nxt (es : List Nat) (b : Nat) : Nat → Nat
  | 0 => 0
  | k + 1 => if b.testBit k then nxt es b k ||| adj es k else nxt es b k
theorem nxt_bit (es : List Nat) (b u : Nat) : ∀ k, (nxt es b k).testBit u = true ↔ ∃ v, v < k ∧ b.testBit v = true ∧ (adj es v).testBit u = true
  | 0 => by simp [nxt]
  | k + 1 => by
    rw [nxt]
    by_cases h : b.testBit k = true
    · rw [if_pos h, Nat.testBit_or, Bool.or_eq_true, nxt_bit es b u k]
      constructor
      · rintro (⟨v, h1, h2⟩ | h2)
        · exact ⟨v, by omega, h2⟩
        · exact ⟨k, by omega, h, h2⟩
      · rintro ⟨v, h1, h2, h3⟩
        by_cases hv : v = k
        · subst hv; exact .inr h3
        · exact .inl ⟨v, by omega, h2, h3⟩
    · rw [if_neg h, nxt_bit es b u k]
      constructor
      · rintro ⟨v, h1, h2⟩; exact ⟨v, by omega, h2⟩
      · rintro ⟨v, h1, h2, h3⟩
        exact ⟨v, by have : v ≠ k := fun e => h (e ▸ h2); omega, h2, h3⟩
theorem nxt_lt {es : List Nat} (hb : ∀ e ∈ es, e < 2 ^ 32) (b : Nat) : ∀ k, nxt es b k < 2 ^ 32
  | 0 => by simp [nxt]
  | k + 1 => by
    rw [nxt]
    split
    · exact Nat.or_lt_two_pow (nxt_lt hb b k) (adj_lt hb k)
    · exact nxt_lt hb b k
/-- The search from v: component and border. -/
structure Bfs (n : Nat) (es : List Nat) (v c b : Nat) : Prop where
  apart : ∀ u, c.testBit u = true → b.testBit u = false
  reach : ∀ u, c.testBit u = true ∨ b.testBit u = true → u < n ∧ Conn es v u
  start : c.testBit v = true ∨ b.testBit v = true
  closed : ∀ u, c.testBit u = true → ∀ t, (adj es u).testBit t = true → c.testBit t = true ∨ b.testBit t = true
theorem bits_lt {n x : Nat} (h : ∀ u, x.testBit u = true → u < n) : x < 2 ^ n := by
  apply Nat.lt_pow_two_of_testBit
  intro i hi
  cases hx : x.testBit i with
  | false => rfl
  | true => have := h i hx; omega
section
variable {n : Nat} {es : List Nat} {v c b : Nat}
theorem Bfs.clt (h : Bfs n es v c b) (hn : n ≤ 32) : c < 2 ^ 32 := Nat.lt_of_lt_of_le (bits_lt fun u hu => (h.reach u (.inl hu)).1) (two_pow_le hn)
theorem Bfs.blt (h : Bfs n es v c b) (hn : n ≤ 32) : b < 2 ^ 32 := Nat.lt_of_lt_of_le (bits_lt fun u hu => (h.reach u (.inr hu)).1) (two_pow_le hn)
theorem Bfs.init (hv : v < n) : Bfs n es v 0 (2 ^ v) := by
  refine ⟨fun u hu => by simp at hu, fun u hu => ?_, .inr (by simp [Nat.testBit_two_pow_self]), fun u hu => by simp at hu⟩
  rcases hu with hu | hu
  · simp at hu
  · rw [Nat.testBit_two_pow] at hu
    have : v = u := by simpa using hu
    subst this; exact ⟨hv, .refl _⟩
theorem Bfs.step (h : Bfs n es v c b) (hn : n ≤ 32) (hb : ∀ e ∈ es, e < 2 ^ n) : Bfs n es v (c ||| b) (andn (nxt es b n) (c ||| b)) := by
  have hc32 : c ||| b < 2 ^ 32 := Nat.or_lt_two_pow (h.clt hn) (h.blt hn)
  have hx32 := nxt_lt (lt32_of hn hb) b n
  have bit : ∀ u, (andn (nxt es b n) (c ||| b)).testBit u = true ↔ (nxt es b n).testBit u = true ∧ (c ||| b).testBit u = false := by
    intro u; rw [testBit_andn hc32 hx32]; simp
  refine ⟨fun u hu => ?_, fun u hu => ?_, .inl ?_, fun u hu t ht => ?_⟩
  · cases hx : (andn (nxt es b n) (c ||| b)).testBit u with
    | false => rfl
    | true => rw [((bit u).1 hx).2] at hu; cases hu
  · rcases hu with hu | hu
    · rw [Nat.testBit_or, Bool.or_eq_true] at hu; exact h.reach u hu
    · obtain ⟨w, hw, hwb, hwu⟩ := (nxt_bit es b u n).1 ((bit u).1 hu).1
      exact ⟨adj_lt_n hn hb (by omega) hwu, .step (h.reach w (.inr hwb)).2 hwu⟩
  · rw [Nat.testBit_or, Bool.or_eq_true]; exact h.start
  · by_cases hx : (c ||| b).testBit t = true
    · exact .inl hx
    · have hx : (c ||| b).testBit t = false := by simpa using hx
      rw [Nat.testBit_or, Bool.or_eq_true] at hu
      rcases hu with hu | hu
      · have := h.closed u hu t ht
        rw [Nat.testBit_or] at hx
        rcases this with h1 | h1 <;> simp [h1] at hx
      · exact .inr ((bit t).2 ⟨(nxt_bit es b t n).2 ⟨u, (h.reach u (.inr hu)).1, hu, ht⟩, hx⟩)
theorem Bfs.done (h : Bfs n es v c 0) : IsCls n es v c := by
  intro u
  constructor
  · intro hu; exact h.reach u (.inl hu)
  · rintro ⟨hun, hc⟩
    clear hun
    induction hc with
    | refl => rcases h.start with h1 | h1
              · exact h1
              · simp at h1
    | step h1 h2 ih =>
      rcases h.closed _ ih _ h2 with h3 | h3
      · exact h3
      · simp at h3
/-- What the search lowers. -/
theorem Bfs.more (h : Bfs n es v c b) (hb0 : b ≠ 0) : n - bitsOf n (c ||| b) < n - bitsOf n c := by
  have h1 : ∃ u, b.testBit u = true := by
    apply Classical.byContradiction
    intro h2
    exact hb0 (zero_of_bits fun u => by
      cases hx : b.testBit u with
      | false => rfl
      | true => exact absurd ⟨u, hx⟩ h2)
  obtain ⟨u, hu⟩ := h1
  have hun := (h.reach u (.inr hu)).1
  have h2 : bitsOf n c < bitsOf n (c ||| b) := by
    apply countP_lt_of
    · intro x _ hx; simp only [Nat.testBit_or]; simp [hx]
    · refine ⟨u, by simpa using hun, ?_, by simp only [Nat.testBit_or]; simp [hu]⟩
      cases hx : c.testBit u with
      | false => rfl
      | true => rw [h.apart u hx] at hu; cases hu
  have h3 := bitsOf_le n (c ||| b)
  omega
end
/-- The lowest vertex of a set. -/
theorem low_bit {x : Nat} (h : x ≠ 0) : ∃ v, x.testBit v = true ∧ ∀ u, u < v → x.testBit u = false := by
  have h1 : ∃ u, x.testBit u = true := by
    apply Classical.byContradiction
    intro h2
    exact h (zero_of_bits fun u => by
      cases hx : x.testBit u with
      | false => rfl
      | true => exact absurd ⟨u, hx⟩ h2)
  obtain ⟨u, hu⟩ := h1
  obtain ⟨v, hv, hm⟩ := least (P := fun v => x.testBit v = true) hu
  exact ⟨v, hv, fun k hk => by simpa using hm k hk⟩
theorem low_pred {x v : Nat} (h : x.testBit v = true) (hl : ∀ u, u < v → x.testBit u = false) : ∀ i, (x - 1).testBit i = if i < v then true else if i = v then false else x.testBit i := by
  have hx : x = 2 ^ v * (x / 2 ^ v) := by
    have hmod : x % 2 ^ v = 0 := zero_of_bits fun u => by
      rw [Nat.testBit_mod_two_pow]
      by_cases hu : u < v
      · simp [hl u hu]
      · simp [hu]
    have := Nat.div_add_mod x (2 ^ v)
    omega
  have hodd : (x / 2 ^ v) % 2 = 1 := by
    have h2 := h
    rw [Nat.testBit_eq_decide_div_mod_eq] at h2
    simpa using h2
  obtain ⟨k, hk⟩ : ∃ k, x / 2 ^ v = 2 * k + 1 := ⟨x / 2 ^ v / 2, by omega⟩
  have hp : 0 < 2 ^ v := pow2_pos v
  have e1 : x - 1 = 2 ^ v * (2 * k) + (2 ^ v - 1) := by
    rw [hk, Nat.mul_add, Nat.mul_one] at hx; omega
  have e2 : x = 2 ^ v * (2 * k + 1) := by rw [← hk]; exact hx
  intro i
  rw [e1, Nat.testBit_two_pow_mul_add _ (by omega)]
  by_cases hi : i < v
  · rw [if_pos hi, if_pos hi, Nat.testBit_two_pow_sub_one]; simp [hi]
  · rw [if_neg hi, if_neg hi]
    by_cases hi2 : i = v
    · subst hi2; rw [if_pos rfl, Nat.sub_self]; simp
    · rw [if_neg hi2, e2, Nat.testBit_two_pow_mul]
      obtain ⟨j, hj⟩ : ∃ j, i - v = j + 1 := ⟨i - v - 1, by omega⟩
      rw [hj, Nat.testBit_succ, Nat.testBit_succ, show (2 * k + 1) / 2 = k by omega, show 2 * k / 2 = k by omega]
      simp; omega
/-- The lowest vertex, as x & -x gives it. -/
theorem low_and {x v : Nat} (hx : x < 2 ^ 32) (h : x.testBit v = true) (hl : ∀ u, u < v → x.testBit u = false) : x &&& (4294967296 - x) = 2 ^ v := by
  have h0 : x ≠ 0 := by rintro rfl; simp at h
  have e : 4294967296 - x = 2 ^ 32 - ((x - 1) + 1) := by omega
  apply Nat.eq_of_testBit_eq
  intro i
  rw [Nat.testBit_and, e, Nat.testBit_two_pow_sub_succ (by omega), low_pred h hl, Nat.testBit_two_pow]
  by_cases hi : i < v
  · simp [hl i hi]; omega
  · rw [if_neg hi]
    by_cases hi2 : i = v
    · subst hi2
      have : i < 32 := testBit_lt hx h
      simp [h, this]
    · rw [if_neg hi2]; simp [Ne.symm hi2]; intro a _; exact a

theorem low_bits {x v : Nat} (hx : x < 4294967296) (h0 : x ≠ 0) (h : x &&& (4294967296 - x) = 2 ^ v) : bits .and .u32 (x : Int) (-(x : Int) % 4294967296) = ((2 ^ v : Nat) : Int) := by
  rw [show -(x : Int) % 4294967296 = ((4294967296 - x : Nat) : Int) by omega, bits_and _ _ hx (by omega), h]
theorem andn_less {n x c v : Nat} (hx : x < 2 ^ 32) (hc : c < 2 ^ 32) (hv : v < n) (h : x.testBit v = true) (hcv : c.testBit v = true) : bitsOf n (andn x c) < bitsOf n x := by
  apply countP_lt_of
  · intro u _ hu
    rw [testBit_andn hc hx] at hu
    simp only [Bool.and_eq_true] at hu
    exact hu.1
  · refine ⟨v, by simpa using hv, ?_, h⟩
    rw [testBit_andn hc hx]; simp [hcv]
/-- The least vertex of its component. -/
def Least (n : Nat) (es : List Nat) (v : Nat) : Prop := v < n ∧ ∀ u, u < n → Conn es v u → v ≤ u
/-- The components, in the order of their least vertices. -/
def IsComps (n : Nat) (es : List Nat) (l : List Nat) : Prop :=
  ∃ vs : List Nat, vs.Pairwise (· < ·) ∧ (∀ v, v ∈ vs ↔ Least n es v) ∧ l.length = vs.length ∧ ∀ i, i < vs.length → IsCls n es (nth vs i) (nth l i)
theorem sorted_unique : ∀ {a b : List Nat}, a.Pairwise (· < ·) → b.Pairwise (· < ·) → (∀ v, v ∈ a ↔ v ∈ b) → a = b
  | [], [], _, _, _ => rfl
  | [], y :: b, _, _, h => by have := (h y).2 (by simp); simp at this
  | x :: a, [], _, _, h => by have := (h x).1 (by simp); simp at this
  | x :: a, y :: b, h1, h2, h => by
    rw [List.pairwise_cons] at h1 h2
    have hxy : x = y := by
      rcases List.mem_cons.1 ((h x).1 (by simp)) with e | e
      · exact e
      · rcases List.mem_cons.1 ((h y).2 (by simp)) with e2 | e2
        · exact e2.symm
        · have := h2.1 x e; have := h1.1 y e2; omega
    subst hxy
    rw [sorted_unique h1.2 h2.2 (fun v => ?_)]
    constructor
    · intro hv
      rcases List.mem_cons.1 ((h v).1 (by simp [hv])) with e | e
      · subst e; have := h1.1 v hv; omega
      · exact e
    · intro hv
      rcases List.mem_cons.1 ((h v).2 (by simp [hv])) with e | e
      · subst e; have := h2.1 v hv; omega
      · exact e
theorem IsComps.unique {n : Nat} {es l l' : List Nat} (h : IsComps n es l) (k : IsComps n es l') : l = l' := by
  obtain ⟨vs, h1, h2, h3, h4⟩ := h
  obtain ⟨us, k1, k2, k3, k4⟩ := k
  obtain rfl := sorted_unique h1 k1 (fun v => (h2 v).trans (k2 v).symm)
  apply List.ext_getElem (h3.trans k3.symm)
  intro i hi hi'
  rw [← nth_eq hi, ← nth_eq hi']
  exact (h4 i (by omega)).unique (k4 i (by omega))
/-- The components found so far, and the vertices that are left. -/
def Cmp (n : Nat) (es : List Nat) (left : Nat) (l : List Nat) : Prop :=
  ∃ vs : List Nat, vs.Pairwise (· < ·) ∧ (∀ v ∈ vs, Least n es v) ∧ l.length = vs.length ∧ (∀ i, i < vs.length → IsCls n es (nth vs i) (nth l i)) ∧
    (∀ u, left.testBit u = true ↔ u < n ∧ ∀ v ∈ vs, ¬ Conn es v u) ∧ (∀ v ∈ vs, ∀ u, left.testBit u = true → v < u)
section
variable {n : Nat} {es l : List Nat} {left : Nat}
theorem Cmp.lt (h : Cmp n es left l) : left < 2 ^ n := by
  obtain ⟨vs, _, _, _, _, h5, _⟩ := h
  exact bits_lt fun u hu => ((h5 u).1 hu).1
theorem Cmp.init : Cmp n es (2 ^ n - 1) [] := by
  refine ⟨[], .nil, by simp, rfl, by simp, fun u => ?_, by simp⟩
  rw [Nat.testBit_two_pow_sub_one]; simp
theorem nth_last (l : List Nat) (x : Nat) : nth (l ++ [x]) l.length = x := by simp [nth, List.getD]
theorem nth_app {l : List Nat} {x i : Nat} (h : i < l.length) : nth (l ++ [x]) i = nth l i := by simp [nth, List.getD, List.getElem?_append, h]
theorem Cmp.step (h : Cmp n es left l) (hn : n ≤ 32) (hb : ∀ e ∈ es, e < 2 ^ n) {v c : Nat} (hv : left.testBit v = true) (hl : ∀ u, u < v → left.testBit u = false) (hc : IsCls n es v c) : Cmp n es (andn left c) (l ++ [c]) ∧ andn left c < left := by
  have hlt := h.lt
  obtain ⟨vs, h1, h2, h3, h4, h5, h6⟩ := h
  obtain ⟨hvn, hvc⟩ := (h5 v).1 hv
  have hl32 : left < 2 ^ 32 := Nat.lt_of_lt_of_le hlt (two_pow_le hn)
  have hc32 : c < 2 ^ 32 := Nat.lt_of_lt_of_le hc.lt (two_pow_le hn)
  have bit : ∀ u, (andn left c).testBit u = true ↔ left.testBit u = true ∧ c.testBit u = false := by
    intro u; rw [testBit_andn hc32 hl32]; simp
  refine ⟨⟨vs ++ [v], ?_, ?_, by simp [h3], ?_, ?_, ?_⟩, ?_⟩
  · rw [List.pairwise_append]
    exact ⟨h1, List.pairwise_singleton _ _, fun a ha b hb => by
      have : b = v := by simpa using hb
      subst this; exact h6 a ha b hv⟩
  · intro w hw
    rcases List.mem_append.1 hw with hw | hw
    · exact h2 w hw
    · have : w = v := by simpa using hw
      subst this
      refine ⟨hvn, fun u hu hcu => ?_⟩
      rcases Nat.lt_or_ge u w with hlt | hge
      · have h7 : left.testBit u = true := (h5 u).2 ⟨hu, fun x hx hxu => hvc x hx (hxu.trans (hcu.symm hn hb hvn))⟩
        rw [hl u hlt] at h7; cases h7
      · exact hge
  · intro i hi
    rw [List.length_append, List.length_singleton] at hi
    by_cases hil : i < vs.length
    · rw [nth_app hil, nth_app (by omega)]; exact h4 i hil
    · have : i = vs.length := by omega
      subst this
      rw [nth_last, ← h3, nth_last]; exact hc
  · intro u
    rw [bit, h5]
    constructor
    · rintro ⟨⟨h7, h8⟩, h9⟩
      refine ⟨h7, fun w hw => ?_⟩
      rcases List.mem_append.1 hw with hw | hw
      · exact h8 w hw
      · have : w = v := by simpa using hw
        subst this
        intro h10
        rw [(hc u).2 ⟨h7, h10⟩] at h9; cases h9
    · rintro ⟨h7, h8⟩
      refine ⟨⟨h7, fun w hw => h8 w (by simp [hw])⟩, ?_⟩
      cases hx : c.testBit u with
      | false => rfl
      | true => exact absurd ((hc u).1 hx).2 (h8 v (by simp))
  · intro w hw u hu
    rw [bit] at hu
    rcases List.mem_append.1 hw with hw | hw
    · exact h6 w hw u hu.1
    · have : w = v := by simpa using hw
      subst this
      rcases Nat.lt_trichotomy u w with h7 | h7 | h7
      · rw [hl u h7] at hu; cases hu.1
      · subst h7
        rw [(hc u).2 ⟨hvn, .refl _⟩] at hu; cases hu.2
      · exact h7
  · have hle : andn left c ≤ left := Nat.and_le_left
    rcases Nat.lt_or_ge (andn left c) left with h7 | h7
    · exact h7
    · have h8 : andn left c = left := Nat.le_antisymm hle h7
      have h9 : (andn left c).testBit v = true := by rw [h8]; exact hv
      have := ((bit v).1 h9).2
      rw [(hc v).2 ⟨hvn, .refl _⟩] at this; cases this
theorem Cmp.done (h : Cmp n es 0 l) (hn : n ≤ 32) (hb : ∀ e ∈ es, e < 2 ^ n) : IsComps n es l := by
  obtain ⟨vs, h1, h2, h3, h4, h5, h6⟩ := h
  refine ⟨vs, h1, fun v => ⟨h2 v, fun hv => ?_⟩, h3, h4⟩
  apply Classical.byContradiction
  intro hno
  have h7 : ¬ ∀ w ∈ vs, ¬ Conn es w v := fun h8 => by
    have := (h5 v).2 ⟨hv.1, h8⟩
    simp at this
  apply h7
  intro w hw hc
  have hw2 := h2 w hw
  have h8 := hw2.2 v hv.1 hc
  have h9 := hv.2 w hw2.1 (hc.symm hn hb hw2.1)
  obtain rfl : v = w := by omega
  exact hno hw
end
end Go.Proofs.YtjofdlafblpclaaDoor
