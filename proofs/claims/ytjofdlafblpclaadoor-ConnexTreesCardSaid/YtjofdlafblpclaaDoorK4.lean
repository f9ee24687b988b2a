/-
Connected components, plainly: reachability, the search from a vertex, the list of the components.
Plain: the length of a shortest chordless cycle, as hypergraph.cycleLength finds it.
Cliques that no edge contains, plainly: what the search for the smallest one asks.
Plain: the distance as a function, and the length of a shortest chordless cycle as one.
Plain: hypergraph.shortestCycle as a function.
Contracts of math/bits.TrailingZeros32 and of slices.Backward's iterator at uint32.
What the row's condition on the library's table gives a walk.
Plain: hypergraph.smallestClique as a function.
Plain: hypergraph.Obstruction as a function.
-/
import Derived.Test.YtjofdlafblpclaaDoorK3
import Derived.Test.YtjofdlafblpclaaDoorK1
import Derived.RangeFuncBox
import Derived.RangeFuncLeaves
import Derived.Shelf.Abstract
import Derived.WalkKit
import Derived.OwnWalkIn
import Derived.TacticsInMore
import Derived.LoopNIn
import Derived.LoopIn
import Derived.Maps.AppendAt
import Derived.Test.YtjofdlafblpclaaDoorRows
import Derived.LaidMore
import Derived.Lay
import Derived.SevenTiedAt
import Derived.Stop.Joined
namespace Go.Proofs.YtjofdlafblpclaaDoor

/-- Reachable by neighbors. -/
inductive Conn (es : List Nat) : Nat → Nat → Prop
  | refl (a : Nat) : Conn es a a
  | step {a b c : Nat} : Conn es a b → (adj es b).testBit c = true → Conn es a c
theorem Conn.trans {es : List Nat} {a b c : Nat} (h : Conn es a b) (k : Conn es b c) : Conn es a c := by
  induction k with
  | refl => exact h
  | step _ h2 ih => exact .step ih h2
section
variable {n : Nat} {es : List Nat}
theorem adj_bit (hb : ∀ e ∈ es, e < 2 ^ 32) {u v : Nat} (hu : u < 32) : (adj es u).testBit v = true ↔ v ≠ u ∧ ∃ e ∈ es, e.testBit u = true ∧ e.testBit v = true := by
  rw [testBit_adj hb hu, Bool.and_eq_true, decide_eq_true_eq, List.any_eq_true]
  simp only [Bool.and_eq_true]
theorem lt32_of (hn : n ≤ 32) (hb : ∀ e ∈ es, e < 2 ^ n) : ∀ e ∈ es, e < 2 ^ 32 := fun e he => Nat.lt_of_lt_of_le (hb e he) (two_pow_le hn)
theorem adj_lt_n (hn : n ≤ 32) (hb : ∀ e ∈ es, e < 2 ^ n) {u v : Nat} (hu : u < 32) (h : (adj es u).testBit v = true) : v < n := by
  obtain ⟨_, e, he, _, h2⟩ := (adj_bit (lt32_of hn hb) hu).1 h
  exact testBit_lt (hb e he) h2
theorem adj_symm (hn : n ≤ 32) (hb : ∀ e ∈ es, e < 2 ^ n) {u v : Nat} (hu : u < n) (h : (adj es u).testBit v = true) : (adj es v).testBit u = true := by
  have hv := adj_lt_n hn hb (by omega) h
  obtain ⟨h1, e, he, h2, h3⟩ := (adj_bit (lt32_of hn hb) (show u < 32 by omega)).1 h
  exact (adj_bit (lt32_of hn hb) (by omega)).2 ⟨Ne.symm h1, e, he, h3, h2⟩
theorem Conn.lt (hn : n ≤ 32) (hb : ∀ e ∈ es, e < 2 ^ n) {u v : Nat} (hu : u < n) (h : Conn es u v) : v < n := by
  induction h with
  | refl => exact hu
  | step _ h2 ih => exact adj_lt_n hn hb (by omega) h2
theorem Conn.symm (hn : n ≤ 32) (hb : ∀ e ∈ es, e < 2 ^ n) {u v : Nat} (hu : u < n) (h : Conn es u v) : Conn es v u := by
  induction h with
  | refl => exact .refl _
  | step h1 h2 ih => exact (Conn.step (.refl _) (adj_symm hn hb (h1.lt hn hb hu) h2)).trans ih
end
/-- The vertices that are reachable from v. -/
def IsCls (n : Nat) (es : List Nat) (v x : Nat) : Prop := ∀ u, x.testBit u = true ↔ u < n ∧ Conn es v u
theorem IsCls.unique {n : Nat} {es : List Nat} {v x y : Nat} (h : IsCls n es v x) (k : IsCls n es v y) : x = y :=
  Nat.eq_of_testBit_eq fun u => by
    rw [Bool.eq_iff_iff]; exact (h u).trans (k u).symm
theorem IsCls.lt {n : Nat} {es : List Nat} {v x : Nat} (h : IsCls n es v x) : x < 2 ^ n := by
  apply Nat.lt_pow_two_of_testBit
  intro i hi
  cases hx : x.testBit i with
  | false => rfl
  | true => have := ((h i).1 hx).1; omega

/-- The neighbors of the first k vertices of a border. -/
def nxt (es : List Nat) (b : Nat) : Nat → Nat
  | 0 => 0
  | k + 1 => if b.testBit k then nxt es b k ||| adj es k else nxt es b k
theorem nxt_bit (es : List Nat) (b u : Nat) : ∀ k, (nxt es b k).testBit u = true ↔ ∃ v, v < k ∧ b.testBit v = true ∧ (adj es v).testBit u = true
  | 0 => by simp [nxt]
  | k + 1 => by
    rw [nxt]
    by_cases h : b.testBit k = true
    · rw [if_pos h, Nat.testBit_or, Bool.or_eq_true, nxt_bit es b u k]
      constructor
      · rintro (⟨v, h1, h2⟩ | h2)
        · exact ⟨v, by omega, h2⟩
        · exact ⟨k, by omega, h, h2⟩
      · rintro ⟨v, h1, h2, h3⟩
        by_cases hv : v = k
        · subst hv; exact .inr h3
        · exact .inl ⟨v, by omega, h2, h3⟩
    · rw [if_neg h, nxt_bit es b u k]
      constructor
      · rintro ⟨v, h1, h2⟩; exact ⟨v, by omega, h2⟩
      · rintro ⟨v, h1, h2, h3⟩
        exact ⟨v, by have : v ≠ k := fun e => h (e ▸ h2); omega, h2, h3⟩
theorem nxt_lt {es : List Nat} (hb : ∀ e ∈ es, e < 2 ^ 32) (b : Nat) : ∀ k, nxt es b k < 2 ^ 32
  | 0 => by simp [nxt]
  | k + 1 => by
    rw [nxt]
    split
    · exact Nat.or_lt_two_pow (nxt_lt hb b k) (adj_lt hb k)
    · exact nxt_lt hb b k
/-- The search from v: component and border. -/
structure Bfs (n : Nat) (es : List Nat) (v c b : Nat) : Prop where
  apart : ∀ u, c.testBit u = true → b.testBit u = false
  reach : ∀ u, c.testBit u = true ∨ b.testBit u = true → u < n ∧ Conn es v u
  start : c.testBit v = true ∨ b.testBit v = true
  closed : ∀ u, c.testBit u = true → ∀ t, (adj es u).testBit t = true → c.testBit t = true ∨ b.testBit t = true
theorem bits_lt {n x : Nat} (h : ∀ u, x.testBit u = true → u < n) : x < 2 ^ n := by
  apply Nat.lt_pow_two_of_testBit
  intro i hi
  cases hx : x.testBit i with
  | false => rfl
  | true => have := h i hx; omega
section
variable {n : Nat} {es : List Nat} {v c b : Nat}
theorem Bfs.clt (h : Bfs n es v c b) (hn : n ≤ 32) : c < 2 ^ 32 := Nat.lt_of_lt_of_le (bits_lt fun u hu => (h.reach u (.inl hu)).1) (two_pow_le hn)
theorem Bfs.blt (h : Bfs n es v c b) (hn : n ≤ 32) : b < 2 ^ 32 := Nat.lt_of_lt_of_le (bits_lt fun u hu => (h.reach u (.inr hu)).1) (two_pow_le hn)
theorem Bfs.init (hv : v < n) : Bfs n es v 0 (2 ^ v) := by
  refine ⟨fun u hu => by simp at hu, fun u hu => ?_, .inr (by simp [Nat.testBit_two_pow_self]), fun u hu => by simp at hu⟩
  rcases hu with hu | hu
  · simp at hu
  · rw [Nat.testBit_two_pow] at hu
    have : v = u := by simpa using hu
    subst this; exact ⟨hv, .refl _⟩
theorem Bfs.step (h : Bfs n es v c b) (hn : n ≤ 32) (hb : ∀ e ∈ es, e < 2 ^ n) : Bfs n es v (c ||| b) (andn (nxt es b n) (c ||| b)) := by
  have hc32 : c ||| b < 2 ^ 32 := Nat.or_lt_two_pow (h.clt hn) (h.blt hn)
  have hx32 := nxt_lt (lt32_of hn hb) b n
  have bit : ∀ u, (andn (nxt es b n) (c ||| b)).testBit u = true ↔ (nxt es b n).testBit u = true ∧ (c ||| b).testBit u = false := by
    intro u; rw [testBit_andn hc32 hx32]; simp
  refine ⟨fun u hu => ?_, fun u hu => ?_, .inl ?_, fun u hu t ht => ?_⟩
  · cases hx : (andn (nxt es b n) (c ||| b)).testBit u with
    | false => rfl
    | true => rw [((bit u).1 hx).2] at hu; cases hu
  · rcases hu with hu | hu
    · rw [Nat.testBit_or, Bool.or_eq_true] at hu; exact h.reach u hu
    · obtain ⟨w, hw, hwb, hwu⟩ := (nxt_bit es b u n).1 ((bit u).1 hu).1
      exact ⟨adj_lt_n hn hb (by omega) hwu, .step (h.reach w (.inr hwb)).2 hwu⟩
  · rw [Nat.testBit_or, Bool.or_eq_true]; exact h.start
  · by_cases hx : (c ||| b).testBit t = true
    · exact .inl hx
    · have hx : (c ||| b).testBit t = false := by simpa using hx
      rw [Nat.testBit_or, Bool.or_eq_true] at hu
      rcases hu with hu | hu
      · have := h.closed u hu t ht
        rw [Nat.testBit_or] at hx
        rcases this with h1 | h1 <;> simp [h1] at hx
      · exact .inr ((bit t).2 ⟨(nxt_bit es b t n).2 ⟨u, (h.reach u (.inr hu)).1, hu, ht⟩, hx⟩)
theorem Bfs.done (h : Bfs n es v c 0) : IsCls n es v c := by
  intro u
  constructor
  · intro hu; exact h.reach u (.inl hu)
  · rintro ⟨hun, hc⟩
    clear hun
    induction hc with
    | refl => rcases h.start with h1 | h1
              · exact h1
              · simp at h1
    | step h1 h2 ih =>
      rcases h.closed _ ih _ h2 with h3 | h3
      · exact h3
      · simp at h3
/-- What the search lowers. -/
theorem Bfs.more (h : Bfs n es v c b) (hb0 : b ≠ 0) : n - bitsOf n (c ||| b) < n - bitsOf n c := by
  have h1 : ∃ u, b.testBit u = true := by
    apply Classical.byContradiction
    intro h2
    exact hb0 (zero_of_bits fun u => by
      cases hx : b.testBit u with
      | false => rfl
      | true => exact absurd ⟨u, hx⟩ h2)
  obtain ⟨u, hu⟩ := h1
  have hun := (h.reach u (.inr hu)).1
  have h2 : bitsOf n c < bitsOf n (c ||| b) := by
    apply countP_lt_of
    · intro x _ hx; simp only [Nat.testBit_or]; simp [hx]
    · refine ⟨u, by simpa using hun, ?_, by simp only [Nat.testBit_or]; simp [hu]⟩
      cases hx : c.testBit u with
      | false => rfl
      | true => rw [h.apart u hx] at hu; cases hu
  have h3 := bitsOf_le n (c ||| b)
  omega
end
/-- The lowest vertex of a set. -/
theorem low_bit {x : Nat} (h : x ≠ 0) : ∃ v, x.testBit v = true ∧ ∀ u, u < v → x.testBit u = false := by
  have h1 : ∃ u, x.testBit u = true := by
    apply Classical.byContradiction
    intro h2
    exact h (zero_of_bits fun u => by
      cases hx : x.testBit u with
      | false => rfl
      | true => exact absurd ⟨u, hx⟩ h2)
  obtain ⟨u, hu⟩ := h1
  obtain ⟨v, hv, hm⟩ := least (P := fun v => x.testBit v = true) hu
  exact ⟨v, hv, fun k hk => by simpa using hm k hk⟩
theorem low_pred {x v : Nat} (h : x.testBit v = true) (hl : ∀ u, u < v → x.testBit u = false) : ∀ i, (x - 1).testBit i = if i < v then true else if i = v then false else x.testBit i := by
  have hx : x = 2 ^ v * (x / 2 ^ v) := by
    have hmod : x % 2 ^ v = 0 := zero_of_bits fun u => by
      rw [Nat.testBit_mod_two_pow]
      by_cases hu : u < v
      · simp [hl u hu]
      · simp [hu]
    have := Nat.div_add_mod x (2 ^ v)
    omega
  have hodd : (x / 2 ^ v) % 2 = 1 := by
    have h2 := h
    rw [Nat.testBit_eq_decide_div_mod_eq] at h2
    simpa using h2
  obtain ⟨k, hk⟩ : ∃ k, x / 2 ^ v = 2 * k + 1 := ⟨x / 2 ^ v / 2, by omega⟩
  have hp : 0 < 2 ^ v := pow2_pos v
  have e1 : x - 1 = 2 ^ v * (2 * k) + (2 ^ v - 1) := by
    rw [hk, Nat.mul_add, Nat.mul_one] at hx; omega
  have e2 : x = 2 ^ v * (2 * k + 1) := by rw [← hk]; exact hx
  intro i
  rw [e1, Nat.testBit_two_pow_mul_add _ (by omega)]
  by_cases hi : i < v
  · rw [if_pos hi, if_pos hi, Nat.testBit_two_pow_sub_one]; simp [hi]
  · rw [if_neg hi, if_neg hi]
    by_cases hi2 : i = v
    · subst hi2; rw [if_pos rfl, Nat.sub_self]; simp
    · rw [if_neg hi2, e2, Nat.testBit_two_pow_mul]
      obtain ⟨j, hj⟩ : ∃ j, i - v = j + 1 := ⟨i - v - 1, by omega⟩
      rw [hj, Nat.testBit_succ, Nat.testBit_succ, show (2 * k + 1) / 2 = k by omega, show 2 * k / 2 = k by omega]
      simp; omega
/-- The lowest vertex, as x & -x gives it. -/
theorem low_and {x v : Nat} (hx : x < 2 ^ 32) (h : x.testBit v = true) (hl : ∀ u, u < v → x.testBit u = false) : x &&& (4294967296 - x) = 2 ^ v := by
  have h0 : x ≠ 0 := by rintro rfl; simp at h
  have e : 4294967296 - x = 2 ^ 32 - ((x - 1) + 1) := by omega
  apply Nat.eq_of_testBit_eq
  intro i
  rw [Nat.testBit_and, e, Nat.testBit_two_pow_sub_succ (by omega), low_pred h hl, Nat.testBit_two_pow]
  by_cases hi : i < v
  · simp [hl i hi]; omega
  · rw [if_neg hi]
    by_cases hi2 : i = v
    · subst hi2
      have : i < 32 := testBit_lt hx h
      simp [h, this]
    · rw [if_neg hi2]; simp [Ne.symm hi2]; intro a _; exact a

theorem low_bits {x v : Nat} (hx : x < 4294967296) (h0 : x ≠ 0) (h : x &&& (4294967296 - x) = 2 ^ v) : bits .and .u32 (x : Int) (-(x : Int) % 4294967296) = ((2 ^ v : Nat) : Int) := by
  rw [show -(x : Int) % 4294967296 = ((4294967296 - x : Nat) : Int) by omega, bits_and _ _ hx (by omega), h]
theorem andn_less {n x c v : Nat} (hx : x < 2 ^ 32) (hc : c < 2 ^ 32) (hv : v < n) (h : x.testBit v = true) (hcv : c.testBit v = true) : bitsOf n (andn x c) < bitsOf n x := by
  apply countP_lt_of
  · intro u _ hu
    rw [testBit_andn hc hx] at hu
    simp only [Bool.and_eq_true] at hu
    exact hu.1
  · refine ⟨v, by simpa using hv, ?_, h⟩
    rw [testBit_andn hc hx]; simp [hcv]
/-- The least vertex of its component. -/
def Least (n : Nat) (es : List Nat) (v : Nat) : Prop := v < n ∧ ∀ u, u < n → Conn es v u → v ≤ u
/-- The components, in the order of their least vertices. -/
def IsComps (n : Nat) (es : List Nat) (l : List Nat) : Prop :=
  ∃ vs : List Nat, vs.Pairwise (· < ·) ∧ (∀ v, v ∈ vs ↔ Least n es v) ∧ l.length = vs.length ∧ ∀ i, i < vs.length → IsCls n es (nth vs i) (nth l i)
theorem sorted_unique : ∀ {a b : List Nat}, a.Pairwise (· < ·) → b.Pairwise (· < ·) → (∀ v, v ∈ a ↔ v ∈ b) → a = b
  | [], [], _, _, _ => rfl
  | [], y :: b, _, _, h => by have := (h y).2 (by simp); simp at this
  | x :: a, [], _, _, h => by have := (h x).1 (by simp); simp at this
  | x :: a, y :: b, h1, h2, h => by
    rw [List.pairwise_cons] at h1 h2
    have hxy : x = y := by
      rcases List.mem_cons.1 ((h x).1 (by simp)) with e | e
      · exact e
      · rcases List.mem_cons.1 ((h y).2 (by simp)) with e2 | e2
        · exact e2.symm
        · have := h2.1 x e; have := h1.1 y e2; omega
    subst hxy
    rw [sorted_unique h1.2 h2.2 (fun v => ?_)]
    constructor
    · intro hv
      rcases List.mem_cons.1 ((h v).1 (by simp [hv])) with e | e
      · subst e; have := h1.1 v hv; omega
      · exact e
    · intro hv
      rcases List.mem_cons.1 ((h v).2 (by simp [hv])) with e | e
      · subst e; have := h2.1 v hv; omega
      · exact e
theorem IsComps.unique {n : Nat} {es l l' : List Nat} (h : IsComps n es l) (k : IsComps n es l') : l = l' := by
  obtain ⟨vs, h1, h2, h3, h4⟩ := h
  obtain ⟨us, k1, k2, k3, k4⟩ := k
  obtain rfl := sorted_unique h1 k1 (fun v => (h2 v).trans (k2 v).symm)
  apply List.ext_getElem (h3.trans k3.symm)
  intro i hi hi'
  rw [← nth_eq hi, ← nth_eq hi']
  exact (h4 i (by omega)).unique (k4 i (by omega))
/-- The components found so far, and the vertices that are left. -/
def Cmp (n : Nat) (es : List Nat) (left : Nat) (l : List Nat) : Prop :=
  ∃ vs : List Nat, vs.Pairwise (· < ·) ∧ (∀ v ∈ vs, Least n es v) ∧ l.length = vs.length ∧ (∀ i, i < vs.length → IsCls n es (nth vs i) (nth l i)) ∧
    (∀ u, left.testBit u = true ↔ u < n ∧ ∀ v ∈ vs, ¬ Conn es v u) ∧ (∀ v ∈ vs, ∀ u, left.testBit u = true → v < u)
section
variable {n : Nat} {es l : List Nat} {left : Nat}
theorem Cmp.lt (h : Cmp n es left l) : left < 2 ^ n := by
  obtain ⟨vs, _, _, _, _, h5, _⟩ := h
  exact bits_lt fun u hu => ((h5 u).1 hu).1
theorem Cmp.init : Cmp n es (2 ^ n - 1) [] := by
  refine ⟨[], .nil, by simp, rfl, by simp, fun u => ?_, by simp⟩
  rw [Nat.testBit_two_pow_sub_one]; simp
theorem nth_last (l : List Nat) (x : Nat) : nth (l ++ [x]) l.length = x := by simp [nth, List.getD]
theorem nth_app {l : List Nat} {x i : Nat} (h : i < l.length) : nth (l ++ [x]) i = nth l i := by simp [nth, List.getD, List.getElem?_append, h]
theorem Cmp.step (h : Cmp n es left l) (hn : n ≤ 32) (hb : ∀ e ∈ es, e < 2 ^ n) {v c : Nat} (hv : left.testBit v = true) (hl : ∀ u, u < v → left.testBit u = false) (hc : IsCls n es v c) : Cmp n es (andn left c) (l ++ [c]) ∧ andn left c < left := by
  have hlt := h.lt
  obtain ⟨vs, h1, h2, h3, h4, h5, h6⟩ := h
  obtain ⟨hvn, hvc⟩ := (h5 v).1 hv
  have hl32 : left < 2 ^ 32 := Nat.lt_of_lt_of_le hlt (two_pow_le hn)
  have hc32 : c < 2 ^ 32 := Nat.lt_of_lt_of_le hc.lt (two_pow_le hn)
  have bit : ∀ u, (andn left c).testBit u = true ↔ left.testBit u = true ∧ c.testBit u = false := by
    intro u; rw [testBit_andn hc32 hl32]; simp
  refine ⟨⟨vs ++ [v], ?_, ?_, by simp [h3], ?_, ?_, ?_⟩, ?_⟩
  · rw [List.pairwise_append]
    exact ⟨h1, List.pairwise_singleton _ _, fun a ha b hb => by
      have : b = v := by simpa using hb
      subst this; exact h6 a ha b hv⟩
  · intro w hw
    rcases List.mem_append.1 hw with hw | hw
    · exact h2 w hw
    · have : w = v := by simpa using hw
      subst this
      refine ⟨hvn, fun u hu hcu => ?_⟩
      rcases Nat.lt_or_ge u w with hlt | hge
      · have h7 : left.testBit u = true := (h5 u).2 ⟨hu, fun x hx hxu => hvc x hx (hxu.trans (hcu.symm hn hb hvn))⟩
        rw [hl u hlt] at h7; cases h7
      · exact hge
  · intro i hi
    rw [List.length_append, List.length_singleton] at hi
    by_cases hil : i < vs.length
    · rw [nth_app hil, nth_app (by omega)]; exact h4 i hil
    · have : i = vs.length := by omega
      subst this
      rw [nth_last, ← h3, nth_last]; exact hc
  · intro u
    rw [bit, h5]
    constructor
    · rintro ⟨⟨h7, h8⟩, h9⟩
      refine ⟨h7, fun w hw => ?_⟩
      rcases List.mem_append.1 hw with hw | hw
      · exact h8 w hw
      · have : w = v := by simpa using hw
        subst this
        intro h10
        rw [(hc u).2 ⟨h7, h10⟩] at h9; cases h9
    · rintro ⟨h7, h8⟩
      refine ⟨⟨h7, fun w hw => h8 w (by simp [hw])⟩, ?_⟩
      cases hx : c.testBit u with
      | false => rfl
      | true => exact absurd ((hc u).1 hx).2 (h8 v (by simp))
  · intro w hw u hu
    rw [bit] at hu
    rcases List.mem_append.1 hw with hw | hw
    · exact h6 w hw u hu.1
    · have : w = v := by simpa using hw
      subst this
      rcases Nat.lt_trichotomy u w with h7 | h7 | h7
      · rw [hl u h7] at hu; cases hu.1
      · subst h7
        rw [(hc u).2 ⟨hvn, .refl _⟩] at hu; cases hu.2
      · exact h7
  · have hle : andn left c ≤ left := Nat.and_le_left
    rcases Nat.lt_or_ge (andn left c) left with h7 | h7
    · exact h7
    · have h8 : andn left c = left := Nat.le_antisymm hle h7
      have h9 : (andn left c).testBit v = true := by rw [h8]; exact hv
      have := ((bit v).1 h9).2
      rw [(hc v).2 ⟨hvn, .refl _⟩] at this; cases this
theorem Cmp.done (h : Cmp n es 0 l) (hn : n ≤ 32) (hb : ∀ e ∈ es, e < 2 ^ n) : IsComps n es l := by
  obtain ⟨vs, h1, h2, h3, h4, h5, h6⟩ := h
  refine ⟨vs, h1, fun v => ⟨h2 v, fun hv => ?_⟩, h3, h4⟩
  apply Classical.byContradiction
  intro hno
  have h7 : ¬ ∀ w ∈ vs, ¬ Conn es w v := fun h8 => by
    have := (h5 v).2 ⟨hv.1, h8⟩
    simp at this
  apply h7
  intro w hw hc
  have hw2 := h2 w hw
  have h8 := hw2.2 v hv.1 hc
  have h9 := hv.2 w hw2.1 (hc.symm hn hb hw2.1)
  obtain rfl : v = w := by omega
  exact hno hw
end
end Go.Proofs.YtjofdlafblpclaaDoor
namespace Go.Proofs.YtjofdlafblpclaaDoor

/-- The neighbours of the vertices of f below k. -/
def orTo (R : List Nat) (f : Nat) : Nat → Nat
  | 0 => 0
  | k + 1 => if f.testBit k then orTo R f k ||| nth R k else orTo R f k
/-- The next level. -/
def nextL (R : List Nat) (n ins seen front : Nat) : Nat := andn (orTo R front n &&& ins) (seen ||| front)
/-- The distance, when so many rounds suffice. -/
def distO (R : List Nat) (n b ins : Nat) : Nat → Nat → Nat → Nat → Option Nat
  | 0, _, _, _ => none
  | f + 1, seen, front, l =>
    if front = 0 then some 0
    else if (nextL R n ins seen front).testBit b then some l
    else distO R n b ins f (seen ||| front) (nextL R n ins seen front) (l + 1)
theorem distO_more {R : List Nat} {n b ins : Nat} : ∀ (f g seen front l d : Nat), distO R n b ins f seen front l = some d → distO R n b ins (f + g) seen front l = some d := by
  intro f
  induction f with
  | zero => intro g seen front l d h; simp [distO] at h
  | succ f ih =>
    intro g seen front l d h
    rw [show f + 1 + g = (f + g) + 1 by omega]
    rw [distO] at h ⊢
    by_cases h0 : front = 0
    · rw [if_pos h0] at h ⊢; exact h
    · rw [if_neg h0] at h ⊢
      by_cases h1 : (nextL R n ins seen front).testBit b = true
      · rw [if_pos h1] at h ⊢; exact h
      · rw [if_neg h1] at h ⊢; exact ih _ _ _ _ _ h
theorem distO_one {R : List Nat} {n b ins f g seen front l d e : Nat} (h1 : distO R n b ins f seen front l = some d) (h2 : distO R n b ins g seen front l = some e) : d = e := by
  have a := distO_more f g seen front l d h1
  have c := distO_more g f seen front l e h2
  rw [Nat.add_comm g f] at c
  exact Option.some.inj (a.symm.trans c)
/-- What hypergraph.distance answers. -/
def DistIs (R : List Nat) (n a b ins d : Nat) : Prop := ∃ f, distO R n b ins f 0 (2 ^ a) 1 = some d
theorem DistIs.one {R : List Nat} {n a b ins d e : Nat} (h1 : DistIs R n a b ins d) (h2 : DistIs R n a b ins e) : d = e := by
  obtain ⟨f, hf⟩ := h1
  obtain ⟨g, hg⟩ := h2
  exact distO_one hf hg
end Go.Proofs.YtjofdlafblpclaaDoor
namespace Go.Proofs.YtjofdlafblpclaaDoor

/-- The vertices that a cycle through x, v, y may still use, x and y with them. -/
def restOf (R : List Nat) (n v x y : Nat) : Nat := andn (andn (2 ^ n - 1) (nth R v)) (2 ^ v) ||| 2 ^ x ||| 2 ^ y
/-- Is there nothing to do at v, x, y? -/
def skipB (R : List Nat) (v x y : Nat) : Bool := !(nth R v).testBit x || !(nth R v).testBit y || (nth R x).testBit y
/-- One place: the shortest length so far, and the next. -/
def CylStep (R : List Nat) (n v x y s s' : Nat) : Prop :=
  if skipB R v x y = true then s' = s
  else ∃ d, DistIs R n x y (restOf R n v x y) d ∧ s' = if 0 < d ∧ (s = 0 ∨ d + 2 < s) then d + 2 else s
/-- The innermost loop, y below k. -/
def CylY (R : List Nat) (n v x : Nat) : Nat → Nat → Nat → Prop
  | 0, s, t => t = s
  | k + 1, s, t => ∃ m, CylY R n v x k s m ∧ CylStep R n v x k m t
/-- The loop over x. -/
def CylX (R : List Nat) (n v : Nat) : Nat → Nat → Nat → Prop
  | 0, s, t => t = s
  | k + 1, s, t => ∃ m, CylX R n v k s m ∧ CylY R n v k k m t
/-- The loop over v. -/
def CylV (R : List Nat) (n : Nat) : Nat → Nat → Nat → Prop
  | 0, s, t => t = s
  | k + 1, s, t => ∃ m, CylV R n k s m ∧ CylX R n k n m t
end Go.Proofs.YtjofdlafblpclaaDoor
namespace Go.Proofs.YtjofdlafblpclaaDoor

theorem bit_zero' (e v : Nat) (he : e < 2 ^ 32) : (bits .and .u32 ((e : Int) / 2 ^ v) 1 == 0) = !e.testBit v := by
  rw [bits_and_one e v he]
  cases e.testBit v <;> rfl
/-- Any two different vertices are adjacent. -/
def Clq (es : List Nat) (S : Nat) : Prop := ∀ a b, S.testBit a = true → S.testBit b = true → a ≠ b → (adj es a).testBit b = true
def Cov (es : List Nat) (S : Nat) : Prop := ∃ e ∈ es, sub S e
/-- A clique of at most k vertices of r makes c a set that no edge contains. -/
def Ext (n : Nat) (es : List Nat) (c r k : Nat) : Prop := ∃ S, sub S r ∧ Clq es S ∧ bitsOf n S ≤ k ∧ ¬ Cov es (c ||| S)
/-- Every vertex of r is adjacent to every one of c. -/
structure Pre (n : Nat) (es : List Nat) (c r : Nat) : Prop where
  cl : c < 2 ^ n
  rl : r < 2 ^ n
  ad : ∀ u w, r.testBit u = true → c.testBit w = true → (adj es w).testBit u = true
section
variable {n : Nat} {es : List Nat} {c r k v : Nat}
theorem or_bit (a v u : Nat) : (a ||| 2 ^ v).testBit u = true ↔ a.testBit u = true ∨ u = v := by
  rw [Nat.testBit_or, Nat.testBit_two_pow, Bool.or_eq_true, decide_eq_true_eq]
  constructor
  · rintro (h | h)
    · exact .inl h
    · exact .inr h.symm
  · rintro (h | h)
    · exact .inl h
    · exact .inr h.symm
theorem drop_bit {a : Nat} (ha : a < 2 ^ 32) (hv : v < 32) (u : Nat) : (andn a (2 ^ v)).testBit u = true ↔ a.testBit u = true ∧ u ≠ v := by
  rw [testBit_andn (pow2_lt32 hv) ha, Nat.testBit_two_pow]
  simp only [Bool.and_eq_true, Bool.not_eq_true', decide_eq_false_iff_not]
  constructor
  · rintro ⟨h1, h2⟩; exact ⟨h1, fun e => h2 e.symm⟩
  · rintro ⟨h1, h2⟩; exact ⟨h1, fun e => h2 e.symm⟩
theorem bits_or_le (S v : Nat) : bitsOf n (S ||| 2 ^ v) ≤ bitsOf n S + 1 := by
  unfold bitsOf
  have : ∀ l : List Nat, l.Nodup → l.countP (fun u => (S ||| 2 ^ v).testBit u) ≤ l.countP (fun u => S.testBit u) + 1 := by
    intro l
    induction l with
    | nil => intro _; simp
    | cons x l ih =>
      intro hnd
      rw [List.nodup_cons] at hnd
      rw [List.countP_cons, List.countP_cons]
      by_cases hx : x = v
      · have e : l.countP (fun u => (S ||| 2 ^ v).testBit u) = l.countP (fun u => S.testBit u) := by
          apply List.countP_congr
          intro u hu
          rw [or_bit]
          have : u ≠ v := fun e => hnd.1 (by rw [hx, ← e]; exact hu)
          simp [this]
        rw [e]; split <;> split <;> omega
      · have := ih hnd.2
        have e : (S ||| 2 ^ v).testBit x = S.testBit x := by
          rw [Bool.eq_iff_iff, or_bit]; simp [hx]
        rw [e]; split <;> omega
  exact this _ List.nodup_range
theorem bits_drop {S : Nat} (hS : S < 2 ^ 32) (hv : v < 32) (hvn : v < n) (h : S.testBit v = true) : bitsOf n (andn S (2 ^ v)) + 1 ≤ bitsOf n S :=
  andn_less hS (pow2_lt32 hv) hvn h (Nat.testBit_two_pow_self)
theorem sub_lt {S r : Nat} (h : sub S r) (hr : r < 2 ^ n) : S < 2 ^ n := bits_lt fun u hu => testBit_lt hr (h u hu)
/-- A vertex that is taken. -/
theorem Ext.take (hn : n ≤ 32) (hb : ∀ e ∈ es, e < 2 ^ n) (hr : r < 2 ^ n) (hv : r.testBit v = true) (hk : 1 ≤ k) (h : Ext n es (c ||| 2 ^ v) (andn r (2 ^ v) &&& adj es v) (k - 1)) : Ext n es c r k := by
  have hvn : v < n := testBit_lt hr hv
  have r32 : r < 2 ^ 32 := Nat.lt_of_lt_of_le hr (two_pow_le hn)
  obtain ⟨S, h1, h2, h3, h4⟩ := h
  have hS : ∀ u, S.testBit u = true → r.testBit u = true ∧ (adj es v).testBit u = true := by
    intro u hu
    have := h1 u hu
    rw [Nat.testBit_and, Bool.and_eq_true, drop_bit r32 (by omega)] at this
    exact ⟨this.1.1, this.2⟩
  refine ⟨S ||| 2 ^ v, fun u hu => ?_, fun a b ha hb2 hab => ?_, ?_, ?_⟩
  · rcases (or_bit S v u).1 hu with h5 | rfl
    · exact (hS u h5).1
    · exact hv
  · rcases (or_bit S v a).1 ha with h5 | rfl
    · rcases (or_bit S v b).1 hb2 with h6 | rfl
      · exact h2 a b h5 h6 hab
      · exact adj_symm hn hb (by omega) (hS a h5).2
    · rcases (or_bit S a b).1 hb2 with h6 | rfl
      · exact (hS b h6).2
      · exact absurd rfl hab
  · have := bits_or_le (n := n) S v; omega
  · have e : c ||| (S ||| 2 ^ v) = c ||| 2 ^ v ||| S := by rw [Nat.or_comm S, Nat.or_assoc]
    rw [e]; exact h4
/-- A vertex is taken or not. -/
theorem Ext.split (hn : n ≤ 32) (hr : r < 2 ^ n) (hv : r.testBit v = true) (h : Ext n es c r k) : Ext n es c (andn r (2 ^ v)) k ∨ Ext n es (c ||| 2 ^ v) (andn r (2 ^ v) &&& adj es v) (k - 1) := by
  have hvn : v < n := testBit_lt hr hv
  have r32 : r < 2 ^ 32 := Nat.lt_of_lt_of_le hr (two_pow_le hn)
  obtain ⟨S, h1, h2, h3, h4⟩ := h
  have S32 : S < 2 ^ 32 := Nat.lt_of_lt_of_le (sub_lt h1 hr) (two_pow_le hn)
  by_cases hSv : S.testBit v = true
  · right
    refine ⟨andn S (2 ^ v), fun u hu => ?_, fun a b ha hb2 hab => ?_, ?_, ?_⟩
    · obtain ⟨h5, h6⟩ := (drop_bit S32 (by omega) u).1 hu
      rw [Nat.testBit_and, Bool.and_eq_true, drop_bit r32 (by omega)]
      exact ⟨⟨h1 u h5, h6⟩, h2 v u hSv h5 (Ne.symm h6)⟩
    · exact h2 a b ((drop_bit S32 (by omega) a).1 ha).1 ((drop_bit S32 (by omega) b).1 hb2).1 hab
    · have := bits_drop S32 (by omega) hvn hSv; omega
    · have e : c ||| 2 ^ v ||| andn S (2 ^ v) = c ||| S := by
        apply Nat.eq_of_testBit_eq
        intro u
        rw [Bool.eq_iff_iff, Nat.testBit_or (c ||| 2 ^ v), Nat.testBit_or c S, Bool.or_eq_true, Bool.or_eq_true, or_bit, drop_bit S32 (by omega)]
        constructor
        · rintro ((h5 | rfl) | h5)
          · exact .inl h5
          · exact .inr hSv
          · exact .inr h5.1
        · rintro (h5 | h5)
          · exact .inl (.inl h5)
          · by_cases huv : u = v
            · exact .inl (.inr huv)
            · exact .inr ⟨h5, huv⟩
      rw [e]; exact h4
  · left
    refine ⟨S, fun u hu => ?_, h2, h3, h4⟩
    rw [drop_bit r32 (by omega)]
    exact ⟨h1 u hu, fun e => hSv (e ▸ hu)⟩
/-- Nothing outside of an edge is left. -/
theorem Ext.none {e r' : Nat} (he : e ∈ es) (hc : sub c e) (hr : sub r' e) : ¬ Ext n es c r' k := by
  rintro ⟨S, h1, _, _, h4⟩
  apply h4
  refine ⟨e, he, fun u hu => ?_⟩
  rw [Nat.testBit_or, Bool.or_eq_true] at hu
  rcases hu with h | h
  · exact hc u h
  · exact hr u (h1 u h)
theorem Ext.mono {r' : Nat} (h : Ext n es c r' k) (hs : sub r' r) : Ext n es c r k := by
  obtain ⟨S, h1, h2, h3, h4⟩ := h
  exact ⟨S, fun u hu => hs u (h1 u hu), h2, h3, h4⟩
theorem Ext.now (hc : ¬ Cov es c) : Ext n es c r k := ⟨0, fun u hu => by simp at hu, fun a b ha => by simp at ha, by rw [bitsOf_zero]; omega, by simpa using hc⟩
theorem Pre.take (hn : n ≤ 32) (h : Pre n es c r) {r' : Nat} (hs : sub r' r) (hv : r'.testBit v = true) : Pre n es (c ||| 2 ^ v) (andn r' (2 ^ v) &&& adj es v) := by
  have r'l := sub_lt hs h.rl
  have hvn : v < n := testBit_lt r'l hv
  have r32 : r' < 2 ^ 32 := Nat.lt_of_lt_of_le r'l (two_pow_le hn)
  refine ⟨Nat.or_lt_two_pow h.cl (Nat.pow_lt_pow_right (by omega) hvn), Nat.lt_of_le_of_lt (Nat.le_trans Nat.and_le_left Nat.and_le_left) r'l, fun u w hu hw => ?_⟩
  rw [Nat.testBit_and, Bool.and_eq_true, drop_bit r32 (by omega)] at hu
  rcases (or_bit c v w).1 hw with h1 | rfl
  · exact h.ad u w (hs u hu.1.1) h1
  · exact hu.2
/-- The bound by disjoint sets: each of them must be hit. -/
def Hit (n : Nat) (es : List Nat) (c r used cnt : Nat) : Prop := ∀ S, sub S r → (∀ e ∈ es, sub c e → ∃ u, S.testBit u = true ∧ e.testBit u = false) → cnt ≤ bitsOf n (S &&& used)
theorem Hit.step {used cnt e : Nat} (hn : n ≤ 32) (hr : r < 2 ^ n) (he : e < 2 ^ 32) (hmem : e ∈ es) (hc : sub c e) (hd : andn r e &&& used = 0) (h : Hit n es c r used cnt) : Hit n es c r (used ||| andn r e) (cnt + 1) := by
  intro S h1 h2
  have h3 := h S h1 h2
  obtain ⟨u, h4, h5⟩ := h2 e hmem hc
  have r32 : r < 2 ^ 32 := Nat.lt_of_lt_of_le hr (two_pow_le hn)
  have hu : (andn r e).testBit u = true := by rw [testBit_andn he r32, h1 u h4, h5]; rfl
  have hnu : used.testBit u = false := by
    have : (andn r e &&& used).testBit u = false := by rw [hd]; simp
    rw [Nat.testBit_and, hu] at this; simpa using this
  have : bitsOf n (S &&& used) < bitsOf n (S &&& (used ||| andn r e)) := by
    apply countP_lt_of
    · intro x _ hx
      simp only [Nat.testBit_and, Nat.testBit_or, Bool.and_eq_true, Bool.or_eq_true] at hx ⊢
      exact ⟨hx.1, .inl hx.2⟩
    · refine ⟨u, by simpa using testBit_lt hr (h1 u h4), ?_, ?_⟩
      · simp [Nat.testBit_and, hnu]
      · simp [Nat.testBit_and, Nat.testBit_or, h4, hu]
  omega
theorem Hit.none {used cnt : Nat} (h : Hit n es c r used cnt) (hk : k < cnt) : ¬ Ext n es c r k := by
  rintro ⟨S, h1, _, h3, h4⟩
  have := h S h1 (fun e he hc => Classical.byContradiction fun hno => h4 ⟨e, he, fun u hu => by
    rw [Nat.testBit_or, Bool.or_eq_true] at hu
    rcases hu with h5 | h5
    · exact hc u h5
    · cases hx : e.testBit u with
      | true => rfl
      | false => exact absurd ⟨u, h5, hx⟩ hno⟩)
  have h6 : bitsOf n (S &&& used) ≤ bitsOf n S := by
    unfold bitsOf
    apply List.countP_mono_left
    intro x _ hx
    rw [Nat.testBit_and, Bool.and_eq_true] at hx
    exact hx.1
  omega
end
end Go.Proofs.YtjofdlafblpclaaDoor
namespace Go.Proofs.YtjofdlafblpclaaDoor

/-- What hypergraph.distance answers, as a function. -/
def distF (R : List Nat) (n a b ins : Nat) : Nat := (distO R n b ins (n + 1) 0 (2 ^ a) 1).getD 0
section
variable {R : List Nat} {n : Nat}
theorem nth_lt2 (hR : ∀ x ∈ R, x < 2 ^ n) (k : Nat) : nth R k < 2 ^ n := by
  by_cases h : k < R.length
  · exact hR _ (nth_mem h)
  · have : nth R k = 0 := by simp only [nth, List.getD]; rw [List.getElem?_eq_none (by omega)]; rfl
    rw [this]; exact pow2_pos n
theorem orTo_lt (hR : ∀ x ∈ R, x < 2 ^ n) (f : Nat) : ∀ k, orTo R f k < 2 ^ n
  | 0 => pow2_pos n
  | k + 1 => by
    rw [orTo]
    split
    · exact Nat.or_lt_two_pow (orTo_lt hR f k) (nth_lt2 hR k)
    · exact orTo_lt hR f k
theorem nextL_lt (hR : ∀ x ∈ R, x < 2 ^ n) (ins seen front : Nat) : nextL R n ins seen front < 2 ^ n :=
  Nat.lt_of_le_of_lt (Nat.le_trans Nat.and_le_left Nat.and_le_left) (orTo_lt hR front n)
theorem distO_some (hn : n ≤ 32) (hR : ∀ x ∈ R, x < 2 ^ n) (b ins : Nat) : ∀ (f seen front l : Nat), seen < 2 ^ n → front < 2 ^ n → (∀ u, ¬ (seen.testBit u = true ∧ front.testBit u = true)) → n + 1 ≤ f + bitsOf n seen →
    ∃ d, distO R n b ins f seen front l = some d ∧ d < l + f := by
  intro f
  induction f with
  | zero => intro seen front l _ _ _ h; have := bitsOf_le n seen; omega
  | succ f ih =>
    intro seen front l hs hf hd hm
    rw [distO]
    by_cases h0 : front = 0
    · exact ⟨0, by rw [if_pos h0], by omega⟩
    · rw [if_neg h0]
      by_cases h1 : (nextL R n ins seen front).testBit b = true
      · exact ⟨l, by rw [if_pos h1], by omega⟩
      · rw [if_neg h1]
        have hso : seen ||| front < 2 ^ n := Nat.or_lt_two_pow hs hf
        have hlt : bitsOf n seen < bitsOf n (seen ||| front) := by
          obtain ⟨u, hu⟩ : ∃ u, front.testBit u = true := by
            refine Classical.byContradiction fun hno => h0 (Nat.eq_of_testBit_eq fun u => ?_)
            rw [Nat.zero_testBit]
            cases hu : front.testBit u with
            | false => rfl
            | true => exact absurd ⟨u, hu⟩ hno
          apply countP_lt_of
          · intro x _ hx
            rw [Nat.testBit_or, hx, Bool.true_or]
          · refine ⟨u, by simpa using testBit_lt hf hu, ?_, by rw [Nat.testBit_or, hu, Bool.or_true]⟩
            cases hsu : seen.testBit u with
            | false => simp
            | true => exact absurd ⟨hsu, hu⟩ (hd u)
        obtain ⟨d, h2, h3⟩ := ih (seen ||| front) (nextL R n ins seen front) (l + 1) hso (nextL_lt hR ins seen front) (fun u ⟨h4, h5⟩ => by
          unfold nextL at h5
          rw [testBit_andn (Nat.lt_of_lt_of_le hso (two_pow_le hn)) (Nat.lt_of_le_of_lt Nat.and_le_left (Nat.lt_of_lt_of_le (orTo_lt hR front n) (two_pow_le hn))), h4] at h5
          simp at h5) (by omega)
        exact ⟨d, h2, by omega⟩
theorem distF_spec (hn : n ≤ 32) (hR : ∀ x ∈ R, x < 2 ^ n) {a : Nat} (ha : a < n) (b ins : Nat) : DistIs R n a b ins (distF R n a b ins) ∧ distF R n a b ins ≤ n + 1 := by
  obtain ⟨d, h1, h2⟩ := distO_some hn hR b ins (n + 1) 0 (2 ^ a) 1 (pow2_pos n) (Nat.pow_lt_pow_right (by omega) ha) (fun u ⟨h, _⟩ => by simp at h) (by omega)
  have e : distF R n a b ins = d := by rw [distF, h1]; rfl
  rw [e]
  exact ⟨⟨_, h1⟩, by omega⟩
theorem DistIs.eq (hn : n ≤ 32) (hR : ∀ x ∈ R, x < 2 ^ n) {a b ins d : Nat} (ha : a < n) (h : DistIs R n a b ins d) : d = distF R n a b ins := h.one (distF_spec hn hR ha b ins).1

/-- hypergraph.cycleLength, as a function. -/
def stepF (R : List Nat) (n v x y s : Nat) : Nat :=
  if skipB R v x y = true then s
  else if 0 < distF R n x y (restOf R n v x y) ∧ (s = 0 ∨ distF R n x y (restOf R n v x y) + 2 < s) then distF R n x y (restOf R n v x y) + 2 else s
def cylYF (R : List Nat) (n v x : Nat) : Nat → Nat → Nat
  | 0, s => s
  | k + 1, s => stepF R n v x k (cylYF R n v x k s)
def cylXF (R : List Nat) (n v : Nat) : Nat → Nat → Nat
  | 0, s => s
  | k + 1, s => cylYF R n v k k (cylXF R n v k s)
def cylVF (R : List Nat) (n : Nat) : Nat → Nat → Nat
  | 0, s => s
  | k + 1, s => cylXF R n k n (cylVF R n k s)
def cylF (R : List Nat) (n : Nat) : Nat := cylVF R n n 0
theorem CylStep.eq (hn : n ≤ 32) (hR : ∀ x ∈ R, x < 2 ^ n) {v x y s t : Nat} (hx : x < n) (h : CylStep R n v x y s t) : t = stepF R n v x y s := by
  unfold CylStep at h
  unfold stepF
  split at h
  · rename_i h1; rw [if_pos h1]; exact h
  · rename_i h1
    rw [if_neg h1]
    obtain ⟨d, hd, rfl⟩ := h
    rw [← hd.eq hn hR hx]
theorem CylY.eq (hn : n ≤ 32) (hR : ∀ x ∈ R, x < 2 ^ n) {v x : Nat} (hx : x < n) : ∀ {k s t : Nat}, CylY R n v x k s t → t = cylYF R n v x k s
  | 0, s, t, h => h
  | k + 1, s, t, ⟨m, h1, h2⟩ => by
    rw [cylYF, ← h1.eq hn hR hx]; exact h2.eq hn hR hx
theorem CylX.eq (hn : n ≤ 32) (hR : ∀ x ∈ R, x < 2 ^ n) {v : Nat} : ∀ {k s t : Nat}, k ≤ n → CylX R n v k s t → t = cylXF R n v k s
  | 0, s, t, _, h => h
  | k + 1, s, t, hk, ⟨m, h1, h2⟩ => by
    rw [cylXF, ← h1.eq hn hR (by omega)]; exact h2.eq hn hR (by omega)
theorem CylV.eq (hn : n ≤ 32) (hR : ∀ x ∈ R, x < 2 ^ n) : ∀ {k s t : Nat}, k ≤ n → CylV R n k s t → t = cylVF R n k s
  | 0, s, t, _, h => h
  | k + 1, s, t, hk, ⟨m, h1, h2⟩ => by
    rw [cylVF, ← h1.eq hn hR (by omega)]; exact h2.eq hn hR (Nat.le_refl _)
/-- How great it is. -/
def LenOk (n s : Nat) : Prop := s = 0 ∨ (3 ≤ s ∧ s ≤ n + 3)
theorem LenOk.step (hn : n ≤ 32) (hR : ∀ x ∈ R, x < 2 ^ n) {v x y s : Nat} (hx : x < n) (h : LenOk n s) : LenOk n (stepF R n v x y s) := by
  unfold stepF
  split
  · exact h
  · split
    · have := (distF_spec hn hR hx y (restOf R n v x y)).2
      right; omega
    · exact h
theorem LenOk.y (hn : n ≤ 32) (hR : ∀ x ∈ R, x < 2 ^ n) {v x s : Nat} (hx : x < n) (h : LenOk n s) : ∀ k, LenOk n (cylYF R n v x k s)
  | 0 => h
  | k + 1 => by rw [cylYF]; exact LenOk.step hn hR hx (LenOk.y hn hR hx h k)
theorem LenOk.x (hn : n ≤ 32) (hR : ∀ x ∈ R, x < 2 ^ n) {v s : Nat} (h : LenOk n s) : ∀ k, k ≤ n → LenOk n (cylXF R n v k s)
  | 0, _ => h
  | k + 1, hk => by rw [cylXF]; exact LenOk.y hn hR (by omega) (LenOk.x hn hR h k (by omega)) k
theorem LenOk.v (hn : n ≤ 32) (hR : ∀ x ∈ R, x < 2 ^ n) : ∀ k, k ≤ n → LenOk n (cylVF R n k 0)
  | 0, _ => .inl rfl
  | k + 1, hk => by rw [cylVF]; exact LenOk.x hn hR (LenOk.v hn hR k (by omega)) n (Nat.le_refl _)
theorem cylF_ok (hn : n ≤ 32) (hR : ∀ x ∈ R, x < 2 ^ n) : LenOk n (cylF R n) := LenOk.v hn hR n (Nat.le_refl _)
end
/-- The rows of a graph's neighbours. -/
theorem adjRow_lt {n : Nat} {es : List Nat} (hes : ∀ e ∈ es, e < 2 ^ n) : ∀ x ∈ (List.range 32).map (fun v => if v < n then adj es v else 0), x < 2 ^ n := by
  intro x hx
  rw [List.mem_map] at hx
  obtain ⟨v, _, rfl⟩ := hx
  split
  · have : ∀ (l : List Nat) (a : Nat), (∀ e ∈ l, e < 2 ^ n) → a < 2 ^ n → l.foldl (fun a e => if e.testBit v then a ||| andn e (2 ^ v) else a) a < 2 ^ n := by
      intro l
      induction l with
      | nil => intro a _ h; exact h
      | cons e l ih =>
        intro a hl ha
        rw [List.foldl_cons]
        refine ih _ (fun x hx => hl x (by simp [hx])) ?_
        split
        · exact Nat.or_lt_two_pow ha (Nat.lt_of_le_of_lt Nat.and_le_left (hl e (by simp)))
        · exact ha
    exact this es 0 hes (pow2_pos n)
  · exact pow2_pos n
end Go.Proofs.YtjofdlafblpclaaDoor
namespace Go.Proofs.YtjofdlafblpclaaDoor

def lastN (p : List Nat) : Nat := nth p (p.length - 1)
/-- The vertices above s. -/
def aboveN (s : Nat) : Nat := 4294967295 - (2 ^ (s + 1) - 1)
/-- What is blocked behind the last vertex of a path. -/
def afterF (R : List Nat) (p : List Nat) (bl : Nat) : Nat := (bl ||| nth R (lastN p)) ||| 2 ^ lastN p
/-- The vertices that may follow. -/
def candF (R : List Nat) (p : List Nat) (bl : Nat) : Nat := andn (nth R (lastN p) &&& aboveN (nth p 0)) bl
/-- Where the rest of the cycle may lie. -/
def allowF (R : List Nat) (p : List Nat) (bl v : Nat) : Nat := andn (aboveN (nth p 0)) (afterF R p bl) ||| 2 ^ v ||| 2 ^ nth p 0
def okF (R : List Nat) (n L : Nat) (p : List Nat) (bl v : Nat) : Bool :=
  (candF R p bl).testBit v && decide (distF R n v (nth p 0) (allowF R p bl v) = L - p.length)
/-- The first cycle of length L that begins with p ([]: none), when f vertices lack. -/
def extF (R : List Nat) (n L : Nat) : Nat → List Nat → Nat → List Nat
  | 0, p, _ => p
  | f + 1, p, bl => match (List.range n).find? (okF R n L p bl) with
    | some v => extF R n L f (p ++ [v]) (afterF R p bl)
    | none => []
/-- The first that is not empty. -/
def firstNE : List (List Nat) → List Nat
  | [] => []
  | x :: r => if x = [] then firstNE r else x
def scT (R : List Nat) (n L s t : Nat) : List Nat := if decide (s < t) && (nth R s).testBit t then extF R n L (L - 2) [s, t] 0 else []
def scRow (R : List Nat) (n L s : Nat) : List Nat := firstNE ((List.range n).map (scT R n L s))
def scF (R : List Nat) (n : Nat) : List Nat := if cylF R n = 0 then [] else firstNE ((List.range n).map (scRow R n (cylF R n)))
theorem firstNE_at {g : Nat → List Nat} {k : Nat} : ∀ {n : Nat}, (∀ j, j < k → g j = []) → g k ≠ [] → k < n → firstNE ((List.range n).map g) = g k := by
  intro n h1 h2 h3
  have : ∀ (l : List Nat) (m : Nat), l = List.range' m (n - m) → m ≤ k → firstNE (l.map g) = g k := by
    intro l
    induction l with
    | nil =>
      intro m hl hm
      have := congrArg List.length hl
      simp at this; omega
    | cons x l ih =>
      intro m hl hm
      rw [range'_step (by omega)] at hl
      injection hl with hx hl
      subst hx
      rw [List.map_cons, firstNE]
      by_cases hk : x = k
      · subst hk; rw [if_neg h2]
      · rw [if_pos (h1 x (by omega))]; exact ih (x + 1) hl (by omega)
  exact this _ 0 (by rw [Nat.sub_zero, ← List.range_eq_range']) (Nat.zero_le _)
theorem firstNE_none {g : Nat → List Nat} {n : Nat} (h : ∀ j, j < n → g j = []) : firstNE ((List.range n).map g) = [] := by
  have : ∀ l : List Nat, (∀ x ∈ l, x < n) → firstNE (l.map g) = [] := by
    intro l
    induction l with
    | nil => intro _; rfl
    | cons x l ih =>
      intro hl
      rw [List.map_cons, firstNE, if_pos (h x (hl x (by simp)))]
      exact ih fun y hy => hl y (by simp [hy])
  exact this _ (by simp)
theorem find_at {p : Nat → Bool} {n k : Nat} (h1 : ∀ j, j < k → p j = false) (h2 : p k = true) (h3 : k < n) : (List.range n).find? p = some k := by
  rw [List.find?_eq_some_iff_append]
  refine ⟨h2, List.range k, List.range' (k + 1) (n - (k + 1)), ?_, fun a ha => by simp at ha; simp [h1 a ha]⟩
  rw [List.range_eq_range', List.range_eq_range']
  have e : List.range' 0 n = List.range' 0 k ++ List.range' k (n - k) := by
    have := @List.range'_append 0 k (n - k) 1
    simp only [Nat.one_mul, Nat.zero_add] at this
    rw [this]; congr 1; omega
  rw [e, range'_step h3]
theorem find_none {p : Nat → Bool} {n : Nat} (h : ∀ j, j < n → p j = false) : (List.range n).find? p = none := by
  rw [List.find?_eq_none]; intro x hx; simp at hx; simp [h x hx]
/-- A path of ints. -/
def ints (p : List Nat) : List Int := p.map fun (x : Nat) => (x : Int)
theorem ints_length (p : List Nat) : (ints p).length = p.length := by simp [ints]
theorem inth_ints {p : List Nat} {k : Nat} (h : k < p.length) : inth (ints p) k = (nth p k : Int) := by
  rw [inth_eq (by rw [ints_length]; exact h), nth_eq h]; simp [ints]
theorem ints_snoc (p : List Nat) (v : Nat) : ints (p ++ [v]) = ints p ++ [(v : Int)] := by simp [ints]
theorem aboveN_lt (s : Nat) : aboveN s < 4294967296 := by unfold aboveN; omega
end Go.Proofs.YtjofdlafblpclaaDoor
namespace Go.Proofs.YtjofdlafblpclaaDoor
open Go.RowKit Go.Shelf
set_option linter.unusedSimpArgs false
set_option linter.unusedVariables false

/-- The table of the library. -/
def tabTZ : List Nat := [0, 1, 28, 2, 29, 14, 24, 3, 30, 22, 20, 15, 25, 17, 4, 8, 31, 27, 13, 23, 21, 19, 16, 7, 26, 12, 18, 6, 11, 5, 10, 9]
/-- The package variable holds it. -/
def GTab (w : World) : Prop := 0 < w.heap.size ∧ ∀ k, k < 32 → w.cell? ⟨0, k, none⟩ = some (.int .u8 (nth tabTZ k : Int))
theorem GTab.below {w w' : World} {B : Nat} (h : GTab w) (hb : Below B w w') (hB : 0 < B) : GTab w' := ⟨Nat.lt_of_lt_of_le h.1 hb.size, fun k hk => (hb.cell (p := ⟨0, k, none⟩) hB).trans (h.2 k hk)⟩
theorem GTab.new {w w' : World} (h : GTab w) (hb : Below w.heap.size w w') : GTab w' := h.below hb h.1
theorem tab_ok : ∀ t, t < 32 → (125613361 * 2 ^ t % 4294967296) / 134217728 < 32 ∧ nth tabTZ ((125613361 * 2 ^ t % 4294967296) / 134217728) = t := by decide
/-- The least bit. -/
theorem low_bit9 {x t : Nat} (hx : x < 2 ^ 32) (ht : t < 32) (h1 : x.testBit t = true) (h0 : ∀ j, j < t → x.testBit j = false) : x &&& (4294967296 - x) = 2 ^ t := by
  have hm : x % 2 ^ (t + 1) = 2 ^ t := by
    apply Nat.eq_of_testBit_eq
    intro i
    rw [Nat.testBit_mod_two_pow, Nat.testBit_two_pow]
    by_cases h : t = i
    · subst h; simp [h1]
    · by_cases h2 : i < t
      · simp [h, h0 i h2]
      · have : ¬ i < t + 1 := by omega
        simp [h, this]
  have hd := Nat.div_add_mod x (2 ^ (t + 1))
  rw [hm] at hd
  generalize x / 2 ^ (t + 1) = m at hd
  have hp := pow2_pos t
  have hx1 : x - 1 = 2 ^ (t + 1) * m + (2 ^ t - 1) := by omega
  have hxp : 0 < x := by omega
  have hlt : 2 ^ t < 2 ^ (t + 1) := Nat.pow_lt_pow_right (by decide) (by omega)
  apply Nat.eq_of_testBit_eq
  intro i
  rw [Nat.testBit_and, show 4294967296 - x = 2 ^ 32 - ((x - 1) + 1) by omega, Nat.testBit_two_pow_sub_succ (by omega), Nat.testBit_two_pow]
  rw [hx1, ← hd, Nat.testBit_two_pow_mul_add _ hlt, Nat.testBit_two_pow_mul_add _ (by omega)]
  by_cases hi : i < t + 1
  · rw [if_pos hi, if_pos hi, Nat.testBit_two_pow, Nat.testBit_two_pow_sub_one]
    by_cases h : t = i
    · subst h; simp; omega
    · have : i < t := by omega
      simp [h]
  · rw [if_neg hi, if_neg hi]
    have : t ≠ i := by omega
    cases m.testBit (i - (t + 1)) <;> simp [this]
theorem ek_lem (y : Nat) : (y : Int) * 125613361 % 4294967296 / 134217728 = ((125613361 * y % 4294967296 / 134217728 : Nat) : Int) := by
  rw [Int.natCast_ediv, Int.natCast_emod, Int.natCast_mul, Int.mul_comm]; rfl
set_option maxRecDepth 100000 in
set_option maxHeartbeats 1000000 in
theorem tz_any (x t : Nat) (w : World) (hG : GTab w) (hx : x < 4294967296) (ht : t < 32) (h1 : x.testBit t = true) (h0 : ∀ j, j < t → x.testBit j = false) :
    Calls Tryd.prog 52 #[.int .u32 x] w fun e w' => e = .returned (.int .i64 t) ∧ w = w' := by
  have hxn : x ≠ 0 := by intro e; rw [e] at h1; simp at h1
  have tn : ((x : Int) == 0) = false := by simp [hxn]
  have HLB := Lib.hid (low_bit9 hx ht h1 h0)
  obtain ⟨hk, htab⟩ := tab_ok t ht
  have hcell := hG.2 _ hk
  rw [htab] at hcell
  obtain ⟨y, hy⟩ : ∃ y, y = 2 ^ t := ⟨_, rfl⟩
  rw [← hy] at hk hcell
  obtain ⟨k, hkk⟩ : ∃ k, k = (125613361 * y % 4294967296) / 134217728 := ⟨_, rfl⟩
  rw [← hkk] at hk hcell
  have ek : (y : Int) * 125613361 % 4294967296 / 134217728 = (k : Int) := by rw [hkk]; exact ek_lem y
  have en : (-(x : Int) % 4294967296) = ((4294967296 - x : Nat) : Int) := by omega
  have eb : bits .and .u32 (x : Int) (-(x : Int) % 4294967296) = (y : Int) := by
    rw [en, bits_and x (4294967296 - x) hx (by omega), HLB.out, hy]
  have hgz := hG.1
  have i1 : (0 : Int) ≤ (k : Int) := by omega
  have i2 : (k : Int) < 32 := by omega
  have hb8 : (t : Int) < 128 := by omega
  clear h1 h0 htab hkk hy en
  go_enter Tryd.func52, Tryd.ntmps52
  go_wp2_with fail
  go_ret
  exact ⟨rfl, rfl⟩
end Go.Proofs.YtjofdlafblpclaaDoor
namespace Go.Proofs.YtjofdlafblpclaaDoor
open Go.ChangeShapes Go.WideShapes Go.ChangeAt Go.RowKit Go.Joins

theorem tab_data : (tabTZ.map fun n : Nat => (DataW.lit (.int .u8 (n : Int)) : DataW Unit)) = match (Rows.laid_math_bits_deBruijn32tab : DataW Unit) with | .agg l => l | _ => [] := by kernel_rfl
theorem gtab_of_laid {W : World} (h : laidMetH Tryd.prog [("math/bits.deBruijn32tab", Rows.laid_math_bits_deBruijn32tab)] W) : GTab W := by
  rw [MakeChecks.laidMetH_plain _ _ _ (by kernel_rfl)] at h
  obtain ⟨ps, ⟨g, t, cs, fuel, p, q, hg, ht, hv, hd, _, _⟩, _, _⟩ := h
  obtain rfl := Option.some.inj ((show Tryd.prog.globalNamed "math/bits.deBruijn32tab" = some 0 by kernel_rfl).symm.trans hg)
  obtain rfl := Option.some.inj ((show (Tryd.prog.globals[0]?).map (·.type) = some 90 by kernel_rfl).symm.trans ht)
  obtain ⟨xs, m, _, ex, _, hl, hel⟩ := DataW.trod_array Tryd.underlying90 hd
  have c5 : Tryd.prog.cellsOf 5 = 1 := by kernel_rfl
  have key : ∀ r, r < 32 → W.cell? ⟨0, r, none⟩ = some (.int .u8 (nth tabTZ r : Int)) := by
    intro r hr
    have hE := hel r hr
    rw [c5, Nat.mul_one, List.getElem?_eq_getElem (by omega)] at hE
    obtain ⟨z, e1, e2, _⟩ := DataW.trod_int Tryd.underlying5 hE
    have hlen : tabTZ.length = 32 := rfl
    have e3 : (xs.map (·.1)) = tabTZ.map fun n : Nat => .lit (.int .u8 (n : Int)) := by
      rw [tab_data]
      exact (DataW.agg.inj (Prod.mk.inj ex).1).symm
    have e4 : (xs.map (·.1))[r]? = (tabTZ.map fun n : Nat => (DataW.lit (.int .u8 (n : Int)) : DataW Unit))[r]? := by rw [e3]
    rw [List.getElem?_map, List.getElem?_map, List.getElem?_eq_getElem (by omega : r < xs.length), List.getElem?_eq_getElem (by omega : r < tabTZ.length), e2] at e4
    have hz : z = (nth tabTZ r : Int) := by
      simp only [Option.map_some, Option.some.injEq, DataW.lit.injEq, Lit.int.injEq, true_and] at e4
      rw [e4, nth, List.getD, List.getElem?_eq_getElem (by omega : r < tabTZ.length)]; rfl
    rw [World.var?_cell hg hv r, ← hz]
    have : cs.toList[r]? = some (.int .u8 z) := by
      have h0 : ((cs.toList.drop r).take 1)[0]? = some (.int .u8 z) := by rw [e1]; rfl
      simpa using h0
    simpa using this
  refine ⟨?_, key⟩
  have h0 := key 0 (by omega)
  exact block_lt_of_cell h0
end Go.Proofs.YtjofdlafblpclaaDoor
namespace Go.Proofs.YtjofdlafblpclaaDoor

def subB (a b : Nat) : Bool := a &&& b == a
theorem subB_iff {a b : Nat} : subB a b = true ↔ sub a b := by
  unfold subB sub
  rw [beq_iff_eq]
  constructor
  · intro h v hv
    have : (a &&& b).testBit v = true := by rw [h]; exact hv
    rw [Nat.testBit_and, Bool.and_eq_true] at this
    exact this.2
  · intro h
    apply Nat.eq_of_testBit_eq
    intro v
    rw [Nat.testBit_and]
    cases hv : a.testBit v with
    | false => rfl
    | true => rw [h v hv]; rfl
def covB (es : List Nat) (S : Nat) : Bool := es.any fun e => subB S e
theorem covB_iff {es : List Nat} {S : Nat} : covB es S = true ↔ Cov es S := by
  unfold covB Cov
  rw [List.any_eq_true]
  constructor
  · rintro ⟨e, h1, h2⟩; exact ⟨e, h1, subB_iff.1 h2⟩
  · rintro ⟨e, h1, h2⟩; exact ⟨e, h1, subB_iff.2 h2⟩
def clqB (n : Nat) (es : List Nat) (S : Nat) : Bool := (List.range n).all fun a => (List.range n).all fun b => !S.testBit a || !S.testBit b || a == b || (adj es a).testBit b
theorem clqB_iff {n : Nat} {es : List Nat} {S : Nat} (hS : S < 2 ^ n) : clqB n es S = true ↔ Clq es S := by
  unfold clqB Clq
  simp only [List.all_eq_true, List.mem_range, Bool.or_eq_true, Bool.not_eq_true', beq_iff_eq]
  constructor
  · intro h a b ha hb hab
    rcases h a (testBit_lt hS ha) b (testBit_lt hS hb) with ((h1 | h1) | h1) | h1
    · rw [ha] at h1; cases h1
    · rw [hb] at h1; cases h1
    · exact absurd h1 hab
    · exact h1
  · intro h a _ b _
    cases ha : S.testBit a with
    | false => exact .inl (.inl (.inl rfl))
    | true =>
      cases hb : S.testBit b with
      | false => exact .inl (.inl (.inr rfl))
      | true =>
        by_cases hab : a = b
        · exact .inl (.inr hab)
        · exact .inr (h a b ha hb hab)
/-- Ext, reckoned. -/
def extB (n : Nat) (es : List Nat) (c r k : Nat) : Bool := (List.range (2 ^ n)).any fun S => subB S r && (clqB n es S && (decide (bitsOf n S ≤ k) && !covB es (c ||| S)))
theorem extB_iff {n : Nat} {es : List Nat} {c r k : Nat} (hr : r < 2 ^ n) : extB n es c r k = true ↔ Ext n es c r k := by
  unfold extB Ext
  rw [List.any_eq_true]
  constructor
  · rintro ⟨S, h1, h2⟩
    simp only [List.mem_range] at h1
    simp only [Bool.and_eq_true, decide_eq_true_eq, Bool.not_eq_true'] at h2
    exact ⟨S, subB_iff.1 h2.1, (clqB_iff h1).1 h2.2.1, h2.2.2.1, fun h => by rw [covB_iff.2 h] at h2; cases h2.2.2.2⟩
  · rintro ⟨S, h1, h2, h3, h4⟩
    have hS := sub_lt h1 hr
    refine ⟨S, by simpa using hS, ?_⟩
    simp only [Bool.and_eq_true, decide_eq_true_eq, Bool.not_eq_true']
    refine ⟨subB_iff.2 h1, (clqB_iff hS).2 h2, h3, ?_⟩
    cases h : covB es (c ||| S) with
    | false => rfl
    | true => exact absurd (covB_iff.1 h) h4
/-- All vertices that occur. -/
def linkOf (es : List Nat) : Nat := es.foldl (fun a e => a ||| e) 0
theorem linkOf_snoc (l : List Nat) (e : Nat) : linkOf (l ++ [e]) = linkOf l ||| e := by simp [linkOf]
theorem linkOf_take {es : List Nat} {k : Nat} (h : k < es.length) : linkOf (es.take (k + 1)) = linkOf (es.take k) ||| nth es k := by
  rw [List.take_succ_eq_append_getElem h, linkOf_snoc, nth_eq h]
theorem linkOf_lt {n : Nat} {es : List Nat} (h : ∀ e ∈ es, e < 2 ^ n) : linkOf es < 2 ^ n := by
  have : ∀ (l : List Nat) (a : Nat), (∀ e ∈ l, e < 2 ^ n) → a < 2 ^ n → l.foldl (fun a e => a ||| e) a < 2 ^ n := by
    intro l
    induction l with
    | nil => intro a _ h; exact h
    | cons e l ih =>
      intro a hl ha
      rw [List.foldl_cons]
      exact ih _ (fun x hx => hl x (by simp [hx])) (Nat.or_lt_two_pow ha (hl e (by simp)))
  exact this es 0 h (pow2_pos n)
theorem testBit_linkOf (es : List Nat) (v : Nat) : (linkOf es).testBit v = es.any fun e => e.testBit v := by
  have : ∀ (l : List Nat) (a : Nat), (l.foldl (fun a e => a ||| e) a).testBit v = (a.testBit v || l.any fun e => e.testBit v) := by
    intro l
    induction l with
    | nil => intro a; simp
    | cons e l ih => intro a; rw [List.foldl_cons, ih, Nat.testBit_or, List.any_cons, Bool.or_assoc]
  rw [linkOf, this]; simp
/-- The list so far, its set, and what is left, behind the vertices below k. -/
def grdy (n : Nat) (es : List Nat) (len : Nat) : Nat → List Nat × Nat × Nat
  | 0 => ([], 0, linkOf es)
  | k + 1 =>
    if (grdy n es len k).2.2.testBit k = true then
      if (decide ((grdy n es len k).1.length < len) && extB n es ((grdy n es len k).2.1 ||| 2 ^ k) (andn (grdy n es len k).2.2 (2 ^ k) &&& adj es k) (len - (grdy n es len k).1.length - 1)) = true then
        ((grdy n es len k).1 ++ [k], (grdy n es len k).2.1 ||| 2 ^ k, andn (grdy n es len k).2.2 (2 ^ k) &&& adj es k)
      else ((grdy n es len k).1, (grdy n es len k).2.1, andn (grdy n es len k).2.2 (2 ^ k))
    else grdy n es len k
def clLen (n : Nat) (es : List Nat) (most : Nat) : Option Nat := (List.range (most + 1)).find? fun m => decide (3 ≤ m) && extB n es 0 (linkOf es) m
def clF (n : Nat) (es : List Nat) (most : Nat) : List Nat :=
  if linkOf es = 0 then [] else match clLen n es most with
    | some m => (grdy n es m n).1
    | none => []
theorem pre_zero {n : Nat} {es : List Nat} (h : ∀ e ∈ es, e < 2 ^ n) : Pre n es 0 (linkOf es) := ⟨pow2_pos n, linkOf_lt h, fun u w _ hw => by simp at hw⟩
theorem Pre.drop {n : Nat} {es : List Nat} {c r r' : Nat} (h : Pre n es c r) (hs : sub r' r) : Pre n es c r' := ⟨h.cl, sub_lt hs h.rl, fun u w hu hw => h.ad u w (hs u hu) hw⟩
theorem grdy_pre {n : Nat} (hn : n ≤ 32) {es : List Nat} (h : ∀ e ∈ es, e < 2 ^ n) (len : Nat) : ∀ k, k ≤ n → Pre n es (grdy n es len k).2.1 (grdy n es len k).2.2 ∧ (grdy n es len k).1.length ≤ k
  | 0, _ => ⟨pre_zero h, Nat.le_refl _⟩
  | k + 1, hk => by
    obtain ⟨h1, h2⟩ := grdy_pre hn h len k (by omega)
    rw [grdy]
    have r32 : (grdy n es len k).2.2 < 2 ^ 32 := Nat.lt_of_lt_of_le h1.rl (two_pow_le hn)
    split
    · rename_i hb
      split
      · exact ⟨h1.take hn (fun u hu => hu) hb, by simp; omega⟩
      · exact ⟨h1.drop fun u hu => ((drop_bit r32 (by omega) u).1 hu).1, by simp; omega⟩
    · exact ⟨h1, by omega⟩
end Go.Proofs.YtjofdlafblpclaaDoor
namespace Go.Proofs.YtjofdlafblpclaaDoor

theorem extF_length (R : List Nat) (n L : Nat) : ∀ (f : Nat) (p : List Nat) (bl : Nat), (extF R n L f p bl).length = p.length + f ∨ extF R n L f p bl = []
  | 0, p, bl => .inl rfl
  | f + 1, p, bl => by
    rw [extF]
    split
    · rename_i v _
      rcases extF_length R n L f (p ++ [v]) (afterF R p bl) with h | h
      · left; rw [h]; simp; omega
      · exact .inr h
    · exact .inr rfl
theorem firstNE_all {P : List Nat → Prop} : ∀ (l : List (List Nat)), (∀ x ∈ l, P x ∨ x = []) → P (firstNE l) ∨ firstNE l = []
  | [], _ => .inr rfl
  | x :: r, h => by
    rw [firstNE]
    split
    · exact firstNE_all r fun y hy => h y (by simp [hy])
    · rename_i hx
      exact .inl ((h x (by simp)).resolve_right hx)
theorem scF_length {R : List Nat} {n : Nat} (hn : n ≤ 32) (hR : ∀ x ∈ R, x < 2 ^ n) : (scF R n).length ≤ 35 := by
  unfold scF
  split
  · simp
  · rename_i h0
    have hL := (cylF_ok hn hR).resolve_left h0
    have h1 : ∀ s t, (scT R n (cylF R n) s t).length = cylF R n ∨ scT R n (cylF R n) s t = [] := by
      intro s t
      unfold scT
      split
      · rcases extF_length R n (cylF R n) (cylF R n - 2) [s, t] 0 with h | h
        · left; rw [h]; simp; omega
        · exact .inr h
      · exact .inr rfl
    have h2 : ∀ s, (scRow R n (cylF R n) s).length = cylF R n ∨ scRow R n (cylF R n) s = [] := fun s =>
      firstNE_all (P := fun l => l.length = cylF R n) _ fun x hx => by
        rw [List.mem_map] at hx
        obtain ⟨t, _, rfl⟩ := hx
        exact h1 s t
    rcases firstNE_all (P := fun l => l.length = cylF R n) ((List.range n).map (scRow R n (cylF R n))) (fun x hx => by
        rw [List.mem_map] at hx
        obtain ⟨s, _, rfl⟩ := hx
        exact h2 s) with h | h
    · rw [h]; omega
    · rw [h]; simp
theorem extF_mem (R : List Nat) (n L : Nat) : ∀ (f : Nat) (p : List Nat) (bl : Nat), (∀ x ∈ p, x < n) → ∀ x ∈ extF R n L f p bl, x < n
  | 0, p, bl, h => h
  | f + 1, p, bl, h => by
    rw [extF]
    split
    · rename_i v hv
      refine extF_mem R n L f (p ++ [v]) (afterF R p bl) fun x hx => ?_
      rw [List.mem_append, List.mem_singleton] at hx
      rcases hx with h1 | rfl
      · exact h x h1
      · have := List.mem_of_find?_eq_some hv
        simpa using this
    · intro x hx; cases hx
theorem firstNE_forall {P : List Nat → Prop} (h0 : P []) : ∀ (l : List (List Nat)), (∀ x ∈ l, P x) → P (firstNE l)
  | [], _ => h0
  | x :: r, h => by
    rw [firstNE]
    split
    · exact firstNE_forall h0 r fun y hy => h y (by simp [hy])
    · exact h x (by simp)
theorem scF_mem {R : List Nat} {n : Nat} : ∀ x ∈ scF R n, x < n := by
  unfold scF
  split
  · intro x hx; cases hx
  · refine firstNE_forall (P := fun l => ∀ x ∈ l, x < n) (fun x hx => by cases hx) _ fun l hl => ?_
    rw [List.mem_map] at hl
    obtain ⟨s, hs, rfl⟩ := hl
    refine firstNE_forall (P := fun l => ∀ x ∈ l, x < n) (fun x hx => by cases hx) _ fun l hl => ?_
    rw [List.mem_map] at hl
    obtain ⟨t, ht, rfl⟩ := hl
    unfold scT
    split
    · exact extF_mem _ _ _ _ _ _ fun x hx => by simp at hx hs ht; omega
    · intro x hx; cases hx
theorem grdy_mem (n : Nat) (es : List Nat) (len : Nat) : ∀ k, k ≤ n → ∀ x ∈ (grdy n es len k).1, x < n
  | 0, _ => fun x hx => by cases hx
  | k + 1, hk => by
    have ih := grdy_mem n es len k (by omega)
    rw [grdy]
    split
    · split
      · intro x hx
        simp only [List.mem_append, List.mem_singleton] at hx
        rcases hx with h | rfl
        · exact ih x h
        · omega
      · exact ih
    · exact ih
theorem clF_mem {n : Nat} {es : List Nat} {most : Nat} : ∀ x ∈ clF n es most, x < n := by
  unfold clF
  split
  · intro x hx; cases hx
  · split
    · exact grdy_mem n es _ n (Nat.le_refl _)
    · intro x hx; cases hx
/-- How two lists of numbers compare. -/
def lexLt : List Nat → List Nat → Bool
  | [], [] => false
  | [], _ :: _ => true
  | _ :: _, [] => false
  | x :: xs, y :: ys => if x < y then true else if y < x then false else lexLt xs ys
/-- hypergraph.Obstruction. -/
def pickF (cyc cl : List Nat) : List Nat × Bool :=
  if cl = [] then (cyc, decide (0 < cyc.length))
  else if cyc = [] then (cl, true)
  else if cl.length < cyc.length then (cl, true)
  else if lexLt cl cyc = true then (cl, true) else (cyc, true)
def mostF (n : Nat) (cyc : List Nat) : Nat := if cyc = [] then n else cyc.length
def obsF (R : List Nat) (n : Nat) (es : List Nat) : List Nat × Bool := pickF (scF R n) (clF n es (mostF n (scF R n)))
end Go.Proofs.YtjofdlafblpclaaDoor
