/-
  Plain: hypergraph.smallestClique as a function.
-/
import Derived.Test.YtjofdlafblpclaaDoorObsP
namespace Go.Proofs.YtjofdlafblpclaaDoor

def subB (a b : Nat) : Bool := a &&& b == a
theorem subB_iff {a b : Nat} : subB a b = true ↔ sub a b := by
  unfold subB sub
  rw [beq_iff_eq]
  constructor
  · intro h v hv
    have : (a &&& b).testBit v = true := by rw [h]; exact hv
    rw [Nat.testBit_and, Bool.and_eq_true] at this
    exact this.2
  · intro h
    apply Nat.eq_of_testBit_eq
    intro v
    rw [Nat.testBit_and]
    cases hv : a.testBit v with
    | false => rfl
    | true => rw [h v hv]; rfl
def covB (es : List Nat) (S : Nat) : Bool := es.any fun e => subB S e
theorem covB_iff {es : List Nat} {S : Nat} : covB es S = true ↔ Cov es S := by
  unfold covB Cov
  rw [List.any_eq_true]
  constructor
  · rintro ⟨e, h1, h2⟩; exact ⟨e, h1, subB_iff.1 h2⟩
  · rintro ⟨e, h1, h2⟩; exact ⟨e, h1, subB_iff.2 h2⟩
def clqB (n : Nat) (es : List Nat) (S : Nat) : Bool := (List.range n).all fun a => (List.range n).all fun b => !S.testBit a || !S.testBit b || a == b || (adj es a).testBit b
theorem clqB_iff {n : Nat} {es : List Nat} {S : Nat} (hS : S < 2 ^ n) : clqB n es S = true ↔ Clq es S := by
  unfold clqB Clq
  simp only [List.all_eq_true, List.mem_range, Bool.or_eq_true, Bool.not_eq_true', beq_iff_eq]
  constructor
  · intro h a b ha hb hab
    rcases h a (testBit_lt hS ha) b (testBit_lt hS hb) with ((h1 | h1) | h1) | h1
    · rw [ha] at h1; cases h1
    · rw [hb] at h1; cases h1
    · exact absurd h1 hab
    · exact h1
  · intro h a _ b _
    cases ha : S.testBit a with
    | false => exact .inl (.inl (.inl rfl))
    | true =>
      cases hb : S.testBit b with
      | false => exact .inl (.inl (.inr rfl))
      | true =>
        by_cases hab : a = b
        · exact .inl (.inr hab)
        · exact .inr (h a b ha hb hab)
/-- Ext, reckoned. -/
def extB (n : Nat) (es : List Nat) (c r k : Nat) : Bool := (List.range (2 ^ n)).any fun S => subB S r && (clqB n es S && (decide (bitsOf n S ≤ k) && !covB es (c ||| S)))
theorem extB_iff {n : Nat} {es : List Nat} {c r k : Nat} (hr : r < 2 ^ n) : extB n es c r k = true ↔ Ext n es c r k := by
  unfold extB Ext
  rw [List.any_eq_true]
  constructor
  · rintro ⟨S, h1, h2⟩
    simp only [List.mem_range] at h1
    simp only [Bool.and_eq_true, decide_eq_true_eq, Bool.not_eq_true'] at h2
    exact ⟨S, subB_iff.1 h2.1, (clqB_iff h1).1 h2.2.1, h2.2.2.1, fun h => by rw [covB_iff.2 h] at h2; cases h2.2.2.2⟩
  · rintro ⟨S, h1, h2, h3, h4⟩
    have hS := sub_lt h1 hr
    refine ⟨S, by simpa using hS, ?_⟩
    simp only [Bool.and_eq_true, decide_eq_true_eq, Bool.not_eq_true']
    refine ⟨subB_iff.2 h1, (clqB_iff hS).2 h2, h3, ?_⟩
    cases h : covB es (c ||| S) with
    | false => rfl
    | true => exact absurd (covB_iff.1 h) h4
/-- All vertices that occur. -/
def linkOf (es : List Nat) : Nat := es.foldl (fun a e => a ||| e) 0
theorem linkOf_snoc (l : List Nat) (e : Nat) : linkOf (l ++ [e]) = linkOf l ||| e := by simp [linkOf]
theorem linkOf_take {es : List Nat} {k : Nat} (h : k < es.length) : linkOf (es.take (k + 1)) = linkOf (es.take k) ||| nth es k := by
  rw [List.take_succ_eq_append_getElem h, linkOf_snoc, nth_eq h]
theorem linkOf_lt {n : Nat} {es : List Nat} (h : ∀ e ∈ es, e < 2 ^ n) : linkOf es < 2 ^ n := by
  have : ∀ (l : List Nat) (a : Nat), (∀ e ∈ l, e < 2 ^ n) → a < 2 ^ n → l.foldl (fun a e => a ||| e) a < 2 ^ n := by
    intro l
    induction l with
    | nil => intro a _ h; exact h
    | cons e l ih =>
      intro a hl ha
      rw [List.foldl_cons]
      exact ih _ (fun x hx => hl x (by simp [hx])) (Nat.or_lt_two_pow ha (hl e (by simp)))
  exact this es 0 h (pow2_pos n)
theorem testBit_linkOf (es : List Nat) (v : Nat) : (linkOf es).testBit v = es.any fun e => e.testBit v := by
  have : ∀ (l : List Nat) (a : Nat), (l.foldl (fun a e => a ||| e) a).testBit v = (a.testBit v || l.any fun e => e.testBit v) := by
    intro l
    induction l with
    | nil => intro a; simp
    | cons e l ih => intro a; rw [List.foldl_cons, ih, Nat.testBit_or, List.any_cons, Bool.or_assoc]
  rw [linkOf, this]; simp
/-- The list so far, its set, and what is left, behind the vertices below k. -/
def grdy (n : Nat) (es : List Nat) (len : Nat) : Nat → List Nat × Nat × Nat
  | 0 => ([], 0, linkOf es)
  | k + 1 =>
    if (grdy n es len k).2.2.testBit k = true then
      if (decide ((grdy n es len k).1.length < len) && extB n es ((grdy n es len k).2.1 ||| 2 ^ k) (andn (grdy n es len k).2.2 (2 ^ k) &&& adj es k) (len - (grdy n es len k).1.length - 1)) = true then
        ((grdy n es len k).1 ++ [k], (grdy n es len k).2.1 ||| 2 ^ k, andn (grdy n es len k).2.2 (2 ^ k) &&& adj es k)
      else ((grdy n es len k).1, (grdy n es len k).2.1, andn (grdy n es len k).2.2 (2 ^ k))
    else grdy n es len k
def clLen (n : Nat) (es : List Nat) (most : Nat) : Option Nat := (List.range (most + 1)).find? fun m => decide (3 ≤ m) && extB n es 0 (linkOf es) m
def clF (n : Nat) (es : List Nat) (most : Nat) : List Nat :=
  if linkOf es = 0 then [] else match clLen n es most with
    | some m => (grdy n es m n).1
    | none => []
theorem pre_zero {n : Nat} {es : List Nat} (h : ∀ e ∈ es, e < 2 ^ n) : Pre n es 0 (linkOf es) := ⟨pow2_pos n, linkOf_lt h, fun u w _ hw => by simp at hw⟩
theorem Pre.drop {n : Nat} {es : List Nat} {c r r' : Nat} (h : Pre n es c r) (hs : sub r' r) : Pre n es c r' := ⟨h.cl, sub_lt hs h.rl, fun u w hu hw => h.ad u w (hs u hu) hw⟩
theorem grdy_pre {n : Nat} (hn : n ≤ 32) {es : List Nat} (h : ∀ e ∈ es, e < 2 ^ n) (len : Nat) : ∀ k, k ≤ n → Pre n es (grdy n es len k).2.1 (grdy n es len k).2.2 ∧ (grdy n es len k).1.length ≤ k
  | 0, _ => ⟨pre_zero h, Nat.le_refl _⟩
  | k + 1, hk => by
    obtain ⟨h1, h2⟩ := grdy_pre hn h len k (by omega)
    rw [grdy]
    have r32 : (grdy n es len k).2.2 < 2 ^ 32 := Nat.lt_of_lt_of_le h1.rl (two_pow_le hn)
    split
    · rename_i hb
      split
      · exact ⟨h1.take hn (fun u hu => hu) hb, by simp; omega⟩
      · exact ⟨h1.drop fun u hu => ((drop_bit r32 (by omega) u).1 hu).1, by simp; omega⟩
    · exact ⟨h1, by omega⟩
end Go.Proofs.YtjofdlafblpclaaDoor
