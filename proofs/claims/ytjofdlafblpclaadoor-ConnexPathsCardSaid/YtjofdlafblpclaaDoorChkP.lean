/-
  Plain: hypergraph.CheckObstruction as a function.
-/
import Derived.Test.YtjofdlafblpclaaDoorIns
namespace Go.Proofs.YtjofdlafblpclaaDoor

theorem all_range_succ (f : Nat → Bool) (k : Nat) : (List.range (k + 1)).all f = ((List.range k).all f && f k) := by
  rw [List.range_succ, List.all_append]; simp
theorem any_range_succ (f : Nat → Bool) (k : Nat) : (List.range (k + 1)).any f = ((List.range k).any f || f k) := by
  rw [List.range_succ, List.any_append]; simp
def okAt (n : Nat) (l : List Int) (i : Nat) : Bool := decide (0 ≤ inth l i) && (decide (inth l i < n) && (List.range i).all fun j => inth l j != inth l i)
def okTo (n : Nat) (l : List Int) (k : Nat) : Bool := (List.range k).all (okAt n l)
def setTo (l : List Int) : Nat → Nat
  | 0 => 0
  | k + 1 => setTo l k ||| 2 ^ (inth l k).toNat
theorem setTo_lt {n : Nat} {l : List Int} : ∀ {k : Nat}, okTo n l k = true → setTo l k < 2 ^ n
  | 0, _ => pow2_pos n
  | k + 1, h => by
    rw [okTo, all_range_succ, Bool.and_eq_true] at h
    have h2 := h.2
    simp only [okAt, Bool.and_eq_true, decide_eq_true_eq] at h2
    rw [setTo]
    exact Nat.or_lt_two_pow (setTo_lt h.1) (Nat.pow_lt_pow_right (by omega) (by omega))
theorem setTo_bit {n : Nat} {l : List Int} : ∀ {k : Nat}, okTo n l k = true → ∀ {v : Int}, 0 ≤ v → (setTo l k).testBit v.toNat = (List.range k).any fun j => inth l j == v
  | 0, _, v, _ => by simp [setTo]
  | k + 1, h, v, hv => by
    rw [okTo, all_range_succ, Bool.and_eq_true] at h
    have h2 := h.2
    simp only [okAt, Bool.and_eq_true, decide_eq_true_eq] at h2
    rw [setTo, Nat.testBit_or, setTo_bit h.1 hv, any_range_succ, Nat.testBit_two_pow]
    congr 1
    rw [Bool.eq_iff_iff]
    simp
    omega
theorem okAt_iff {n : Nat} {l : List Int} {k : Nat} (h : okTo n l k = true) (h0 : 0 ≤ inth l k) (h1 : inth l k < n) : okAt n l k = !(setTo l k).testBit (inth l k).toNat := by
  rw [setTo_bit h h0, okAt, decide_eq_true h0, decide_eq_true h1, Bool.true_and, Bool.true_and, List.not_any_eq_all_not]
  simp [bne]
def linkL (R : List Nat) (l : List Int) (i j : Nat) : Bool := (nth R (inth l i).toNat).testBit (inth l j).toNat
def nearL (len i j : Nat) : Bool := decide (j + 1 = i) || (decide (j = 0) && decide (i + 1 = len))
def cliRow (R : List Nat) (l : List Int) (i m : Nat) : Bool := (List.range m).all fun j => linkL R l i j
def cliTo (R : List Nat) (l : List Int) (k : Nat) : Bool := decide (3 ≤ l.length) && (List.range k).all fun i => cliRow R l i i
def cycRow (R : List Nat) (l : List Int) (i m : Nat) : Bool := (List.range m).all fun j => linkL R l i j == nearL l.length i j
def cycTo (R : List Nat) (l : List Int) (k : Nat) : Bool := decide (4 ≤ l.length) && (List.range k).all fun i => cycRow R l i i
theorem cliTo_succ (R : List Nat) (l : List Int) (k : Nat) : cliTo R l (k + 1) = (cliTo R l k && cliRow R l k k) := by
  rw [cliTo, all_range_succ, ← Bool.and_assoc]; rfl
theorem cycTo_succ (R : List Nat) (l : List Int) (k : Nat) : cycTo R l (k + 1) = (cycTo R l k && cycRow R l k k) := by
  rw [cycTo, all_range_succ, ← Bool.and_assoc]; rfl
theorem cli_step {R : List Nat} {l : List Int} {i j : Nat} {cb lb : Bool} (h : cb = (cliTo R l i && cliRow R l i j)) (hl : lb = linkL R l i j) : (cb && lb) = (cliTo R l i && cliRow R l i (j + 1)) := by
  rw [h, hl, cliRow, cliRow, all_range_succ, Bool.and_assoc]
theorem cyc_step {R : List Nat} {l : List Int} {i j : Nat} {cb lb nb : Bool} (h : cb = (cycTo R l i && cycRow R l i j)) (hl : lb = linkL R l i j) (hn : nb = nearL l.length i j) : (cb && (lb == nb)) = (cycTo R l i && cycRow R l i (j + 1)) := by
  rw [h, hl, hn, cycRow, cycRow, all_range_succ, Bool.and_assoc]
theorem ok_nat {n : Nat} {l : List Int} {k : Nat} (h : okTo n l l.length = true) (hk : k < l.length) : ∃ y : Nat, inth l k = (y : Int) ∧ y < n := by
  rw [okTo, List.all_eq_true] at h
  have := h k (by simp [hk])
  simp only [okAt, Bool.and_eq_true, decide_eq_true_eq] at this
  obtain ⟨y, hy⟩ := Int.eq_ofNat_of_zero_le this.1
  exact ⟨y, hy, by omega⟩
/-- hypergraph.CheckObstruction of a correct graph. -/
def chkB (R : List Nat) (n : Nat) (es : List Nat) (l : List Int) : Bool :=
  okTo n l l.length && (if cliTo R l l.length = true then !es.any (holdsB (setTo l l.length)) else cycTo R l l.length)
end Go.Proofs.YtjofdlafblpclaaDoor
