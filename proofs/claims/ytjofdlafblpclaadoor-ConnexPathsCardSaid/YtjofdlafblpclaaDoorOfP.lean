/-
  Plain and memory: slices of slices of ints; hypergraph.Of as a function.
-/
import Derived.Test.YtjofdlafblpclaaDoorOwn
namespace Go.Proofs.YtjofdlafblpclaaDoor
open Go.RowKit

def rowAt (xss : List (List Int)) (r : Nat) : List Int := xss.getD r []
/-- A slice of slices of ints that reads as a list of lists. -/
def Xss (w : World) (B : Nat) (A : Option Addr) (len : Nat) (xss : List (List Int)) : Prop :=
  (len = xss.length ∧ len ≤ 9223372036854775807) ∧ ∀ r, r < len → ∃ ad Ar Lr Cr, A = some ad ∧ ad.block < B ∧ w.cell? (ad.add r) = some (.slice Ar Lr Cr) ∧ Xs w B Ar Lr (rowAt xss r)
theorem Xss.below {w w' : World} {B : Nat} {A : Option Addr} {len : Nat} {xss : List (List Int)} (h : Xss w B A len xss) (hb : Below B w w') : Xss w' B A len xss :=
  ⟨h.1, fun r hr => by
    obtain ⟨ad, Ar, Lr, Cr, e, hl, hc, hx⟩ := h.2 r hr
    exact ⟨ad, Ar, Lr, Cr, e, hl, by rw [hb.cell (by rw [block_of_add]; exact hl)]; exact hc, hx.below hb⟩⟩
theorem Xss.more {w : World} {B B' : Nat} {A : Option Addr} {len : Nat} {xss : List (List Int)} (h : Xss w B A len xss) (hB : B ≤ B') : Xss w B' A len xss :=
  ⟨h.1, fun r hr => by
    obtain ⟨ad, Ar, Lr, Cr, e, hl, hc, hx⟩ := h.2 r hr
    exact ⟨ad, Ar, Lr, Cr, e, by omega, hc, hx.more hB⟩⟩
theorem Xss.new {w w' : World} {A : Option Addr} {len : Nat} {xss : List (List Int)} (h : Xss w w.heap.size A len xss) (hb : Below w.heap.size w w') : Xss w' w'.heap.size A len xss := (h.below hb).more hb.size
/-- A vertex of a graph of n vertices. -/
def goodV (n v : Int) : Bool := decide (0 ≤ v) && (decide (v < n) && decide (v ≤ 31))
/-- The set of the good ones among the first k. -/
def rowL (n : Int) (l : List Int) : Nat → Nat
  | 0 => 0
  | k + 1 => if goodV n (inth l k) = true then rowL n l k ||| 2 ^ (inth l k).toNat else rowL n l k
theorem rowL_lt (n : Int) (l : List Int) : ∀ k, rowL n l k < 4294967296
  | 0 => by simp [rowL]
  | k + 1 => by
    rw [rowL]
    split
    · rename_i h
      simp only [goodV, Bool.and_eq_true, decide_eq_true_eq] at h
      exact Nat.or_lt_two_pow (n := 32) (rowL_lt n l k) (pow2_lt32 (by omega))
    · exact rowL_lt n l k
def allGood (n : Int) (xss : List (List Int)) : Bool := xss.all fun l => l.all (goodV n)
def ofEs (n : Int) (xss : List (List Int)) : List Nat := xss.map fun l => rowL n l l.length
/-- The error of hypergraph.Of. -/
def ofCode (n : Int) (xss : List (List Int)) : Int := if n < 0 ∨ 32 < n then 3 else if 64 < xss.length then 12 else if allGood n xss = true then 0 else 1
theorem ofEs_take {n : Int} {xss : List (List Int)} {r : Nat} (h : r < xss.length) : ofEs n (xss.take (r + 1)) = ofEs n (xss.take r) ++ [rowL n (rowAt xss r) (rowAt xss r).length] := by
  unfold ofEs
  rw [List.take_succ_eq_append_getElem h, List.map_append]
  simp [rowAt, List.getD, h]
theorem ofEs_length (n : Int) (xss : List (List Int)) : (ofEs n xss).length = xss.length := by simp [ofEs]
theorem ofEs_lt (n : Int) (xss : List (List Int)) : ∀ x ∈ ofEs n xss, x < 4294967296 := by
  intro x hx
  rw [ofEs, List.mem_map] at hx
  obtain ⟨l, _, rfl⟩ := hx
  exact rowL_lt _ _ _
theorem good_row {n : Int} {xss : List (List Int)} (h : ∀ r, r < xss.length → ∀ k, k < (rowAt xss r).length → goodV n (inth (rowAt xss r) k) = true) : allGood n xss = true := by
  rw [allGood, List.all_eq_true]
  intro l hl
  obtain ⟨r, hr, rfl⟩ := List.getElem_of_mem hl
  have h2 := h r hr
  have e : rowAt xss r = xss[r] := by simp [rowAt, List.getD, hr]
  rw [e] at h2
  rw [List.all_eq_true]
  intro v hv
  obtain ⟨k, hk, rfl⟩ := List.getElem_of_mem hv
  rw [← inth_eq hk]; exact h2 k hk
theorem bad_row {n : Int} {xss : List (List Int)} {r k : Nat} (hr : r < xss.length) (hk : k < (rowAt xss r).length) (h : goodV n (inth (rowAt xss r) k) = false) : allGood n xss = false := by
  rw [allGood, List.all_eq_false]
  have e : rowAt xss r = xss[r] := by simp [rowAt, List.getD, hr]
  rw [e] at hk h
  refine ⟨_, List.getElem_mem hr, ?_⟩
  rw [Bool.not_eq_true, List.all_eq_false]
  exact ⟨_, List.getElem_mem hk, by rw [← inth_eq hk, h]; simp⟩
end Go.Proofs.YtjofdlafblpclaaDoor
