/-
  Contract of slices.Compare at int.
-/
import Derived.Test.YtjofdlafblpclaaDoorRefI
import Derived.Test.YtjofdlafblpclaaDoorAcy
namespace Go.Proofs.YtjofdlafblpclaaDoor
open Go.RowKit

/-- How two numbers compare. -/
def cmpI (x y : Int) : Int := if x < y then -1 else if y < x then 1 else 0
end Go.Proofs.YtjofdlafblpclaaDoor
namespace Go.Proofs.YtjofdlafblpclaaDoor
open Go.RowKit

/-- How two lists compare. -/
def cmpL : List Int → List Int → Int
  | [], [] => 0
  | [], _ :: _ => -1
  | _ :: _, [] => 1
  | x :: xs, y :: ys => if x < y then -1 else if y < x then 1 else cmpL xs ys
theorem drop_inth {l : List Int} {k : Nat} (h : k < l.length) : l.drop k = inth l k :: l.drop (k + 1) := by
  rw [inth_eq h]; exact List.drop_eq_getElem_cons h
theorem cmpL_step {xs ys : List Int} {k : Nat} (h1 : k < xs.length) (h2 : k < ys.length) : cmpL (xs.drop k) (ys.drop k) = if cmpI (inth xs k) (inth ys k) = 0 then cmpL (xs.drop (k + 1)) (ys.drop (k + 1)) else cmpI (inth xs k) (inth ys k) := by
  rw [drop_inth h1, drop_inth h2]
  unfold cmpI
  rw [cmpL]
  by_cases ha : inth xs k < inth ys k
  · simp [ha]
  · by_cases hb : inth ys k < inth xs k
    · simp [ha, hb]
    · simp [ha, hb]
theorem cmpL_long {xs ys : List Int} {k : Nat} (h1 : k < xs.length) (h2 : ys.length ≤ k) : cmpL (xs.drop k) (ys.drop k) = 1 := by
  rw [drop_inth h1, List.drop_of_length_le h2]; rfl
theorem cmpL_short {xs ys : List Int} {k : Nat} (h1 : xs.length ≤ k) (h2 : k < ys.length) : cmpL (xs.drop k) (ys.drop k) = -1 := by
  rw [drop_inth h2, List.drop_of_length_le h1]; rfl
theorem cmpL_both {xs ys : List Int} {k : Nat} (h1 : xs.length ≤ k) (h2 : ys.length ≤ k) : cmpL (xs.drop k) (ys.drop k) = 0 := by
  rw [List.drop_of_length_le h1, List.drop_of_length_le h2]; rfl

end Go.Proofs.YtjofdlafblpclaaDoor
