/-
  Plain: the length of a shortest chordless cycle, as hypergraph.cycleLength finds it.
-/
import Derived.Test.YtkiahnffepbgpaaDistP
namespace Go.Proofs.Ytkiahnffepbgpaa

/-- The vertices that a cycle through x, v, y may still use, x and y with them. -/
def restOf (R : List Nat) (n v x y : Nat) : Nat := andn (andn (2 ^ n - 1) (nth R v)) (2 ^ v) ||| 2 ^ x ||| 2 ^ y
/-- Is there nothing to do at v, x, y? -/
def skipB (R : List Nat) (v x y : Nat) : Bool := !(nth R v).testBit x || !(nth R v).testBit y || (nth R x).testBit y
/-- One place: the shortest length so far, and the next. -/
def CylStep (R : List Nat) (n v x y s s' : Nat) : Prop :=
  if skipB R v x y = true then s' = s
  else ∃ d, DistIs R n x y (restOf R n v x y) d ∧ s' = if 0 < d ∧ (s = 0 ∨ d + 2 < s) then d + 2 else s
/-- The innermost loop, y below k. -/
def CylY (R : List Nat) (n v x : Nat) : Nat → Nat → Nat → Prop
  | 0, s, t => t = s
  | k + 1, s, t => ∃ m, CylY R n v x k s m ∧ CylStep R n v x k m t
/-- The loop over x. -/
def CylX (R : List Nat) (n v : Nat) : Nat → Nat → Nat → Prop
  | 0, s, t => t = s
  | k + 1, s, t => ∃ m, CylX R n v k s m ∧ CylY R n v k k m t
/-- The loop over v. -/
def CylV (R : List Nat) (n : Nat) : Nat → Nat → Nat → Prop
  | 0, s, t => t = s
  | k + 1, s, t => ∃ m, CylV R n k s m ∧ CylX R n k n m t
end Go.Proofs.Ytkiahnffepbgpaa
