/-
  Plain: the length of a shortest chordless cycle, as hypergraph.cycleLength finds it.
-/
import Derived.Test.YtjofdlafblpclaaDoorPlain
namespace Go.Proofs.YtjofdlafblpclaaDoor

/-- The neighbours of the vertices of f below k. -/
def orTo (R : List Nat) (f : Nat) : Nat → Nat
  | 0 => 0
  | k + 1 => if f.testBit k then orTo R f k ||| nth R k else orTo R f k
/-- The next level. -/
def nextL (R : List Nat) (n ins seen front : Nat) : Nat := andn (orTo R front n &&& ins) (seen ||| front)
/-- The distance, when so many rounds suffice. -/
def distO (R : List Nat) (n b ins : Nat) : Nat → Nat → Nat → Nat → Option Nat
  | 0, _, _, _ => none
  | f + 1, seen, front, l =>
    if front = 0 then some 0
    else if (nextL R n ins seen front).testBit b then some l
    else distO R n b ins f (seen ||| front) (nextL R n ins seen front) (l + 1)
theorem distO_more {R : List Nat} {n b ins : Nat} : ∀ (f g seen front l d : Nat), distO R n b ins f seen front l = some d → distO R n b ins (f + g) seen front l = some d := by
  intro f
  induction f with
  | zero => intro g seen front l d h; simp [distO] at h
  | succ f ih =>
    intro g seen front l d h
    rw [show f + 1 + g = (f + g) + 1 by omega]
    rw [distO] at h ⊢
    by_cases h0 : front = 0
    · rw [if_pos h0] at h ⊢; exact h
    · rw [if_neg h0] at h ⊢
      by_cases h1 : (nextL R n ins seen front).testBit b = true
      · rw [if_pos h1] at h ⊢; exact h
      · rw [if_neg h1] at h ⊢; exact ih _ _ _ _ _ h
theorem distO_one {R : List Nat} {n b ins f g seen front l d e : Nat} (h1 : distO R n b ins f seen front l = some d) (h2 : distO R n b ins g seen front l = some e) : d = e := by
  have a := distO_more f g seen front l d h1
  have c := distO_more g f seen front l e h2
  rw [Nat.add_comm g f] at c
  exact Option.some.inj (a.symm.trans c)
/-- What hypergraph.distance answers. -/
def DistIs (R : List Nat) (n a b ins d : Nat) : Prop := ∃ f, distO R n b ins f 0 (2 ^ a) 1 = some d
theorem DistIs.one {R : List Nat} {n a b ins d e : Nat} (h1 : DistIs R n a b ins d) (h2 : DistIs R n a b ins e) : d = e := by
  obtain ⟨f, hf⟩ := h1
  obtain ⟨g, hg⟩ := h2
  exact distO_one hf hg
end Go.Proofs.YtjofdlafblpclaaDoor
namespace Go.Proofs.YtjofdlafblpclaaDoor

/-- The vertices that a cycle through x, v, y may still use, x and y with them. -/
def restOf (R : List Nat) (n v x y : Nat) : Nat := andn (andn (2 ^ n - 1) (nth R v)) (2 ^ v) ||| 2 ^ x ||| 2 ^ y
/-- Is there nothing to do at v, x, y? -/
def skipB (R : List Nat) (v x y : Nat) : Bool := !(nth R v).testBit x || !(nth R v).testBit y || (nth R x).testBit y
/-- One place: the shortest length so far, and the next. -/
def CylStep (R : List Nat) (n v x y s s' : Nat) : Prop :=
  if skipB R v x y = true then s' = s
  else ∃ d, DistIs R n x y (restOf R n v x y) d ∧ s' = if 0 < d ∧ (s = 0 ∨ d + 2 < s) then d + 2 else s
/-- The innermost loop, y below k. -/
def CylY (R : List Nat) (n v x : Nat) : Nat → Nat → Nat → Prop
  | 0, s, t => t = s
  | k + 1, s, t => ∃ m, CylY R n v x k s m ∧ CylStep R n v x k m t
/-- The loop over x. -/
def CylX (R : List Nat) (n v : Nat) : Nat → Nat → Nat → Prop
  | 0, s, t => t = s
  | k + 1, s, t => ∃ m, CylX R n v k s m ∧ CylY R n v k k m t
/-- The loop over v. -/
def CylV (R : List Nat) (n : Nat) : Nat → Nat → Nat → Prop
  | 0, s, t => t = s
  | k + 1, s, t => ∃ m, CylV R n k s m ∧ CylX R n k n m t
end Go.Proofs.YtjofdlafblpclaaDoor
