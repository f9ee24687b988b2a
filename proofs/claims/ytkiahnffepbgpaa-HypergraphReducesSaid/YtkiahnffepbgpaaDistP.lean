/-
  Plain: the distance of two vertices within a set, level by level, as hypergraph.distance finds it.
-/
import Derived.Test.YtkiahnffepbgpaaPlain
namespace Go.Proofs.Ytkiahnffepbgpaa

/-- The neighbours of the vertices of f below k. -/
def orTo (R : List Nat) (f : Nat) : Nat → Nat
  | 0 => 0
  | k + 1 => if f.testBit k then orTo R f k ||| nth R k else orTo R f k
/-- The next level. -/
def nextL (R : List Nat) (n ins seen front : Nat) : Nat := andn (orTo R front n &&& ins) (seen ||| front)
/-- The distance, when so many rounds suffice. -/
def distO (R : List Nat) (n b ins : Nat) : Nat → Nat → Nat → Nat → Option Nat
  | 0, _, _, _ => none
  | f + 1, seen, front, l =>
    if front = 0 then some 0
    else if (nextL R n ins seen front).testBit b then some l
    else distO R n b ins f (seen ||| front) (nextL R n ins seen front) (l + 1)
theorem distO_more {R : List Nat} {n b ins : Nat} : ∀ (f g seen front l d : Nat), distO R n b ins f seen front l = some d → distO R n b ins (f + g) seen front l = some d := by
  intro f
  induction f with
  | zero => intro g seen front l d h; simp [distO] at h
  | succ f ih =>
    intro g seen front l d h
    rw [show f + 1 + g = (f + g) + 1 by omega]
    rw [distO] at h ⊢
    by_cases h0 : front = 0
    · rw [if_pos h0] at h ⊢; exact h
    · rw [if_neg h0] at h ⊢
      by_cases h1 : (nextL R n ins seen front).testBit b = true
      · rw [if_pos h1] at h ⊢; exact h
      · rw [if_neg h1] at h ⊢; exact ih _ _ _ _ _ h
theorem distO_one {R : List Nat} {n b ins f g seen front l d e : Nat} (h1 : distO R n b ins f seen front l = some d) (h2 : distO R n b ins g seen front l = some e) : d = e := by
  have a := distO_more f g seen front l d h1
  have c := distO_more g f seen front l e h2
  rw [Nat.add_comm g f] at c
  exact Option.some.inj (a.symm.trans c)
/-- What hypergraph.distance answers. -/
def DistIs (R : List Nat) (n a b ins d : Nat) : Prop := ∃ f, distO R n b ins f 0 (2 ^ a) 1 = some d
theorem DistIs.one {R : List Nat} {n a b ins d e : Nat} (h1 : DistIs R n a b ins d) (h2 : DistIs R n a b ins e) : d = e := by
  obtain ⟨f, hf⟩ := h1
  obtain ⟨g, hg⟩ := h2
  exact distO_one hf hg
end Go.Proofs.Ytkiahnffepbgpaa
