/-
  Contract of hypergraph.Of.
-/
import Derived.Test.YtjofdlafblpclaaDoorOfP
import Derived.Test.YtjofdlafblpclaaDoorMk
import Derived.Test.YtjofdlafblpclaaDoorAbs
import Derived.Test.YtjofdlafblpclaaDoorFew
namespace Go.Proofs.YtjofdlafblpclaaDoor
open Go.RowKit
set_option linter.unusedSimpArgs false
set_option linter.unusedVariables false

/-- What Of answers: a graph of its own, and an error. -/
def OfRet (n : Int) (xss : List (List Int)) (w : World) (e : Ending) (w' : World) : Prop :=
  ∃ v, e = .returned (.tuple #[.agg #[.int .i64 (if ofCode n xss = 0 then n else 0), v], .int .i64 (ofCode n xss)]) ∧ w'.ownsRow w.heap.size 42 1 v (if ofCode n xss = 0 then ofEs n xss else []).length (U32 (if ofCode n xss = 0 then ofEs n xss else [])) ∧ Below w.heap.size w w'
theorem OfRet.err {n : Int} {xss : List (List Int)} {w w' : World} {c : Int} (h : ofCode n xss = c) (hc : c ≠ 0) (hb : Below w.heap.size w w') : OfRet n xss w (.returned (.tuple #[.agg #[.int .i64 0, .slice none 0 0], .int .i64 c])) w' := by
  subst h
  exact ⟨_, by rw [if_neg hc], by rw [if_neg hc]; exact own_nil _ _ _, hb⟩
theorem graph_size (a b : Value) : (Tryd.prog.info? 24).map (·.size) = some (#[a, b] : Array Value).size := by kernel_rfl
theorem two_below {B : Nat} {a w : World} (h : Below B a w) {g : Nat} (hg : B ≤ g) (x y : Value) : Below B a ((w.setCell ⟨g, 0, none⟩ x).setCell ⟨g, 1, none⟩ y) :=
  (h.setCell (p := ⟨g, 0, none⟩) hg x).setCell (p := ⟨g, 1, none⟩) hg y
end Go.Proofs.YtjofdlafblpclaaDoor
