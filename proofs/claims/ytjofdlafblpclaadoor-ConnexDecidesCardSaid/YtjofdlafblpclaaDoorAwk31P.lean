/-
  Plain: the chapter's example of layer 31, reckoned.
-/
import Derived.Test.YtjofdlafblpclaaDoorAwk26P
import Derived.Test.YtjofdlafblpclaaDoorCxK
import Derived.Test.YtjofdlafblpclaaDoorCxC
namespace Go.Proofs.YtjofdlafblpclaaDoor

theorem aw1 : checkCode (3 : Nat) [5, 6] = 0 := by decide
theorem aw2 : Acyc 3 [5, 6] := by
  have h0 : Run 3 [5, 6] (List.replicate 2 false) [] [5, 6] [false, false] := .nil
  have h1 := h0.iso (absN_spec (by decide +kernel)) (isoT_spec (e := 0) (v := 0) (by decide +kernel))
  have h2 := h1.abs (absT_spec (e := 0) (f := 1) (by decide +kernel))
  have h3 := h2.iso (absN_spec (by decide +kernel)) (isoT_spec (e := 1) (v := 1) (by decide +kernel))
  have h4 := h3.iso (absN_spec (by decide +kernel)) (isoT_spec (e := 1) (v := 2) (by decide +kernel))
  exact ⟨_, _, _, h4, ⟨absN_spec (by decide +kernel), isoN_spec (by decide +kernel)⟩, by decide⟩
theorem aw3 : Acyc 3 [5, 6, 1] := by
  have h0 : Run 3 [5, 6, 1] (List.replicate 3 false) [] [5, 6, 1] [false, false, false] := .nil
  have h9 := h0.abs (absT_spec (e := 2) (f := 0) (by decide +kernel))
  have h1 := h9.iso (absN_spec (by decide +kernel)) (isoT_spec (e := 0) (v := 0) (by decide +kernel))
  have h2 := h1.abs (absT_spec (e := 0) (f := 1) (by decide +kernel))
  have h3 := h2.iso (absN_spec (by decide +kernel)) (isoT_spec (e := 1) (v := 1) (by decide +kernel))
  have h4 := h3.iso (absN_spec (by decide +kernel)) (isoT_spec (e := 1) (v := 2) (by decide +kernel))
  exact ⟨_, _, _, h4, ⟨absN_spec (by decide +kernel), isoN_spec (by decide +kernel)⟩, by decide⟩
theorem aw4 : ¬ Acyc 3 [5, 6, 3] := by
  rintro ⟨l, r, g, h1, h2, h3⟩
  have h0 : Run 3 [5, 6, 3] (List.replicate 3 false) [] [5, 6, 3] [false, false, false] := .nil
  obtain ⟨_, rfl, _⟩ := Run.final h1 h2 h0 ⟨absN_spec (by decide +kernel), isoN_spec (by decide +kernel)⟩
  exact absurd (h3 5 (by simp)) (by decide)
theorem aw5 : FreeCon 3 [5, 6] 1 := ⟨aw2, aw3⟩
theorem aw6 : ¬ FreeCon 3 [5, 6] 2 := fun h => aw4 h.2
theorem aw7 : pathF 3 [5, 6] 2 = some [0, 2, 1] := by decide +kernel
theorem aw8 : chkW (adjRow 3 [5, 6]) 3 2 [0, 2, 1] = true := by decide +kernel
end Go.Proofs.YtjofdlafblpclaaDoor
