/-
  Plain: the chapter's examples, reckoned.
-/
import Derived.Test.YtjofdlafblpclaaDoorObsF
import Derived.Test.YtjofdlafblpclaaDoorAdj
import Derived.Test.YtjofdlafblpclaaDoorAcy
namespace Go.Proofs.YtjofdlafblpclaaDoor

theorem ak1 : checkCode (3 : Nat) [3, 6, 5] = 0 := by decide
theorem ak2 : checkCode (3 : Nat) [3, 6, 5, 7] = 0 := by decide
theorem ak3 : checkCode (4 : Nat) [3, 6, 12, 9] = 0 := by decide
theorem ak4 : obsF (adjRow 3 [3, 6, 5]) 3 [3, 6, 5] = ([0, 1, 2], true) := by decide +kernel
theorem ak5 : obsF (adjRow 4 [3, 6, 12, 9]) 4 [3, 6, 12, 9] = ([0, 1, 2, 3], true) := by decide +kernel
def absT (r : List Nat) (g : List Bool) (e f : Nat) : Bool := absorbs r g e f && (decide (e < r.length) && (decide (f < r.length) && ((List.range e).all (fun e' => (List.range r.length).all fun f' => !absorbs r g e' f') && (List.range f).all fun f' => !absorbs r g e f')))
theorem absT_spec {r : List Nat} {g : List Bool} {e f : Nat} (h : absT r g e f = true) : AbsSpec r g (some (e, f)) := by
  simp only [absT, Bool.and_eq_true, decide_eq_true_eq, List.all_eq_true, List.mem_range, Bool.not_eq_true'] at h
  exact ⟨h.2.1, h.2.2.1, h.1, fun e' f' h1 h2 => h.2.2.2.1 e' h1 f' h2, h.2.2.2.2⟩
def absN (r : List Nat) (g : List Bool) : Bool := (List.range r.length).all fun e => (List.range r.length).all fun f => !absorbs r g e f
theorem absN_spec {r : List Nat} {g : List Bool} (h : absN r g = true) : AbsSpec r g none := by
  simp only [absN, List.all_eq_true, List.mem_range, Bool.not_eq_true'] at h
  exact fun e f h1 h2 => h e h1 f h2
def isoT (n : Nat) (r : List Nat) (e v : Nat) : Bool := decide (v < n) && (decide (e < r.length) && ((nth r e).testBit v && (decide (occ r v = 1) && (List.range v).all fun v' => decide (occ r v' ≠ 1))))
theorem isoT_spec {n : Nat} {r : List Nat} {e v : Nat} (h : isoT n r e v = true) : IsoSpec n r (some (e, v)) := by
  simp only [isoT, Bool.and_eq_true, decide_eq_true_eq, List.all_eq_true, List.mem_range] at h
  exact ⟨h.1, h.2.1, h.2.2.1, h.2.2.2.1, h.2.2.2.2⟩
def isoN (n : Nat) (r : List Nat) : Bool := (List.range n).all fun v => decide (occ r v ≠ 1)
theorem isoN_spec {n : Nat} {r : List Nat} (h : isoN n r = true) : IsoSpec n r none := by
  simp only [isoN, decide_eq_true_eq, List.all_eq_true, List.mem_range] at h
  exact fun v hv => h v hv
theorem ak6 : ∃ l g, Run 3 [3, 6, 5, 7] (List.replicate 4 false) l [0, 0, 0, 0] g ∧ Fin 3 [0, 0, 0, 0] g ∧ l.length = 6 := by
  have h0 : Run 3 [3, 6, 5, 7] (List.replicate 4 false) [] [3, 6, 5, 7] [false, false, false, false] := .nil
  have h1 := h0.abs (absT_spec (e := 0) (f := 3) (by decide +kernel))
  have h2 := h1.abs (absT_spec (e := 1) (f := 3) (by decide +kernel))
  have h3 := h2.abs (absT_spec (e := 2) (f := 3) (by decide +kernel))
  have h4 := h3.iso (absN_spec (by decide +kernel)) (isoT_spec (e := 3) (v := 0) (by decide +kernel))
  have h5 := h4.iso (absN_spec (by decide +kernel)) (isoT_spec (e := 3) (v := 1) (by decide +kernel))
  have h6 := h5.iso (absN_spec (by decide +kernel)) (isoT_spec (e := 3) (v := 2) (by decide +kernel))
  exact ⟨_, _, h6, ⟨absN_spec (by decide +kernel), isoN_spec (by decide +kernel)⟩, rfl⟩
theorem ak7 {l : List (Int × Int × Int)} {r : List Nat} {g : List Bool} (h : Run 3 [3, 6, 5, 7] (List.replicate [3, 6, 5, 7].length false) l r g) (h1 : AbsSpec r g none) (h2 : IsoSpec 3 r none) : l.length = 6 := by
  obtain ⟨l', g', k1, k2, k3⟩ := ak6
  have := Run.final h ⟨h1, h2⟩ k1 k2
  rw [← k3, this.1]
theorem ak8 : Acyc 3 [3, 6, 5, 7] := by
  obtain ⟨l', g', k1, k2, k3⟩ := ak6
  exact ⟨l', _, g', k1, k2, by decide⟩
end Go.Proofs.YtjofdlafblpclaaDoor
