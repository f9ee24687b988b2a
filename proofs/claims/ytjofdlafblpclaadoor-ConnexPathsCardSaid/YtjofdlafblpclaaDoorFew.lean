/-
  Contracts of law26.Few and slices.Clone.
-/
import Derived.Test.YtjofdlafblpclaaDoorRef
import Derived.Test.YtjofdlafblpclaaDoorMk
namespace Go.Proofs.YtjofdlafblpclaaDoor
open Go.RowKit

theorem own_lower {w : World} {base base' : Nat} {e : TypeId} {size n : Nat} {v : Value} {xs : List Value} (h : w.ownsRow base e size v n xs) (hb : base' ≤ base) : w.ownsRow base' e size v n xs := by
  refine ⟨h.1, ?_⟩
  rcases h.2 with h0 | ⟨g', cap, cur, rfl, h1, h2⟩
  · exact .inl h0
  · exact .inr ⟨g', cap, cur, rfl, Nat.le_trans hb h1, h2⟩
/-- A row keeps what it holds where only another row, of another element type, has grown. -/
theorem own_grown_own {w w' : World} {base base' : Nat} {e e' : TypeId} {size size' n n' : Nat} {v v' : Value} {xs xs' : List Value} (h : w.ownsRow base e size v n xs) (h' : w.ownsRow base' e' size' v' n' xs') (hne : e ≠ e') (hg : w.grownBy w' v'.ownBlock) : w'.ownsRow base e size v n xs := by
  refine ⟨h.1, ?_⟩
  rcases h.2 with h0 | ⟨g, cap, cur, rfl, h1, h2, h3⟩
  · exact .inl h0
  · refine .inr ⟨g, cap, cur, rfl, h1, ?_, h3⟩
    refine (hg.block g (Blk.lt' h2) ?_).trans h2
    rcases h'.2 with ⟨rfl, _⟩ | ⟨g', cap', cur', rfl, _, h2', _⟩
    · simp [Value.ownBlock]
    · simp only [Value.ownBlock]
      intro he
      injection he with he
      subst he
      rw [h2] at h2'
      injection h2' with h2'
      injection h2' with _ ht
      exact hne ht

def fewB (n : Int) (es : List Nat) : Bool := decide (0 ≤ n ∧ n ≤ 6 ∧ es.length ≤ 8 ∧ checkCode n es = 0)

theorem eq_nil (A : Option Addr) (n c : Nat) (w : World) : (binOp .eql 22 (.slice A n c) (.slice none 0 0)).run Tryd.prog w = .ok (.bool A.isNone) w := by
  simp only [binOp]
  simp [Op.equal, Op.maxDepth, Lib.run_equalIn_slice_nil w 9999 22 42 A n c 0 0 Tryd.underlying22]

set_option maxHeartbeats 1000000 in
theorem clone_u32 (A : Option Addr) (es : List Nat) (n c : Nat) (w : World) (hr : Es w w.heap.size A n es) (hn : n ≤ 1000000) :
    Calls Tryd.prog 31 #[.slice A n c] w fun e w' => ∃ A' c', e = .returned (.slice A' n c') ∧ w'.ownsRow w.heap.size 42 1 (.slice A' n c') n (U32 es) ∧ Below w.heap.size w w' := by
  have HR := Lib.hid hr; clear hr
  cases A with
  | none =>
    have h0 : n = 0 := by
      rcases Nat.eq_zero_or_pos n with h | h
      · exact h
      · obtain ⟨ad, he, _⟩ := HR.out.1.2 h
        cases he
    subst h0
    have HE := Lib.hid (show es = [] from List.eq_nil_of_length_eq_zero HR.out.len.symm)
    have hnil := eq_nil none 0 c
    go_enter Tryd.func31, Tryd.ntmps31
    go_wp2_with fail
    go_ret
    rw [HE.out]
    exact ⟨none, 0, rfl, own_nil _ _ _, Below.refl _ _⟩
  | some ad =>
    obtain ⟨i, hi, hz, hs1, hby⟩ := info_parts info_u32
    have hnil := eq_nil (some ad) n c
    go_enter Tryd.func31, Tryd.ntmps31
    go_wp2_with (at_builtin; refine wpList_append_any _ rfl _ _ 22 rfl w.heap.size 42 i _ 1 4 Tryd.underlying22 hi hz hs1 hby rfl (by omega) (.slice (some ⟨w.heap.size, 0, none⟩) 0 0) 0 [] rfl (own_empty w 42) w.heap.size (some ad) n c (U32 es) rfl (HR.out.1.alloc (Nat.le_refl _) _) (one_U32 es) (by simp only [maxLen]; omega) (by omega) (by simp) ?_; intro v' w1 hown' hgr hor; rw [Nat.zero_add, List.nil_append] at hown'; obtain ⟨A', c', rfl⟩ := own_form hown'; have HW := Lib.hid hown'; have HG := Lib.hid hgr; clear hown' hgr hor)
    go_ret
    exact ⟨A', c', rfl, HW.out, Below.appended (al _ _) (own_empty w 42) HG.out (by simp) (Nat.le_refl _)⟩

end Go.Proofs.YtjofdlafblpclaaDoor
