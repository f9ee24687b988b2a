/-
  The walk of law26.HypergraphRenames, all cases.
-/
import Derived.Test.YtkiahnffepbgpaaLawRen
namespace Go.Proofs.Ytkiahnffepbgpaa
open Go.RowKit
set_option linter.unusedSimpArgs false
set_option linter.unusedVariables false

set_option maxRecDepth 100000 in
set_option maxHeartbeats 4000000 in
theorem hypergraphRenames_walk (n : Int) (A : Option Addr) (es : List Nat) (len c : Nat) (Ap : Option Addr) (bs : List Nat) (np cp : Nat) (x : Int) (w : World) (hr : Es w w.heap.size A len es) (_ : -9223372036854775808 ≤ n ∧ n ≤ 9223372036854775807) (_ : len ≤ c) (hp : Us w w.heap.size Ap np bs) (_ : np ≤ cp) (hx : 0 ≤ x ∧ x ≤ 4294967295) :
    Calls Try.prog 4 #[.agg #[.int .i64 n, .slice A len c], .slice Ap np cp, .int .u32 x] w fun e w' => e = .returned (.bool true) ∧ Below w.heap.size w w' := by
  obtain ⟨ins, rfl⟩ := Int.eq_ofNat_of_zero_le hx.1
  have hle := hp.2.1.2
  cases hf : fewB n es with
  | false =>
    have HR := Lib.hid hr; clear hr
    have HF := Lib.hid hf; clear hf
    have HW := Lib.hid (al w (.cells #[.int .i64 n, .slice A len c] 24))
    clear hp
    go_enter Try.func4, Try.ntmps4
    go_wp2_with fail
    refine (few_any n A es len c _ (HR.out.new HW.out)).mono ?_
    rintro e w1 ⟨rfl, hb⟩
    rw [HF.out]
    have HB := Lib.hid (bthen HW.out hb (by simp)); clear hb
    go_wp2_with fail
    refine (awake26_any _).mono ?_
    rintro e w2 ⟨rfl, hb⟩
    have HB2 := Lib.hid (bthen HB.out hb HB.out.size); clear hb
    go_wp2_with fail
    go_ret
    exact ⟨rfl, HB2.out⟩
  | true =>
    obtain ⟨h0, _⟩ := of_decide_eq_true hf
    obtain ⟨n, rfl⟩ := Int.eq_ofNat_of_zero_le h0
    by_cases hnp : np ≤ 20
    · exact renames_main n A es len c Ap bs np cp ins w hr hf hp hnp (by omega)
    · have HR := Lib.hid hr; clear hr
      have HF := Lib.hid hf; clear hf
      have HW := Lib.hid (al w (.cells #[.int .i64 n, .slice A len c] 24))
      have t1 : decide ((np : Int) > 20) = true := by simp; omega
      clear hp
      go_enter Try.func4, Try.ntmps4
      go_wp2_with fail
      refine (few_any n A es len c _ (HR.out.new HW.out)).mono ?_
      rintro e w1 ⟨rfl, hb⟩
      rw [HF.out]
      have HB := Lib.hid (bthen HW.out hb (by simp)); clear hb
      go_wp2_with fail
      refine (awake26_any _).mono ?_
      rintro e w2 ⟨rfl, hb⟩
      have HB2 := Lib.hid (bthen HB.out hb HB.out.size); clear hb
      go_wp2_with fail
      go_ret
      exact ⟨rfl, HB2.out⟩
end Go.Proofs.Ytkiahnffepbgpaa
