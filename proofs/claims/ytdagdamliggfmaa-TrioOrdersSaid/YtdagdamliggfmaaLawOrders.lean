/-
  The walk of TrioOrders.
-/
import Derived.Test.YtdagdamliggfmaaOrders
import Derived.Test.YtdagdamliggfmaaAcy
import Derived.Test.YtdagdamliggfmaaFill
import Derived.Test.YtdagdamliggfmaaAwake
namespace Go.Proofs.Ytdagdamliggfmaa
open Go.RowKit

section
variable (n : Int) (A : Option Addr) (es : List Nat) (len c : Nat) (w : World)
set_option maxHeartbeats 2000000 in
theorem orders_far (hr : Es w w.heap.size A len es) (h : fewB n es = false) : Calls Try.prog 6 #[.agg #[.int .i64 n, .slice A len c]] w fun e w' => e = .returned (.bool true) ∧ Below w.heap.size w w' := by
  have HF := Lib.hid h; clear h
  have HR := Lib.hid (hr.new (al w (.cells #[.int .i64 n, .slice A len c] 24))); clear hr
  have HW := Lib.hid (al w (.cells #[.int .i64 n, .slice A len c] 24))
  go_enter Try.func6, Try.ntmps6
  go_wp2_with fail
  refine (few_any n A es len c _ HR.out).mono ?_
  rintro e w1 ⟨rfl, hb⟩
  rw [HF.out]
  replace HW := Lib.hid (bthen HW.out hb HW.out.size); clear hb
  go_wp2_with fail
  refine (awake_any _).mono ?_
  rintro e w2 ⟨rfl, hb⟩
  replace HW := Lib.hid (bthen HW.out hb HW.out.size); clear hb
  go_wp2_with fail
  go_ret
  exact ⟨rfl, HW.out⟩
set_option maxHeartbeats 2000000 in
theorem orders_many (hr : Es w w.heap.size A len es) (h : fewB n es = true) (h5 : 5 < n) : Calls Try.prog 6 #[.agg #[.int .i64 n, .slice A len c]] w fun e w' => e = .returned (.bool true) ∧ Below w.heap.size w w' := by
  have HF := Lib.hid h; clear h
  have HR := Lib.hid (hr.new (al w (.cells #[.int .i64 n, .slice A len c] 24))); clear hr
  have HW := Lib.hid (al w (.cells #[.int .i64 n, .slice A len c] 24))
  have HG := Lib.hid (GB.made w 24 (.int .i64 n) (.slice A len c))
  have t5 : decide (n > 5) = true := decide_eq_true h5
  have t5' : decide (5 < n) = true := decide_eq_true h5
  clear h5
  go_enter Try.func6, Try.ntmps6
  go_wp2_with fail
  refine (few_any n A es len c _ HR.out).mono ?_
  rintro e w1 ⟨rfl, hb⟩
  rw [HF.out]
  have g0 := (HG.out.new hb).c0
  replace HW := Lib.hid (bthen HW.out hb HW.out.size); clear hb
  go_wp2_with fail
  refine (awake_any _).mono ?_
  rintro e w2 ⟨rfl, hb⟩
  replace HW := Lib.hid (bthen HW.out hb HW.out.size); clear hb
  go_wp2_with fail
  go_ret
  exact ⟨rfl, HW.out⟩
end
set_option maxHeartbeats 2000000 in
theorem orders_near (n : Nat) (A : Option Addr) (es : List Nat) (len c : Nat) (w : World) (hr : Es w w.heap.size A len es) (h : fewB n es = true) (h5 : n ≤ 5) : Calls Try.prog 6 #[.agg #[.int .i64 n, .slice A len c]] w fun e w' => e = .returned (.bool true) ∧ Below w.heap.size w w' := by
  have hcc := (of_decide_eq_true h).2.2.2
  have HCC := Lib.hid hcc; clear hcc
  have HF := Lib.hid h; clear h
  have HE := Lib.hid hr
  have HR := Lib.hid (hr.new (al w (.cells #[.int .i64 n, .slice A len c] 24))); clear hr
  have HW := Lib.hid (al w (.cells #[.int .i64 n, .slice A len c] 24))
  have HG := Lib.hid (GB.made w 24 (.int .i64 n) (.slice A len c))
  have t5 : decide ((n : Int) > 5) = false := decide_eq_false (by omega)
  have t5' : decide ((5 : Int) < (n : Int)) = false := decide_eq_false (by omega)
  go_enter Try.func6, Try.ntmps6
  go_wp2_with fail
  refine (few_any n A es len c _ HR.out).mono ?_
  rintro e w1 ⟨rfl, hb⟩
  rw [HF.out]
  have g0 := (HG.out.new hb).c0; have g1 := (HG.out.new hb).c1
  replace HG := Lib.hid (HG.out.new hb)
  replace HR := Lib.hid (HR.out.new hb)
  replace HW := Lib.hid (bthen HW.out hb HW.out.size); clear hb
  go_wp2_with fail
  refine (acyclic_ok n A es len c _ HR.out HCC.out).mono ?_
  rintro e w2 ⟨b, hbq, rfl, hb⟩
  clear g0 g1
  have g0 := (HG.out.new hb).c0; have g1 := (HG.out.new hb).c1
  replace HG := Lib.hid (HG.out.new hb)
  replace HR := Lib.hid (HR.out.new hb)
  replace HW := Lib.hid (bthen HW.out hb HW.out.size); clear hb
  have HBQ := Lib.hid hbq; clear hbq
  cases b with
  | false =>
    go_wp2_with fail
    refine (awake_any _).mono ?_
    rintro e w3 ⟨rfl, hb⟩
    replace HW := Lib.hid (bthen HW.out hb HW.out.size); clear hb
    go_wp2_with fail
    go_ret
    exact ⟨rfl, HW.out⟩
  | true =>
    go_wp2_with fail
    refine (awake_any _).mono ?_
    rintro e w3 ⟨rfl, hb⟩
    clear g0 g1
    have g0 := (HG.out.new hb).c0; have g1 := (HG.out.new hb).c1
    replace HR := Lib.hid (HR.out.new hb)
    replace HW := Lib.hid (bthen HW.out hb HW.out.size); clear hb
    go_wp2_with fail
    refine (orders_any n A es len c HCC.out n none [] 0 _ (by simp) HR.out ⟨Reads.none_, ⟨rfl, Nat.zero_le _⟩, by simp⟩ ⟨by simp, by simp, by simp⟩).mono ?_
    rintro e w4 ⟨b, hbt, rfl, hb⟩
    obtain ⟨_, _, _, hlt⟩ := checkCode_zero HCC.out
    obtain ⟨p, hp⟩ := good_exists (n := n) (by omega) hlt (HBQ.out.1 (by simp))
    obtain rfl := hbt ⟨p, ⟨p, rfl⟩, hp⟩
    replace HW := Lib.hid (bthen HW.out hb HW.out.size); clear hb hbt hp hlt
    go_wp2_with fail
    go_ret
    exact ⟨rfl, HW.out⟩
theorem trioOrders_walk (n : Int) (A : Option Addr) (es : List Nat) (len c : Nat) (w : World) (hr : Es w w.heap.size A len es) (hn : -9223372036854775808 ≤ n ∧ n ≤ 9223372036854775807) (_hc : len ≤ c) :
    Calls Try.prog 6 #[.agg #[.int .i64 n, .slice A len c]] w fun e w' => e = .returned (.bool true) ∧ Below w.heap.size w w' := by
  by_cases hf : fewB n es = true
  · by_cases h5 : 5 < n
    · exact orders_many n A es len c w hr hf h5
    · have h0 := (of_decide_eq_true hf).1
      obtain ⟨k, rfl⟩ := Int.eq_ofNat_of_zero_le h0
      exact orders_near k A es len c w hr hf (by omega)
  · exact orders_far n A es len c w hr (by simpa using hf)
end Go.Proofs.Ytdagdamliggfmaa
