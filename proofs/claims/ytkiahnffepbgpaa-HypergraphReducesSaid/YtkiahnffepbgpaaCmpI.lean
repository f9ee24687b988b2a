/-
  Contracts of cmp.Compare at int and of the reference's Inside.
-/
import Derived.Test.YtkiahnffepbgpaaRefC
namespace Go.Proofs.Ytkiahnffepbgpaa
open Go.RowKit

theorem isnan_any (x : Int) (w : World) : Calls Try.prog 59 #[.int .i64 x] w fun e w' => e = .returned (.bool false) ∧ w' = w := by
  go_enter Try.func59, Try.ntmps59
  go_wp2_with fail
  go_ret
  first | exact ⟨rfl, rfl⟩ | simp
/-- How two numbers compare. -/
def cmpI (x y : Int) : Int := if x < y then -1 else if y < x then 1 else 0
set_option maxHeartbeats 1000000 in
theorem cmp_any (x y : Int) (w : World) : Calls Try.prog 56 #[.int .i64 x, .int .i64 y] w fun e w' => e = .returned (.int .i64 (cmpI x y)) ∧ w' = w := by
  by_cases h1 : x < y
  · have e1 : cmpI x y = -1 := by simp [cmpI, h1]
    rw [e1]
    have t1 : decide (x < y) = true := by simp [h1]
    go_enter Try.func56, Try.ntmps56
    go_wp2_with (go_at_call 59; (first | with_reducible refine (isnan_any x _).mono ?_ | with_reducible refine (isnan_any y _).mono ?_); rintro e w' ⟨rfl, rfl⟩)
    go_ret
    first | exact ⟨rfl, rfl⟩ | simp
  · have t1 : decide (x < y) = false := by simp; omega
    by_cases h2 : y < x
    · have e1 : cmpI x y = 1 := by simp [cmpI, h1, h2]
      rw [e1]
      have t2 : decide (x > y) = true := by simp [h2]
      go_enter Try.func56, Try.ntmps56
      go_wp2_with (go_at_call 59; (first | with_reducible refine (isnan_any x _).mono ?_ | with_reducible refine (isnan_any y _).mono ?_); rintro e w' ⟨rfl, rfl⟩)
      go_ret
      first | exact ⟨rfl, rfl⟩ | simp
    · have e1 : cmpI x y = 0 := by simp [cmpI, h1, h2]
      rw [e1]
      have t2 : decide (x > y) = false := by simp; omega
      go_enter Try.func56, Try.ntmps56
      go_wp2_with (go_at_call 59; (first | with_reducible refine (isnan_any x _).mono ?_ | with_reducible refine (isnan_any y _).mono ?_); rintro e w' ⟨rfl, rfl⟩)
      go_ret
      first | exact ⟨rfl, rfl⟩ | simp
end Go.Proofs.Ytkiahnffepbgpaa
