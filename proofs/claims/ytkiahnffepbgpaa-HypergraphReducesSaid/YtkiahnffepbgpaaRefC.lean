/-
  Contract of the reference's Contains: one set lies in another.
-/
import Derived.Test.YtkiahnffepbgpaaHyp
import Derived.Test.YtkiahnffepbgpaaRip
namespace Go.Proofs.Ytkiahnffepbgpaa
open Go.RowKit

set_option maxHeartbeats 4000000 in
theorem rcontains_any (x y : Nat) (hx : x < 2 ^ 32) (hy : y < 2 ^ 32) (w : World) :
    Calls Try.prog 49 #[.int .u32 x, .int .u32 y] w fun e w' => ∃ b : Bool, e = .returned (.bool b) ∧ (b = true ↔ sub y x) ∧ w' = w := by
  go_enter Try.func49, Try.ntmps49
  go_wp2_with fail
  go_loop [5] (fun i => ∃ j : Nat, j ≤ 32 ∧ i = .int .i64 j ∧ ∀ v, v < j → y.testBit v = true → x.testBit v = true) (fun i => 32 - (intOf i).toNat)
  case atStart => exact ⟨0, by omega, rfl, fun v h => absurd h (by omega)⟩
  case round =>
    obtain ⟨j, hj, rfl, hv⟩ := hrel
    have HV := Lib.hid hv; clear hv
    by_cases hj2 : j < 32
    · cases hyb : y.testBit j with
      | false =>
        go_wp2_with (go_at_call 33; (first | with_reducible refine (has_any y j hy _).mono ?_ | with_reducible refine (has_any x j hx _).mono ?_); rintro e w' ⟨rfl, rfl⟩)
        refine ⟨⟨j + 1, by omega, by go_num, fun v h1 h2 => ?_⟩, by simp [intOf]; omega⟩
        by_cases hvj : v = j
        · subst hvj; rw [hyb] at h2; cases h2
        · exact HV.out v (by omega) h2
      | true =>
        cases hxb : x.testBit j with
        | false =>
          go_wp2_with (go_at_call 33; (first | with_reducible refine (has_any y j hy _).mono ?_ | with_reducible refine (has_any x j hx _).mono ?_); rintro e w' ⟨rfl, rfl⟩)
          go_ret
          refine ⟨false, rfl, ?_, rfl⟩
          constructor
          · intro h; cases h
          · intro h; have := h j hyb; rw [hxb] at this; cases this
        | true =>
          go_wp2_with (go_at_call 33; (first | with_reducible refine (has_any y j hy _).mono ?_ | with_reducible refine (has_any x j hx _).mono ?_); rintro e w' ⟨rfl, rfl⟩)
          refine ⟨⟨j + 1, by omega, by go_num, fun v h1 h2 => ?_⟩, by simp [intOf]; omega⟩
          by_cases hvj : v = j
          · subst hvj; exact hxb
          · exact HV.out v (by omega) h2
    · go_wp2_with fail
      go_ret
      refine .inr ⟨rfl, ?_, rfl⟩
      intro u hu
      have := testBit_lt hy hu
      exact HV.out u (by omega) hu
end Go.Proofs.Ytkiahnffepbgpaa
