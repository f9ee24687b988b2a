/-
  Contract of the reference's Inside: the place of the first edge that holds the set.
-/
import Derived.Test.YtkiahnffepbgpaaHyp
import Derived.Test.YtkiahnffepbgpaaRip
import Derived.Test.YtkiahnffepbgpaaIns
namespace Go.Proofs.Ytkiahnffepbgpaa
open Go.RowKit

set_option maxHeartbeats 4000000 in
theorem rcontains_any (x y : Nat) (hx : x < 2 ^ 32) (hy : y < 2 ^ 32) (w : World) :
    Calls Try.prog 49 #[.int .u32 x, .int .u32 y] w fun e w' => ∃ b : Bool, e = .returned (.bool b) ∧ (b = true ↔ sub y x) ∧ w' = w := by
  go_enter Try.func49, Try.ntmps49
  go_wp2_with fail
  go_loop [5] (fun i => ∃ j : Nat, j ≤ 32 ∧ i = .int .i64 j ∧ ∀ v, v < j → y.testBit v = true → x.testBit v = true) (fun i => 32 - (intOf i).toNat)
  case atStart => exact ⟨0, by omega, rfl, fun v h => absurd h (by omega)⟩
  case round =>
    obtain ⟨j, hj, rfl, hv⟩ := hrel
    have HV := Lib.hid hv; clear hv
    by_cases hj2 : j < 32
    · cases hyb : y.testBit j with
      | false =>
        go_wp2_with (go_at_call 33; (first | with_reducible refine (has_any y j hy _).mono ?_ | with_reducible refine (has_any x j hx _).mono ?_); rintro e w' ⟨rfl, rfl⟩)
        refine ⟨⟨j + 1, by omega, by go_num, fun v h1 h2 => ?_⟩, by simp [intOf]; omega⟩
        by_cases hvj : v = j
        · subst hvj; rw [hyb] at h2; cases h2
        · exact HV.out v (by omega) h2
      | true =>
        cases hxb : x.testBit j with
        | false =>
          go_wp2_with (go_at_call 33; (first | with_reducible refine (has_any y j hy _).mono ?_ | with_reducible refine (has_any x j hx _).mono ?_); rintro e w' ⟨rfl, rfl⟩)
          go_ret
          refine ⟨false, rfl, ?_, rfl⟩
          constructor
          · intro h; cases h
          · intro h; have := h j hyb; rw [hxb] at this; cases this
        | true =>
          go_wp2_with (go_at_call 33; (first | with_reducible refine (has_any y j hy _).mono ?_ | with_reducible refine (has_any x j hx _).mono ?_); rintro e w' ⟨rfl, rfl⟩)
          refine ⟨⟨j + 1, by omega, by go_num, fun v h1 h2 => ?_⟩, by simp [intOf]; omega⟩
          by_cases hvj : v = j
          · subst hvj; exact hxb
          · exact HV.out v (by omega) h2
    · go_wp2_with fail
      go_ret
      refine .inr ⟨rfl, ?_, rfl⟩
      intro u hu
      have := testBit_lt hy hu
      exact HV.out u (by omega) hu
end Go.Proofs.Ytkiahnffepbgpaa
namespace Go.Proofs.Ytkiahnffepbgpaa
open Go.RowKit

set_option maxHeartbeats 2000000 in
theorem rinside_any (n : Int) (A : Option Addr) (es : List Nat) (len c set : Nat) (w : World) (hr : Es w w.heap.size A len es) (hs : set < 2 ^ 32) :
    Calls Try.prog 31 #[.agg #[.int .i64 n, .slice A len c], .int .u32 set] w fun e w' => e = .returned (.int .i64 (firstAt (holdsB set) es)) ∧ Below w.heap.size w w' := by
  have hle := hr.le
  have HEL := Lib.hid hr.len
  have HR := Lib.hid hr; clear hr
  go_enter Try.func31, Try.ntmps31
  go_wp2_with fail
  go_loop [5] (fun i => ∃ k : Nat, k ≤ len ∧ i = .int .i64 k ∧ Hid (∀ j, j < k → holdsB set (nth es j) = false)) (fun i => len - (intOf i).toNat)
  case atStart => exact ⟨0, Nat.zero_le _, rfl, Lib.hid fun j h => absurd h (by omega)⟩
  case round =>
    obtain ⟨k, hk, rfl, HV⟩ := hrel
    by_cases hlt : k < len
    · obtain ⟨ad, rfl, hb, hcell⟩ := (HR.out.alloc (Nat.le_refl _) (.cells #[.int .i64 n, .slice A len c] 26)).at_ hlt
      have hek : nth es k < 2 ^ 32 := HR.out.lt hlt
      have HH : ∀ W, Calls Try.prog 49 #[.int .u32 (nth es k), .int .u32 set] W fun e w' => e = .returned (.bool (holdsB set (nth es k))) ∧ w' = W := fun W => (rcontains_any (nth es k) set hek hs W).mono (by
        rintro e w' ⟨b, rfl, hbq, rfl⟩
        have hbh : b = holdsB set (nth es k) := by
          unfold holdsB
          rw [Bool.eq_iff_iff, hbq, decide_eq_true_iff]
          exact ⟨andn_of_sub hs hek, sub_of_andn hs hek⟩
        rw [hbh]; exact ⟨rfl, rfl⟩)
      cases hh : holdsB set (nth es k) with
      | false =>
        rw [hh] at HH
        have HHH := Lib.hid HH; clear HH
        have HF := Lib.hid hh; clear hh
        go_wp2_with (go_at_call 49; refine (HHH.out _).mono ?_; rintro e w' ⟨rfl, rfl⟩)
        refine ⟨⟨k + 1, by omega, by go_num, Lib.hid fun j hj => ?_⟩, by simp [intOf]; omega⟩
        by_cases hjk : j = k
        · rw [hjk]; exact HF.out
        · exact HV.out j (by omega)
      | true =>
        rw [hh] at HH
        have HHH := Lib.hid HH; clear HH
        have HF := Lib.hid hh; clear hh
        go_wp2_with (go_at_call 49; refine (HHH.out _).mono ?_; rintro e w' ⟨rfl, rfl⟩)
        go_ret
        refine ⟨?_, (Below.refl _ _).alloc (Nat.le_refl _) _⟩
        rw [firstAt_some (by have := HEL.out; omega) HF.out (fun j hj => HV.out j hj)]
        first | rfl | simp
    · go_wp2_with fail
      go_ret
      have hel := HEL.out
      refine ⟨?_, (Below.refl _ _).alloc (Nat.le_refl _) _⟩
      rw [firstAt_none (fun j hj => HV.out j (by omega))]
      rfl
end Go.Proofs.Ytkiahnffepbgpaa
