/-
  Contract of the reference's Inside: the place of the first edge that holds the set.
-/
import Derived.Test.YtkiahnffepbgpaaRefC
import Derived.Test.YtkiahnffepbgpaaIns
namespace Go.Proofs.Ytkiahnffepbgpaa
open Go.RowKit

set_option maxHeartbeats 2000000 in
theorem rinside_any (n : Int) (A : Option Addr) (es : List Nat) (len c set : Nat) (w : World) (hr : Es w w.heap.size A len es) (hs : set < 2 ^ 32) :
    Calls Try.prog 31 #[.agg #[.int .i64 n, .slice A len c], .int .u32 set] w fun e w' => e = .returned (.int .i64 (firstAt (holdsB set) es)) ∧ Below w.heap.size w w' := by
  have hle := hr.le
  have HEL := Lib.hid hr.len
  have HR := Lib.hid hr; clear hr
  go_enter Try.func31, Try.ntmps31
  go_wp2_with fail
  go_loop [5] (fun i => ∃ k : Nat, k ≤ len ∧ i = .int .i64 k ∧ Hid (∀ j, j < k → holdsB set (nth es j) = false)) (fun i => len - (intOf i).toNat)
  case atStart => exact ⟨0, Nat.zero_le _, rfl, Lib.hid fun j h => absurd h (by omega)⟩
  case round =>
    obtain ⟨k, hk, rfl, HV⟩ := hrel
    by_cases hlt : k < len
    · obtain ⟨ad, rfl, hb, hcell⟩ := (HR.out.alloc (Nat.le_refl _) (.cells #[.int .i64 n, .slice A len c] 26)).at_ hlt
      have hek : nth es k < 2 ^ 32 := HR.out.lt hlt
      have HH : ∀ W, Calls Try.prog 49 #[.int .u32 (nth es k), .int .u32 set] W fun e w' => e = .returned (.bool (holdsB set (nth es k))) ∧ w' = W := fun W => (rcontains_any (nth es k) set hek hs W).mono (by
        rintro e w' ⟨b, rfl, hbq, rfl⟩
        have hbh : b = holdsB set (nth es k) := by
          unfold holdsB
          rw [Bool.eq_iff_iff, hbq, decide_eq_true_iff]
          exact ⟨andn_of_sub hs hek, sub_of_andn hs hek⟩
        rw [hbh]; exact ⟨rfl, rfl⟩)
      cases hh : holdsB set (nth es k) with
      | false =>
        rw [hh] at HH
        have HHH := Lib.hid HH; clear HH
        have HF := Lib.hid hh; clear hh
        go_wp2_with (go_at_call 49; refine (HHH.out _).mono ?_; rintro e w' ⟨rfl, rfl⟩)
        refine ⟨⟨k + 1, by omega, by go_num, Lib.hid fun j hj => ?_⟩, by simp [intOf]; omega⟩
        by_cases hjk : j = k
        · rw [hjk]; exact HF.out
        · exact HV.out j (by omega)
      | true =>
        rw [hh] at HH
        have HHH := Lib.hid HH; clear HH
        have HF := Lib.hid hh; clear hh
        go_wp2_with (go_at_call 49; refine (HHH.out _).mono ?_; rintro e w' ⟨rfl, rfl⟩)
        go_ret
        refine ⟨?_, (Below.refl _ _).alloc (Nat.le_refl _) _⟩
        rw [firstAt_some (by have := HEL.out; omega) HF.out (fun j hj => HV.out j hj)]
        first | rfl | simp
    · go_wp2_with fail
      go_ret
      have hel := HEL.out
      refine ⟨?_, (Below.refl _ _).alloc (Nat.le_refl _) _⟩
      rw [firstAt_none (fun j hj => HV.out j (by omega))]
      rfl
end Go.Proofs.Ytkiahnffepbgpaa
