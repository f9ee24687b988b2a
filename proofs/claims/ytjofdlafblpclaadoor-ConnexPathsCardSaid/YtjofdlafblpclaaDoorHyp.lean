import Derived.Test.YtjofdlafblpclaaDoorBase
import Derived.Test.YtjofdlafblpclaaDoorPlain
namespace Go.Proofs.YtjofdlafblpclaaDoor
open Go.RowKit


set_option maxHeartbeats 400000 in
theorem below_any (n : Nat) (hn : n ≤ 32) (w : World) :
    Calls Tryd.prog 46 #[.int .i64 n] w fun e w' => e = .returned (.int .u32 ((2^n - 1 : Nat) : Int)) ∧ w = w' := by
  go_enter Tryd.func46, Tryd.ntmps46
  go_wp2_with fail
  go_ret
  exact ⟨ret_int (below_val n hn), rfl⟩

set_option maxHeartbeats 400000 in
theorem check_any (n : Int) (A : Option Addr) (es : List Nat) (len c : Nat) (w : World) (hr : Es w w.heap.size A len es) :
    Calls Tryd.prog 25 #[.agg #[.int .i64 n, .slice A len c]] w fun e w' => e = .returned (.int .i64 (checkCode n es)) ∧ Below w.heap.size w w' := by
  have hle := hr.le
  have HR := Lib.hid hr; clear hr
  by_cases h0 : n < 0
  · go_enter Tryd.func25, Tryd.ntmps25
    go_wp2_with fail
    go_ret
    exact ⟨ret_int (by simp [checkCode, h0]), (Below.refl _ _).alloc (Nat.le_refl _) _⟩
  by_cases h1 : 32 < n
  · go_enter Tryd.func25, Tryd.ntmps25
    go_wp2_with fail
    go_ret
    exact ⟨ret_int (by simp [checkCode, h1]), (Below.refl _ _).alloc (Nat.le_refl _) _⟩
  obtain ⟨n, rfl⟩ := Int.eq_ofNat_of_zero_le (show 0 ≤ n by omega)
  by_cases h2 : 64 < len
  · go_enter Tryd.func25, Tryd.ntmps25
    go_wp2_with fail
    go_ret
    exact ⟨ret_int (by rw [checkCode, if_neg (by omega), if_pos (by rw [← HR.out.len]; omega)]), (Below.refl _ _).alloc (Nat.le_refl _) _⟩
  go_enter Tryd.func25, Tryd.ntmps25
  go_wp2_with fail
  go_loop [4, 20] (fun _ i => ∃ k : Nat, k ≤ len ∧ i = .int .i64 k ∧ (es.take k).all (fun e => decide (e < 2 ^ n)) = true) (fun _ i => len - (intOf i).toNat)
  case atStart => exact ⟨0, Nat.zero_le _, rfl, rfl⟩
  case round =>
    obtain ⟨k, hk, rfl, ha⟩ := hrel
    have HA := Lib.hid ha; clear ha
    by_cases hlt : k < len
    · obtain ⟨ad, rfl, hb, hcell⟩ := (HR.out.alloc (Nat.le_refl _) (.cells #[.int .i64 n, .slice A len c] 24)).at_ hlt
      have hlk : k < es.length := by have := HR.out.len; omega
      have hek := Lib.hid (HR.out.lt hlt)
      have hst := Lib.hid (all_take_succ (fun e => decide (e < 2 ^ n)) es k hlk)
      have hte := Lib.hid (check_test (n := n) (by omega) hek.out)
      go_wp2_with (go_at_call 46; refine (below_any n (by omega) _).mono ?_; rintro e w' ⟨rfl, rfl⟩)
      · go_ret
        refine ⟨ret_int ?_, (Below.refl _ _).alloc (Nat.le_refl _) _⟩
        have ht : (bits .andNot .u32 (nth es k : Int) ((2 ^ n - 1 : Nat) : Int) != 0) = true := by assumption
        rw [hte.out] at ht
        rw [checkCode, if_neg (by omega), if_neg (by have := HR.out.len; omega), if_neg]
        intro hall
        have := List.all_eq_true.1 hall _ (nth_mem hlk)
        simp at ht this
        omega
      · have ht : (bits .andNot .u32 (nth es k : Int) ((2 ^ n - 1 : Nat) : Int) != 0) = false := by assumption
        rw [hte.out] at ht
        refine ⟨⟨k + 1, by omega, by go_num, ?_⟩, by simp [intOf]; omega⟩
        rw [hst.out, HA.out]
        simpa using ht
    · go_wp2_with fail
      go_ret
      exact ⟨ret_int (by
        have := HR.out.len
        obtain rfl : k = len := by omega
        have := HA.out
        rw [List.take_of_length_le (by omega)] at this
        simp [checkCode, this]; omega), (Below.refl _ _).alloc (Nat.le_refl _) _⟩

end Go.Proofs.YtjofdlafblpclaaDoor
