/-
  Contracts of reference functions and of slices.Equal.
-/
import Derived.Test.YtkiahnffepbgpaaHyp
namespace Go.Proofs.Ytkiahnffepbgpaa
open Go.RowKit

set_option maxHeartbeats 400000 in
theorem rcheck_any (n : Int) (A : Option Addr) (es : List Nat) (len c : Nat) (w : World) (hr : Es w w.heap.size A len es) :
    Calls Try.prog 9 #[.agg #[.int .i64 n, .slice A len c]] w fun e w' => e = .returned (.int .i64 (checkCode n es)) ∧ Below w.heap.size w w' := by
  have hle := hr.le
  have HR := Lib.hid hr; clear hr
  by_cases h0 : n < 0
  · go_enter Try.func9, Try.ntmps9
    go_wp2_with fail
    go_ret
    exact ⟨ret_int (by simp [checkCode, h0]), (Below.refl _ _).alloc (Nat.le_refl _) _⟩
  by_cases h1 : 32 < n
  · go_enter Try.func9, Try.ntmps9
    go_wp2_with fail
    go_ret
    exact ⟨ret_int (by simp [checkCode, h1]), (Below.refl _ _).alloc (Nat.le_refl _) _⟩
  obtain ⟨n, rfl⟩ := Int.eq_ofNat_of_zero_le (show 0 ≤ n by omega)
  by_cases h2 : 64 < len
  · go_enter Try.func9, Try.ntmps9
    go_wp2_with fail
    go_ret
    exact ⟨ret_int (by rw [checkCode, if_neg (by omega), if_pos (by rw [← HR.out.len]; omega)]), (Below.refl _ _).alloc (Nat.le_refl _) _⟩
  go_enter Try.func9, Try.ntmps9
  go_wp2_with fail
  go_loop [3, 4] (fun i _ => ∃ k : Nat, k ≤ len ∧ i = .int .i64 k ∧ (es.take k).all (fun e => decide (e < 2 ^ n)) = true) (fun i _ => len - (intOf i).toNat)
  case atStart => exact ⟨0, Nat.zero_le _, rfl, rfl⟩
  case round =>
    obtain ⟨k, hk, rfl, ha⟩ := hrel
    have HA := Lib.hid ha; clear ha
    by_cases hlt : k < len
    · obtain ⟨ad, rfl, hb, hcell⟩ := (HR.out.alloc (Nat.le_refl _) (.cells #[.int .i64 n, .slice A len c] 26)).at_ hlt
      have hlk : k < es.length := by have := HR.out.len; omega
      have hek := HR.out.lt hlt
      have hst := Lib.hid (all_take_succ (fun e => decide (e < 2 ^ n)) es k hlk)
      go_wp2_with fail
      go_loop [4] (fun i => ∃ j : Nat, n ≤ j ∧ j ≤ 32 ∧ i = .int .i64 j ∧ ∀ v, n ≤ v → v < j → (nth es k).testBit v = false) (fun i => 32 - (intOf i).toNat)
      case atStart => exact ⟨n, by omega, by omega, rfl, fun v h1 h2 => absurd h2 (by omega)⟩
      case round =>
        obtain ⟨j, hnj, hj, rfl, hv⟩ := hrel
        have HV := Lib.hid hv; clear hv
        by_cases hj2 : j < 32
        · by_cases hbit : (nth es k).testBit j = true
          · go_wp2_with (go_at_call 33; refine (has_any (nth es k) j hek _).mono ?_; rintro e w' ⟨rfl, rfl⟩)
            go_ret
            refine ⟨ret_int ?_, (Below.refl _ _).alloc (Nat.le_refl _) _⟩
            rw [checkCode, if_neg (by omega), if_neg (by have := HR.out.len; omega), if_neg]
            intro hall
            have h3 := List.all_eq_true.1 hall _ (nth_mem hlk)
            simp only [Int.toNat_natCast, decide_eq_true_eq] at h3
            rw [lt_pow_iff hek] at h3
            rw [h3 j hnj hj2] at hbit
            cases hbit
          · have hb2 : (nth es k).testBit j = false := by simpa using hbit
            clear hbit
            go_wp2_with (go_at_call 33; refine (has_any (nth es k) j hek _).mono ?_; rintro e w' ⟨rfl, rfl⟩)
            refine ⟨⟨j + 1, by omega, by omega, by go_num, fun v h1 h2 => ?_⟩, by simp [intOf]; omega⟩
            by_cases hvj : v = j
            · rw [hvj]; exact hb2
            · exact HV.out v h1 (by omega)
        · go_wp2_with fail
          refine ⟨⟨k + 1, by omega, by go_num, ?_⟩, by simp [intOf]; omega⟩
          rw [hst.out, HA.out]
          simp only [Bool.true_and, decide_eq_true_eq]
          rw [lt_pow_iff hek]
          intro v h1 h2
          exact HV.out v h1 (by omega)
    · go_wp2_with fail
      go_ret
      exact ⟨ret_int (by
        have := HR.out.len
        obtain rfl : k = len := by omega
        have := HA.out
        rw [List.take_of_length_le (by omega)] at this
        simp [checkCode, this]; omega), (Below.refl _ _).alloc (Nat.le_refl _) _⟩

set_option maxHeartbeats 400000 in
theorem equal_u32 (A B : Option Addr) (xs ys : List Nat) (n m c d : Nat) (w : World) (hx : Es w w.heap.size A n xs) (hy : Es w w.heap.size B m ys) :
    Calls Try.prog 14 #[.slice A n c, .slice B m d] w fun e w' => e = .returned (.bool (xs == ys)) ∧ Below w.heap.size w w' := by
  have hle := hx.le
  have hle2 := hy.le
  have HX := Lib.hid hx; clear hx
  have HY := Lib.hid hy; clear hy
  by_cases hnm : n = m
  · have hbq : ((n : Int) != (m : Int)) = false := by simp [hnm]
    have hm := Lib.hid hnm; clear hnm
    go_enter Try.func14, Try.ntmps14
    go_wp2_with fail
    go_loopw [5, 13] (fun _ i wr => ∃ k : Nat, k ≤ n ∧ i = .int .i64 k ∧ xs.take k = ys.take k ∧ Below w.heap.size w wr) (fun _ i _ => n - (intOf i).toNat)
    case atStart => exact ⟨0, Nat.zero_le _, rfl, rfl, Below.refl _ _⟩
    case round =>
      obtain ⟨k, hk, rfl, ha, hbl⟩ := hrel
      have HA := Lib.hid ha; clear ha
      by_cases hlt : k < n
      · have hlt2 : k < m := by have := hm.out; omega
        obtain ⟨ad, rfl, hb1, hcell⟩ := (HX.out.below hbl).at_ hlt
        obtain ⟨ad2, rfl, hb2, hcell2⟩ := (HY.out.below hbl).at_ hlt2
        go_wp2_with fail
        go_quiet (fail)
        go_wp2_with fail
        · go_ret
          have ht : ((nth xs k : Int) != (nth ys k : Int)) = true := by assumption
          refine ⟨ret_bool ?_, below_drewN hbl _⟩
          have : xs ≠ ys := by
            rintro rfl
            simp at ht
          simp [this]
        · have ht : ((nth xs k : Int) != (nth ys k : Int)) = false := by assumption
          refine ⟨⟨k + 1, by omega, by go_num, ?_, below_drewN hbl _⟩, by simp [intOf]; omega⟩
          have h1 := HX.out.len
          have h2 := HY.out.len
          rw [List.take_succ_eq_append_getElem (by omega), List.take_succ_eq_append_getElem (by omega), HA.out, ← nth_eq (by omega), ← nth_eq (by omega)]
          have : nth xs k = nth ys k := by
            simp at ht
            omega
          rw [this]
      · go_wp2_with fail
        go_ret
        refine ⟨ret_bool ?_, hbl⟩
        have h1 := HX.out.len
        have h2 := HY.out.len
        have h3 := HA.out
        have h4 := hm.out
        rw [List.take_of_length_le (by omega), List.take_of_length_le (by omega)] at h3
        simp [h3]
  · have hbq : ((n : Int) != (m : Int)) = true := by simp; omega
    go_enter Try.func14, Try.ntmps14
    go_wp2_with fail
    go_ret
    refine ⟨ret_bool ?_, Below.refl _ _⟩
    have h1 := HX.out.len
    have h2 := HY.out.len
    have : xs ≠ ys := by
      rintro rfl
      omega
    simp [this]

set_option maxHeartbeats 400000 in
theorem of_any (n : Int) (A : Option Addr) (len c : Nat) (w : World) :
    Calls Try.prog 10 #[.agg #[.int .i64 n, .slice A len c]] w fun e w' => e = .returned (.agg #[.int .i64 n, .slice A len c]) ∧ Below w.heap.size w w' := by
  go_enter Try.func10, Try.ntmps10
  go_wp2_with fail
  refine bodyPost_ret (v := .agg #[.int .i64 n, .slice A len c]) (by simp [results, Try.results10, go_sem]) rfl ⟨rfl, ?_⟩
  exact ((Below.refl _ _).alloc (Nat.le_refl _) _).alloc (by simp) _

end Go.Proofs.Ytkiahnffepbgpaa
