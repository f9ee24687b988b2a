/-
  Contract of slices.Equal at int.
-/
import Derived.Test.YtjofdlafblpclaaDoorCmpL
namespace Go.Proofs.YtjofdlafblpclaaDoor
open Go.RowKit
set_option maxHeartbeats 2000000 in
theorem equal_int (A B : Option Addr) (xs ys : List Int) (n m c d : Nat) (w : World) (hx : Xs w w.heap.size A n xs) (hy : Xs w w.heap.size B m ys) :
    Calls Tryd.prog 18 #[.slice A n c, .slice B m d] w fun e w' => e = .returned (.bool (xs == ys)) ∧ Below w.heap.size w w' := by
  have hle := hx.le
  have hle2 := hy.le
  have HX := Lib.hid hx; clear hx
  have HY := Lib.hid hy; clear hy
  by_cases hnm : n = m
  · have hbq : ((n : Int) != (m : Int)) = false := by simp [hnm]
    have hm := Lib.hid hnm; clear hnm
    go_enter Tryd.func18, Tryd.ntmps18
    go_wp2_with fail
    go_loopw [5, 13] (fun _ i wr => ∃ k : Nat, k ≤ n ∧ i = .int .i64 k ∧ xs.take k = ys.take k ∧ Below w.heap.size w wr) (fun _ i _ => n - (intOf i).toNat)
    case atStart => exact ⟨0, Nat.zero_le _, rfl, rfl, Below.refl _ _⟩
    case round =>
      obtain ⟨k, hk, rfl, ha, hbl⟩ := hrel
      have HA := Lib.hid ha; clear ha
      by_cases hlt : k < n
      · have hlt2 : k < m := by have := hm.out; omega
        obtain ⟨ad, rfl, hb1, hcell⟩ := (HX.out.below hbl).at_ hlt
        obtain ⟨ad2, rfl, hb2, hcell2⟩ := (HY.out.below hbl).at_ hlt2
        go_wp2_with fail
        go_quiet (fail)
        go_wp2_with fail
        · go_ret
          have ht : ((inth xs k : Int) != (inth ys k : Int)) = true := by assumption
          refine ⟨ret_bool ?_, below_drewN hbl _⟩
          have : xs ≠ ys := by
            rintro rfl
            simp at ht
          simp [this]
        · have ht : ((inth xs k : Int) != (inth ys k : Int)) = false := by assumption
          refine ⟨⟨k + 1, by omega, by go_num, ?_, below_drewN hbl _⟩, by simp [intOf]; omega⟩
          have h1 := HX.out.len
          have h2 := HY.out.len
          rw [List.take_succ_eq_append_getElem (by omega), List.take_succ_eq_append_getElem (by omega), HA.out, ← inth_eq (by omega), ← inth_eq (by omega)]
          have : inth xs k = inth ys k := by
            simp at ht
            omega
          rw [this]
      · go_wp2_with fail
        go_ret
        refine ⟨ret_bool ?_, hbl⟩
        have h1 := HX.out.len
        have h2 := HY.out.len
        have h3 := HA.out
        have h4 := hm.out
        rw [List.take_of_length_le (by omega), List.take_of_length_le (by omega)] at h3
        simp [h3]
  · have hbq : ((n : Int) != (m : Int)) = true := by simp; omega
    go_enter Tryd.func18, Tryd.ntmps18
    go_wp2_with fail
    go_ret
    refine ⟨ret_bool ?_, Below.refl _ _⟩
    have h1 := HX.out.len
    have h2 := HY.out.len
    have : xs ≠ ys := by
      rintro rfl
      omega
    simp [this]

end Go.Proofs.YtjofdlafblpclaaDoor
