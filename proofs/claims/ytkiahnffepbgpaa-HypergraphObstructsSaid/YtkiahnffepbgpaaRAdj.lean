/-
  Contract of the reference's Adjacent.
-/
import Derived.Test.YtkiahnffepbgpaaAdj
import Derived.Test.YtkiahnffepbgpaaTrioP
namespace Go.Proofs.Ytkiahnffepbgpaa
open Go.RowKit

theorem any_take_succ (p : Nat → Bool) (l : List Nat) (k : Nat) (h : k < l.length) : (l.take (k + 1)).any p = ((l.take k).any p || p (nth l k)) := by
  rw [List.take_succ_eq_append_getElem h, List.any_append, nth_eq h]; simp

set_option maxHeartbeats 1000000 in
theorem adjacent_any (n : Int) (a b : Nat) (A : Option Addr) (es : List Nat) (len c : Nat) (w : World) (hr : Es w w.heap.size A len es) :
    Calls Try.prog 45 #[.agg #[.int .i64 n, .slice A len c], .int .i64 a, .int .i64 b] w fun e w' => e = .returned (.bool (adjB es a b)) ∧ Below w.heap.size w w' := by
  have hle := hr.le
  have hlen := hr.len
  have HLEN := Lib.hid hlen; clear hlen
  have HR := Lib.hid hr; clear hr
  by_cases hab : a = b
  · have hne : ((a : Int) != (b : Int)) = false := by simp [hab]
    have HAB := Lib.hid hab; clear hab
    go_enter Try.func45, Try.ntmps45
    go_wp2_with fail
    go_loop [7] (fun i => ∃ k : Nat, k ≤ len ∧ i = .int .i64 k) (fun i => len - (intOf i).toNat)
    case atStart => exact ⟨0, Nat.zero_le _, rfl⟩
    case round =>
      obtain ⟨k, hk, rfl⟩ := hrel
      by_cases hlt : k < len
      · go_wp2_with fail
        exact ⟨⟨k + 1, by omega, by go_num⟩, by simp [intOf]; omega⟩
      · go_wp2_with fail
        go_ret
        exact ⟨ret_bool (by simp [adjB, HAB.out]), al _ _⟩
  · have hne : ((a : Int) != (b : Int)) = true := by simp; omega
    have HAB := Lib.hid hab; clear hab
    go_enter Try.func45, Try.ntmps45
    go_wp2_with fail
    go_loop [7] (fun i => ∃ k : Nat, k ≤ len ∧ i = .int .i64 k ∧ Hid ((es.take k).any (fun e => e.testBit a && e.testBit b) = false)) (fun i => len - (intOf i).toNat)
    case atStart => exact ⟨0, Nat.zero_le _, rfl, Lib.hid rfl⟩
    case round =>
      obtain ⟨k, hk, rfl, HI⟩ := hrel
      by_cases hlt : k < len
      · obtain ⟨ad, rfl, hb, hcell⟩ := (HR.out.alloc (Nat.le_refl _) (.cells #[.int .i64 n, .slice A len c] 26)).at_ hlt
        have hlk : k < es.length := by have := HLEN.out; omega
        have hek := Lib.hid (HR.out.lt hlt)
        have hst := Lib.hid (any_take_succ (fun e => e.testBit a && e.testBit b) es k hlk)
        cases ha : (nth es k).testBit a with
        | false =>
          have HA := Lib.hid ha; clear ha
          go_wp2_with fail
          refine (has_any _ a hek.out _).mono ?_
          rintro e w' ⟨rfl, rfl⟩
          rw [HA.out]
          go_wp2_with fail
          exact ⟨⟨k + 1, by omega, by go_num, Lib.hid (by rw [hst.out, HI.out, HA.out]; rfl)⟩, by simp [intOf]; omega⟩
        | true =>
          have HA := Lib.hid ha; clear ha
          go_wp2_with fail
          refine (has_any _ a hek.out _).mono ?_
          rintro e w' ⟨rfl, rfl⟩
          rw [HA.out]
          go_wp2_with fail
          refine (has_any _ b hek.out _).mono ?_
          rintro e w' ⟨rfl, rfl⟩
          cases hb2 : (nth es k).testBit b with
          | false =>
            have HB2 := Lib.hid hb2; clear hb2
            go_wp2_with fail
            exact ⟨⟨k + 1, by omega, by go_num, Lib.hid (by rw [hst.out, HI.out, HA.out, HB2.out]; rfl)⟩, by simp [intOf]; omega⟩
          | true =>
            have HB2 := Lib.hid hb2; clear hb2
            go_wp2_with fail
            go_ret
            refine ⟨ret_bool ?_, al _ _⟩
            have : es.any (fun e => e.testBit a && e.testBit b) = true := by
              rw [List.any_eq_true]
              exact ⟨_, nth_mem hlk, by rw [HA.out, HB2.out]; rfl⟩
            simp [adjB, HAB.out, this]
      · go_wp2_with fail
        go_ret
        refine ⟨ret_bool ?_, al _ _⟩
        have h1 := HI.out
        rw [List.take_of_length_le (by have := HLEN.out; omega)] at h1
        simp [adjB, h1]

end Go.Proofs.Ytkiahnffepbgpaa
