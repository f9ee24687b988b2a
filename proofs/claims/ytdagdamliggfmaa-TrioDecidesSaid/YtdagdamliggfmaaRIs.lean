/-
  Contracts of the reference's Adjacent, Is and All (trios), and of slices.Equal at trios.
-/
import Derived.Test.YtdagdamliggfmaaChk
namespace Go.Proofs.Ytdagdamliggfmaa
open Go.RowKit

theorem any_take_succ (p : Nat → Bool) (l : List Nat) (k : Nat) (h : k < l.length) : (l.take (k + 1)).any p = ((l.take k).any p || p (nth l k)) := by
  rw [List.take_succ_eq_append_getElem h, List.any_append, nth_eq h]; simp

set_option maxHeartbeats 1000000 in
theorem adjacent_any (n : Int) (a b : Nat) (A : Option Addr) (es : List Nat) (len c : Nat) (w : World) (hr : Es w w.heap.size A len es) :
    Calls Try.prog 39 #[.agg #[.int .i64 n, .slice A len c], .int .i64 a, .int .i64 b] w fun e w' => e = .returned (.bool (adjB es a b)) ∧ Below w.heap.size w w' := by
  have hle := hr.le
  have hlen := hr.len
  have HLEN := Lib.hid hlen; clear hlen
  have HR := Lib.hid hr; clear hr
  by_cases hab : a = b
  · have hne : ((a : Int) != (b : Int)) = false := by simp [hab]
    have HAB := Lib.hid hab; clear hab
    go_enter Try.func39, Try.ntmps39
    go_wp2_with fail
    go_loop [7] (fun i => ∃ k : Nat, k ≤ len ∧ i = .int .i64 k) (fun i => len - (intOf i).toNat)
    case atStart => exact ⟨0, Nat.zero_le _, rfl⟩
    case round =>
      obtain ⟨k, hk, rfl⟩ := hrel
      by_cases hlt : k < len
      · go_wp2_with fail
        exact ⟨⟨k + 1, by omega, by go_num⟩, by simp [intOf]; omega⟩
      · go_wp2_with fail
        go_ret
        exact ⟨ret_bool (by simp [adjB, HAB.out]), al _ _⟩
  · have hne : ((a : Int) != (b : Int)) = true := by simp; omega
    have HAB := Lib.hid hab; clear hab
    go_enter Try.func39, Try.ntmps39
    go_wp2_with fail
    go_loop [7] (fun i => ∃ k : Nat, k ≤ len ∧ i = .int .i64 k ∧ Hid ((es.take k).any (fun e => e.testBit a && e.testBit b) = false)) (fun i => len - (intOf i).toNat)
    case atStart => exact ⟨0, Nat.zero_le _, rfl, Lib.hid rfl⟩
    case round =>
      obtain ⟨k, hk, rfl, HI⟩ := hrel
      by_cases hlt : k < len
      · obtain ⟨ad, rfl, hb, hcell⟩ := (HR.out.alloc (Nat.le_refl _) (.cells #[.int .i64 n, .slice A len c] 31)).at_ hlt
        have hlk : k < es.length := by have := HLEN.out; omega
        have hek := Lib.hid (HR.out.lt hlt)
        have hst := Lib.hid (any_take_succ (fun e => e.testBit a && e.testBit b) es k hlk)
        cases ha : (nth es k).testBit a with
        | false =>
          have HA := Lib.hid ha; clear ha
          go_wp2_with fail
          refine (has_any _ a hek.out _).mono ?_
          rintro e w' ⟨rfl, rfl⟩
          rw [HA.out]
          go_wp2_with fail
          exact ⟨⟨k + 1, by omega, by go_num, Lib.hid (by rw [hst.out, HI.out, HA.out]; rfl)⟩, by simp [intOf]; omega⟩
        | true =>
          have HA := Lib.hid ha; clear ha
          go_wp2_with fail
          refine (has_any _ a hek.out _).mono ?_
          rintro e w' ⟨rfl, rfl⟩
          rw [HA.out]
          go_wp2_with fail
          refine (has_any _ b hek.out _).mono ?_
          rintro e w' ⟨rfl, rfl⟩
          cases hb2 : (nth es k).testBit b with
          | false =>
            have HB2 := Lib.hid hb2; clear hb2
            go_wp2_with fail
            exact ⟨⟨k + 1, by omega, by go_num, Lib.hid (by rw [hst.out, HI.out, HA.out, HB2.out]; rfl)⟩, by simp [intOf]; omega⟩
          | true =>
            have HB2 := Lib.hid hb2; clear hb2
            go_wp2_with fail
            go_ret
            refine ⟨ret_bool ?_, al _ _⟩
            have : es.any (fun e => e.testBit a && e.testBit b) = true := by
              rw [List.any_eq_true]
              exact ⟨_, nth_mem hlk, by rw [HA.out, HB2.out]; rfl⟩
            simp [adjB, HAB.out, this]
      · go_wp2_with fail
        go_ret
        refine ⟨ret_bool ?_, al _ _⟩
        have h1 := HI.out
        rw [List.take_of_length_le (by have := HLEN.out; omega)] at h1
        simp [adjB, h1]

/-- What Is answers. -/
def rIsB (es : List Nat) (v a b c : Int) : Bool := decide (0 ≤ a ∧ a < b ∧ b < c ∧ c < v) && isT es v.toNat a.toNat b.toNat c.toNat

set_option maxHeartbeats 1000000 in
theorem ris_bad (n v x y z : Int) (A : Option Addr) (len c : Nat) (w : World) (h : x < 0 ∨ y ≤ x ∨ z ≤ y ∨ v ≤ z) :
    Calls Try.prog 21 #[.agg #[.int .i64 n, .slice A len c], .int .i64 v, .int .i64 x, .int .i64 y, .int .i64 z] w fun e w' => e = .returned (.bool false) ∧ Below w.heap.size w w' := by
  have h : x < 0 ∨ (0 ≤ x ∧ y ≤ x) ∨ (0 ≤ x ∧ x < y ∧ z ≤ y) ∨ (0 ≤ x ∧ x < y ∧ y < z ∧ v ≤ z) := by omega
  rcases h with h | ⟨h0, h⟩ | ⟨h0, h1, h⟩ | ⟨h0, h1, h2, h⟩
  all_goals
    go_enter Try.func21, Try.ntmps21
    go_wp2_with fail
    go_ret
    exact ⟨rfl, al _ _⟩

set_option maxHeartbeats 1000000 in
theorem ris_ok (n : Int) (v x y z : Nat) (A : Option Addr) (es : List Nat) (len c : Nat) (w : World) (hr : Es w w.heap.size A len es) (h1 : x < y) (h2 : y < z) (h3 : z < v) :
    Calls Try.prog 21 #[.agg #[.int .i64 n, .slice A len c], .int .i64 v, .int .i64 x, .int .i64 y, .int .i64 z] w fun e w' => e = .returned (.bool (isT es v x y z)) ∧ Below w.heap.size w w' := by
  have HR := Lib.hid hr; clear hr
  have HT := Lib.hid (show isT es v x y z = (adjB es x z && (adjB es y z && !adjB es x y)) by simp [isT, h1, h2, h3])
  have B0 := Lib.hid (GB.made w 31 (.int .i64 n) (.slice A len c))
  have HW := Lib.hid (al w (.cells #[.int .i64 n, .slice A len c] 31))
  cases hac : adjB es x z with
  | false =>
    have HAC := Lib.hid hac; clear hac
    go_enter Try.func21, Try.ntmps21
    go_wp2_with fail
    refine (adjacent_any n x z A es len c _ (HR.out.new HW.out)).mono ?_
    rintro e w1 ⟨rfl, hb⟩
    rw [HAC.out]
    have HB := Lib.hid (bthen HW.out hb (by simp)); clear hb
    go_wp2_with fail
    go_ret
    exact ⟨ret_bool (by rw [HT.out, HAC.out]; rfl), HB.out⟩
  | true =>
    have HAC := Lib.hid hac; clear hac
    go_enter Try.func21, Try.ntmps21
    go_wp2_with fail
    refine (adjacent_any n x z A es len c _ (HR.out.new HW.out)).mono ?_
    rintro e w1 ⟨rfl, hb⟩
    rw [HAC.out]
    have HB := Lib.hid (bthen HW.out hb (by simp))
    have B1 := Lib.hid (B0.out.new hb); clear hb
    have g0 := B1.out.c0
    have g1 := B1.out.c1
    go_wp2_with fail
    refine (adjacent_any n y z A es len c _ (HR.out.new HB.out)).mono ?_
    rintro e w2 ⟨rfl, hb⟩
    have HB2 := Lib.hid (bthen HB.out hb HB.out.size)
    have B2 := Lib.hid (B1.out.new hb); clear hb g0 g1
    cases hbc : adjB es y z with
    | false =>
      have HBC := Lib.hid hbc; clear hbc
      go_wp2_with fail
      go_ret
      exact ⟨ret_bool (by rw [HT.out, HAC.out, HBC.out]; rfl), HB2.out⟩
    | true =>
      have HBC := Lib.hid hbc; clear hbc
      have g0 := B2.out.c0
      have g1 := B2.out.c1
      go_wp2_with fail
      refine (adjacent_any n x y A es len c _ (HR.out.new HB2.out)).mono ?_
      rintro e w3 ⟨rfl, hb⟩
      have HB3 := Lib.hid (bthen HB2.out hb HB2.out.size); clear hb g0 g1
      go_wp2_with fail
      go_ret
      exact ⟨ret_bool (by rw [HT.out, HAC.out, HBC.out]; simp), HB3.out⟩

theorem ris_any (n v x y z : Int) (A : Option Addr) (es : List Nat) (len c : Nat) (w : World) (hr : Es w w.heap.size A len es) :
    Calls Try.prog 21 #[.agg #[.int .i64 n, .slice A len c], .int .i64 v, .int .i64 x, .int .i64 y, .int .i64 z] w fun e w' => e = .returned (.bool (rIsB es v x y z)) ∧ Below w.heap.size w w' := by
  by_cases h : 0 ≤ x ∧ x < y ∧ y < z ∧ z < v
  · obtain ⟨h0, h1, h2, h3⟩ := h
    obtain ⟨x, rfl⟩ := Int.eq_ofNat_of_zero_le h0
    obtain ⟨y, rfl⟩ := Int.eq_ofNat_of_zero_le (show 0 ≤ y by omega)
    obtain ⟨z, rfl⟩ := Int.eq_ofNat_of_zero_le (show 0 ≤ z by omega)
    obtain ⟨v, rfl⟩ := Int.eq_ofNat_of_zero_le (show 0 ≤ v by omega)
    refine (ris_ok n v x y z A es len c w hr (by omega) (by omega) (by omega)).mono ?_
    rintro e w' ⟨rfl, hb⟩
    refine ⟨ret_bool ?_, hb⟩
    have : decide ((0:Int) ≤ x ∧ (x:Int) < y ∧ (y:Int) < z ∧ (z:Int) < v) = true := decide_eq_true ⟨h0, h1, h2, h3⟩
    rw [rIsB, this]; simp
  · have : rIsB es v x y z = false := by simp only [rIsB, h, decide_false, Bool.false_and]
    rw [this]
    exact ris_bad n v x y z A len c w (by omega)
end Go.Proofs.Ytdagdamliggfmaa
