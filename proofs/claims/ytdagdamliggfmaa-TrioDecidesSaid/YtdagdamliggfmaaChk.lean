/-
  Contracts of trio.Check, the reference's Adjacent, Is, All, and slices.Equal of trios.
-/
import Derived.Test.YtdagdamliggfmaaTs
namespace Go.Proofs.Ytdagdamliggfmaa
open Go.RowKit

/-- What Check answers. -/
def chkB (n : Int) (es : List Nat) (v a b c : Int) : Bool := decide (validB n es v = true ∧ 0 ≤ a ∧ a < b ∧ b < c ∧ c < v) && isT es v.toNat a.toNat b.toNat c.toNat
theorem chkB_bad {n : Int} {es : List Nat} {v a b c : Int} (h : ¬ (validB n es v = true ∧ 0 ≤ a ∧ a < b ∧ b < c ∧ c < v)) : chkB n es v a b c = false := by
  simp only [chkB, h, decide_false, Bool.false_and]

set_option maxHeartbeats 1000000 in
theorem tcheck_bad (n v x y z : Int) (A : Option Addr) (es : List Nat) (len c : Nat) (w : World) (hr : Es w w.heap.size A len es) (h : validB n es v = false ∨ x < 0 ∨ y ≤ x ∨ z ≤ y ∨ v ≤ z) :
    Calls Try.prog 18 #[.agg #[.int .i64 n, .slice A len c], .int .i64 v, .agg #[.int .i64 x, .int .i64 y, .int .i64 z]] w fun e w' => e = .returned (.bool false) ∧ Below w.heap.size w w' := by
  have HR := Lib.hid hr; clear hr
  cases hv : validB n es v with
  | false =>
    clear h
    have HV := Lib.hid hv; clear hv
    go_enter Try.func18, Try.ntmps18
    go_wp2_with fail
    refine (valid_any n v A es len c _ (HR.out.new ((al _ _).alloc (by simp) _))).mono ?_
    rintro e w1 ⟨rfl, hb⟩
    rw [HV.out]
    have HB := Lib.hid hb; clear hb
    go_wp2_with fail
    go_ret
    exact ⟨rfl, ((al _ _).alloc (by simp) _).trans (HB.out.mono (by simp; omega))⟩
  | true =>
    have h : x < 0 ∨ (0 ≤ x ∧ y ≤ x) ∨ (0 ≤ x ∧ x < y ∧ z ≤ y) ∨ (0 ≤ x ∧ x < y ∧ y < z ∧ v ≤ z) := by rw [hv] at h; simp at h; omega
    have HV := Lib.hid hv; clear hv
    have b1 : Blk ((w.alloc (.cells #[.int .i64 n, .slice A len c] 24)).alloc (.cells #[.int .i64 x, .int .i64 y, .int .i64 z] 40)) (w.heap.size + 1) 40 #[.int .i64 x, .int .i64 y, .int .i64 z] := by
      have h := Blk.new (w.alloc (.cells #[.int .i64 n, .slice A len c] 24)) 40 #[.int .i64 x, .int .i64 y, .int .i64 z]
      rw [World.size_alloc] at h; exact h
    have B1 := Lib.hid b1; clear b1
    rcases h with h | ⟨h0, h⟩ | ⟨h0, h1, h⟩ | ⟨h0, h1, h2, h⟩
    all_goals
      go_enter Try.func18, Try.ntmps18
      go_wp2_with fail
      refine (valid_any n v A es len c _ (HR.out.new ((al _ _).alloc (by simp) _))).mono ?_
      rintro e w1 ⟨rfl, hb⟩
      rw [HV.out]
      have hb1 := B1.out.below hb B1.out.lt
      have k0 : w1.cell? ⟨w.heap.size + 1, 0, none⟩ = some (.int .i64 x) := (hb1.cell 0).trans rfl
      have k1 : w1.cell? ⟨w.heap.size + 1, 1, none⟩ = some (.int .i64 y) := (hb1.cell 1).trans rfl
      have k2 : w1.cell? ⟨w.heap.size + 1, 2, none⟩ = some (.int .i64 z) := (hb1.cell 2).trans rfl
      have HB := Lib.hid hb; clear hb hb1
      go_wp2_with fail
      go_ret
      exact ⟨rfl, ((al _ _).alloc (by simp) _).trans (HB.out.mono (by simp; omega))⟩

set_option maxHeartbeats 1000000 in
theorem tcheck_ok (n v x y z : Nat) (A : Option Addr) (es : List Nat) (len c : Nat) (w : World) (hr : Es w w.heap.size A len es) (hv : validB n es v = true) (h1 : x < y) (h2 : y < z) (h3 : z < v) :
    Calls Try.prog 18 #[.agg #[.int .i64 n, .slice A len c], .int .i64 v, .agg #[.int .i64 x, .int .i64 y, .int .i64 z]] w fun e w' => e = .returned (.bool (isT es v x y z)) ∧ Below w.heap.size w w' := by
  obtain ⟨hgood, _, hvn⟩ := of_decide_eq_true hv
  obtain ⟨_, hn, _, _⟩ := checkCode_zero hgood
  have HGD := Lib.hid hgood; clear hgood
  have HV := Lib.hid hv; clear hv
  have HR := Lib.hid hr; clear hr
  have b1 : Blk ((w.alloc (.cells #[.int .i64 n, .slice A len c] 24)).alloc (.cells #[.int .i64 x, .int .i64 y, .int .i64 z] 40)) (w.heap.size + 1) 40 #[.int .i64 x, .int .i64 y, .int .i64 z] := by
    have h := Blk.new (w.alloc (.cells #[.int .i64 n, .slice A len c] 24)) 40 #[.int .i64 x, .int .i64 y, .int .i64 z]
    rw [World.size_alloc] at h; exact h
  have B1 := Lib.hid b1; clear b1
  have B0 := Lib.hid ((GB.made w 24 (.int .i64 n) (.slice A len c)).alloc (.cells #[.int .i64 x, .int .i64 y, .int .i64 z] 40))
  go_enter Try.func18, Try.ntmps18
  go_wp2_with fail
  refine (valid_any n v A es len c _ (HR.out.new ((al _ _).alloc (by simp) _))).mono ?_
  rintro e w1 ⟨rfl, hb⟩
  rw [HV.out]
  have hb1 := B1.out.below hb B1.out.lt
  have hb0 := B0.out.new hb
  have hB := ((al w (.cells #[.int .i64 n, .slice A len c] 24)).alloc (by simp) (.cells #[.int .i64 x, .int .i64 y, .int .i64 z] 40)).trans (hb.mono (by simp; omega))
  have k0 : w1.cell? ⟨w.heap.size + 1, 0, none⟩ = some (.int .i64 x) := (hb1.cell 0).trans rfl
  have k1 : w1.cell? ⟨w.heap.size + 1, 1, none⟩ = some (.int .i64 y) := (hb1.cell 1).trans rfl
  have k2 : w1.cell? ⟨w.heap.size + 1, 2, none⟩ = some (.int .i64 z) := (hb1.cell 2).trans rfl
  have g0 := hb0.c0
  have g1 := hb0.c1
  have HB := Lib.hid hB; clear hb hB
  have HB1 := Lib.hid hb1; clear hb1
  have HB0 := Lib.hid hb0; clear hb0
  go_wp2_with fail
  go_quiet (fail)
  obtain ⟨wo, hwo⟩ : ∃ wo : World, wo = w1.drewN nq := ⟨_, rfl⟩
  rw [← hwo]
  have hx32 : 2 ^ x < 2 ^ 32 := pow2_lt32 (by omega)
  have hy32 : 2 ^ y < 2 ^ 32 := pow2_lt32 (by omega)
  rw [shl_mod x (by omega), shl_mod y (by omega), bits_or _ _ hx32 hy32]
  have hE32 : (2 ^ x ||| 2 ^ y) < 2 ^ 32 := Nat.or_lt_two_pow hx32 hy32
  clear hx32 hy32
  generalize hE : (2 ^ x ||| 2 ^ y) = E at *
  have HE := Lib.hid hE; clear hE
  have HE32 := Lib.hid hE32; clear hE32
  have hB2 : Below w.heap.size w wo := by rw [hwo]; exact below_drewN HB.out _
  have hb0 : GB wo w.heap.size 24 (.int .i64 n) (.slice A len c) := by rw [hwo]; exact HB0.out.drewN _
  have hb1 : Blk wo (w.heap.size + 1) 40 #[.int .i64 x, .int .i64 y, .int .i64 z] := by rw [hwo]; exact HB1.out.drewN _
  clear HB HB0 HB1 hwo k0 k1 k2 g0 g1
  have k0 : wo.cell? ⟨w.heap.size + 1, 0, none⟩ = some (.int .i64 x) := (hb1.cell 0).trans rfl
  have k2 : wo.cell? ⟨w.heap.size + 1, 2, none⟩ = some (.int .i64 z) := (hb1.cell 2).trans rfl
  have g0 := hb0.c0
  have g1 := hb0.c1
  have HB := Lib.hid hB2; clear hB2
  have HB1 := Lib.hid hb1; clear hb1
  have HB0 := Lib.hid hb0; clear hb0
  have hnx := adj_lt HR.out.2.2 x
  have hnz := adj_lt HR.out.2.2 z
  have HT := Lib.hid (show isT es v x y z = (decide ((adj es z &&& E) = E) && decide ((adj es x &&& E) = 0)) by
    rw [← HE.out]
    have e1 := ends_all (adj es z) x y
    have e2 := ends_none (adj es x) x y
    rw [testBit_adjB HR.out.2.2 (by omega), testBit_adjB HR.out.2.2 (by omega)] at e1 e2
    rw [Bool.eq_iff_iff]
    simp only [Bool.and_eq_true, decide_eq_true_eq]
    rw [e1, e2, isT, adjB_comm es z x, adjB_comm es z y]
    have : adjB es x x = false := by simp [adjB]
    rw [this]
    simp [h1, h2, h3, and_assoc])
  go_wp2_with fail
  refine (neighbors_ok n z A es len c _ (HR.out.new HB.out) HGD.out (by omega)).mono ?_
  rintro e w2 ⟨rfl, hb⟩
  have hb1 := HB1.out.below hb HB1.out.lt
  have hb0 := HB0.out.new hb
  have hB := bthen HB.out hb HB.out.size
  clear HB HB0 HB1 k0 k2 g0 g1 hb
  have k0 : w2.cell? ⟨w.heap.size + 1, 0, none⟩ = some (.int .i64 x) := (hb1.cell 0).trans rfl
  have g0 := hb0.c0
  have g1 := hb0.c1
  clear hb0 hb1
  have HB := Lib.hid hB; clear hB
  have hbit1 : bits .and .u32 (adj es z : Int) (E : Int) = ((adj es z &&& E : Nat) : Int) := bits_and _ _ hnz HE32.out
  have hbit2 : bits .and .u32 (adj es x : Int) (E : Int) = ((adj es x &&& E : Nat) : Int) := bits_and _ _ hnx HE32.out
  have HB2 := Lib.hid hbit2; clear hbit2
  by_cases hz : (adj es z &&& E) = E
  · have ht : (bits .and .u32 (adj es z : Int) (E : Int) == (E : Int)) = true := by rw [hbit1, hz]; simp
    have HZ := Lib.hid hz; clear hz hbit1
    go_wp2_with fail
    refine (neighbors_ok n x A es len c _ (HR.out.new HB.out) HGD.out (by omega)).mono ?_
    rintro e w3 ⟨rfl, hb⟩
    have hB := bthen HB.out hb HB.out.size
    clear k0 g0 g1 hb
    have HB3 := Lib.hid hB; clear hB
    go_wp2_with fail
    go_ret
    refine ⟨ret_bool ?_, HB3.out⟩
    rw [HT.out, HB2.out, show decide ((adj es z &&& E) = E) = true from decide_eq_true HZ.out, Bool.true_and]
    generalize adj es x &&& E = q
    rw [Bool.eq_iff_iff]
    simp
  · have ht : (bits .and .u32 (adj es z : Int) (E : Int) == (E : Int)) = false := by rw [hbit1]; simp; omega
    have HZ := Lib.hid hz; clear hz hbit1
    go_wp2_with fail
    go_ret
    refine ⟨ret_bool ?_, HB.out⟩
    rw [HT.out]
    simp [HZ.out]

theorem tcheck_any (n v x y z : Int) (A : Option Addr) (es : List Nat) (len c : Nat) (w : World) (hr : Es w w.heap.size A len es) :
    Calls Try.prog 18 #[.agg #[.int .i64 n, .slice A len c], .int .i64 v, .agg #[.int .i64 x, .int .i64 y, .int .i64 z]] w fun e w' => e = .returned (.bool (chkB n es v x y z)) ∧ Below w.heap.size w w' := by
  by_cases h : validB n es v = true ∧ 0 ≤ x ∧ x < y ∧ y < z ∧ z < v
  · obtain ⟨hv, h0, h1, h2, h3⟩ := h
    obtain ⟨x, rfl⟩ := Int.eq_ofNat_of_zero_le h0
    obtain ⟨y, rfl⟩ := Int.eq_ofNat_of_zero_le (show 0 ≤ y by omega)
    obtain ⟨z, rfl⟩ := Int.eq_ofNat_of_zero_le (show 0 ≤ z by omega)
    obtain ⟨v, rfl⟩ := Int.eq_ofNat_of_zero_le (show 0 ≤ v by omega)
    have hg := (of_decide_eq_true hv).1
    obtain ⟨n, rfl⟩ := Int.eq_ofNat_of_zero_le (checkCode_zero hg).1
    refine (tcheck_ok n v x y z A es len c w hr hv (by omega) (by omega) (by omega)).mono ?_
    rintro e w' ⟨rfl, hb⟩
    refine ⟨ret_bool ?_, hb⟩
    have : decide (validB n es v = true ∧ (0:Int) ≤ x ∧ (x:Int) < y ∧ (y:Int) < z ∧ (z:Int) < v) = true := decide_eq_true ⟨hv, h0, h1, h2, h3⟩
    rw [chkB, this]; simp
  · rw [chkB_bad h]
    refine tcheck_bad n v x y z A es len c w hr ?_
    cases hv : validB n es v
    · exact .inl rfl
    · right; rw [hv] at h; simp at h; omega
end Go.Proofs.Ytdagdamliggfmaa
