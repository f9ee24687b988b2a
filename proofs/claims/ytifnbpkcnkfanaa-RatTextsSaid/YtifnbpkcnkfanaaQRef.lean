/-
  The reference of layer 5: gcd, abs, Low; is of the laws.
-/
import Derived.Test.YtifnbpkcnkfanaaQAwake
namespace Go.Proofs.Ytifnbpkcnkfanaa
open Go.RowKit

set_option maxHeartbeats 2000000 in
theorem rabs_any (z : Int) (h1 : -9223372036854775807 ≤ z) (h2 : z ≤ 9223372036854775807) (w : World) : Calls Try.prog 41 #[.int .i64 z] w fun e w' => e = .returned (.int .i64 (z.natAbs : Int)) ∧ w = w' := by
  by_cases hz : z < 0
  · have tz : decide (z < 0) = true := by simp [hz]
    have e1 : -z = ((z.natAbs : Nat) : Int) := by omega
    go_enter Try.func41, Try.ntmps41
    go_wp2_with fail
    go_ret
    exact ⟨by first | rfl | (rw [e1]; rfl), rfl⟩
  · have tz : decide (z < 0) = false := by simp; omega
    have e1 : z = ((z.natAbs : Nat) : Int) := by omega
    generalize z.natAbs = k at *
    subst e1
    go_enter Try.func41, Try.ntmps41
    go_wp2_with fail
    go_ret
    exact ⟨rfl, rfl⟩

theorem tmod_nat (x y : Nat) : Int.tmod (x : Int) (y : Int) = ((x % y : Nat) : Int) := by rw [Int.tmod_eq_emod_of_nonneg (by omega)]; omega
set_option maxHeartbeats 2000000 in
theorem rgcd_any (a b : Nat) (h1 : a ≤ 9223372036854775807) (h2 : b ≤ 9223372036854775807) (w : World) : Calls Try.prog 40 #[.int .i64 a, .int .i64 b] w fun e w' => e = .returned (.int .i64 (Nat.gcd a b : Int)) ∧ Below w.heap.size w w' := by
  go_enter Try.func40, Try.ntmps40
  go_wp2_with fail
  go_loopw [0, 1] (fun xv yv wr => ∃ x y : Nat, xv = .int .i64 x ∧ yv = .int .i64 y ∧ x ≤ 9223372036854775807 ∧ y ≤ 9223372036854775807 ∧ Hid (Nat.gcd x y = Nat.gcd a b ∧ Below w.heap.size w wr)) (fun _ yv _ => (intOf yv).toNat)
  case atStart => exact ⟨a, b, rfl, rfl, h1, h2, Lib.hid ⟨rfl, Below.refl _ _⟩⟩
  case round =>
    obtain ⟨x, y, rfl, rfl, hx, hy, HJ⟩ := hrel
    by_cases hy0 : y = 0
    · have ty : ((y : Int) != 0) = false := by simp [hy0]
      have HY := Lib.hid hy0; clear hy0
      go_wp2_with fail
      go_ret
      have e1 := HJ.out.1
      rw [HY.out, Nat.gcd_zero_right] at e1
      exact ⟨by rw [← e1]; rfl, HJ.out.2⟩
    · have ty : ((y : Int) != 0) = true := by simp; omega
      have hyp : 0 < y := by omega
      have hml : x % y < y := Nat.mod_lt _ hyp
      have e3 := tmod_nat x y
      go_wp2_with fail
      go_quiet (fail)
      go_wp2_with fail
      refine ⟨⟨y, x % y, by simp, by simp, hy, by omega, Lib.hid ⟨by rw [gcd_next]; exact HJ.out.1, below_drewN HJ.out.2 _⟩⟩, ?_⟩
      simp [intOf]; omega

theorem low_vals (n : Int) (d : Nat) (hd : d ≠ 0) : ((n : Rat) / ((d : Int) : Rat)).num = Int.tdiv n ((Nat.gcd n.natAbs d : Nat) : Int) ∧ (((n : Rat) / ((d : Int) : Rat)).den : Int) = (d : Int) / ((Nat.gcd n.natAbs d : Nat) : Int) := by
  have e : (n : Rat) / ((d : Int) : Rat) = mkRat n d := by rw [Rat.mkRat_eq_div]; rfl
  have hg : (((Nat.gcd n.natAbs d : Nat) : Int)) ∣ n := Int.ofNat_dvd_left.2 (Nat.gcd_dvd_left _ _)
  rw [e, Rat.num_mkRat, Rat.den_mkRat, if_neg hd, if_neg hd, Nat.gcd_comm d]
  refine ⟨(Int.tdiv_eq_ediv_of_dvd hg).symm, ?_⟩
  simp

section
variable {w : World}
set_option maxRecDepth 100000 in
set_option maxHeartbeats 4000000 in
theorem rlow_pos (n : Int) (d : Nat) (h1 : -9223372036854775807 ≤ n) (h2 : n ≤ 9223372036854775807) (h4 : d ≤ 9223372036854775807) (hd : d ≠ 0) : Calls Try.prog 14 #[.int .i64 n, .int .i64 d] w fun e w' => e = .returned (.agg #[.int .i64 ((n : Rat) / ((d : Int) : Rat)).num, .int .i64 (((n : Rat) / ((d : Int) : Rat)).den : Int)]) ∧ Below w.heap.size w w' := by
  have hv := low_vals n d hd
  have td : decide ((d : Int) < 0) = false := by simp
  have hT := GB.made w 35 (.int .i64 0) (.int .i64 0)
  by_cases hn : n = 0
  · have tn : (n == 0) = true := by simp [hn]
    have HV := Lib.hid (show ((n : Rat) / ((d : Int) : Rat)).num = 0 ∧ (((n : Rat) / ((d : Int) : Rat)).den : Int) = 1 by
      rw [hn]
      have : ((0 : Int) : Rat) / ((d : Int) : Rat) = 0 := by rw [Rat.intCast_zero]; grind
      rw [this]; exact ⟨rfl, rfl⟩)
    clear hv
    have r0 := hT.c0; have r1 := hT.c1; have f0 := hT.f0; have f1 := hT.f1
    have T := Lib.hid hT; clear hT hn
    go_enter Try.func14, Try.ntmps14
    go_wp2_with fail
    rw [HV.out.1, HV.out.2]
    refine bodyPost_ret (v := .agg #[.int .i64 0, .int .i64 1]) ?_ rfl ⟨rfl, ?_⟩
    · first | exact results_cell_row Try.results14 _ _ _ _ _ (0, 0) _ rfl (Blk.new w _ _) Try.underlying35 rfl rfl | exact results_cell_row Try.results14 _ _ _ _ _ (0, 0) _ rfl ((T.out.blk.set_ 0 _).set_ 1 _) Try.underlying35 rfl rfl
    · first | exact al w _ | exact ((al w _).setCell (Nat.le_refl _) _).setCell (Nat.le_refl _) _
  · have tn : (n == 0) = false := by simp [hn]
    have HV := Lib.hid hv; clear hv
    have hna : n.natAbs ≤ 9223372036854775807 := by omega
    have HG0 := Lib.hid (show Nat.gcd n.natAbs d ≠ 0 by intro h; exact hn (by have := Nat.eq_zero_of_gcd_eq_zero_left h; omega))
    go_enter Try.func14, Try.ntmps14
    go_wp2_with fail
    have hW := al w (.cells #[.int .i64 0, .int .i64 0] 35)
    generalize w.alloc (.cells #[.int .i64 0, .int .i64 0] 35) = w0 at hT hW ⊢
    have T := Lib.hid hT; have HW := Lib.hid hW; clear hT hW
    refine (rabs_any n h1 h2 _).mono ?_
    rintro e w1 ⟨rfl, rfl⟩
    go_wp2_with fail
    refine (rgcd_any n.natAbs d hna h4 _).mono ?_
    rintro e w2 ⟨rfl, hb⟩
    replace T := Lib.hid (T.out.new hb); replace HW := Lib.hid (bthen HW.out hb HW.out.size)
    clear hb
    have tg : (((Nat.gcd n.natAbs d : Nat) : Int) == 0) = false := by have := HG0.out; simp; omega
    have hgz : ((Nat.gcd n.natAbs d : Nat) : Int) ≠ 0 := by have := HG0.out; omega
    have hg1 : (0 : Int) < ((Nat.gcd n.natAbs d : Nat) : Int) := by omega
    obtain ⟨e1, e2⟩ := HV.out
    generalize ((Nat.gcd n.natAbs d : Nat) : Int) = g at *
    have r0 := T.out.c0; have r1 := T.out.c1; have f0 := T.out.f0; have f1 := T.out.f1
    have b1 : (n.tdiv g).natAbs ≤ n.natAbs := by rw [Int.natAbs_tdiv]; exact Nat.div_le_self _ _
    have b2 : 0 ≤ (d : Int) / g := Int.ediv_nonneg (by omega) (by omega)
    have b3 : (d : Int) / g ≤ d := Int.ediv_le_self _ (by omega)
    have e5 : (d : Int).tdiv g = (d : Int) / g := Int.tdiv_eq_ediv_of_nonneg (by omega)
    have E1 := Lib.hid e1; have E2 := Lib.hid e2
    have i1 : IntKind.i64.wrap (n.tdiv g) = n.tdiv g := IntWalk.i64_in _ (by omega)
    have i2 : IntKind.i64.wrap ((d : Int) / g) = (d : Int) / g := IntWalk.i64_in _ (by omega)
    generalize hq : (d : Int) / g = q at *
    have HQ := Lib.hid hq; clear hq
    clear e1 e2 HV b1 HG0 hna hn
    go_wp2_with fail
    go_region
    all_goals
      go_wp2_with fail
      refine bodyPost_ret (v := .agg #[.int .i64 (n.tdiv g), .int .i64 q]) ?_ rfl ⟨by rw [E1.out, E2.out], ((HW.out.drew).setCell (p := ⟨w.heap.size, 0, none⟩) (Nat.le_refl _) _).setCell (p := ⟨w.heap.size, 1, none⟩) (Nat.le_refl _) _⟩
      exact results_cell_row Try.results14 _ _ _ _ _ (0, 0) _ rfl ((T.out.blk.set_ 0 _).set_ 1 _) Try.underlying35 rfl rfl
set_option maxRecDepth 100000 in
set_option maxHeartbeats 4000000 in
theorem rlow_neg (n : Int) (d : Nat) (h1 : -9223372036854775807 ≤ n) (h2 : n ≤ 9223372036854775807) (h4 : d ≤ 9223372036854775807) (hd : d ≠ 0) : Calls Try.prog 14 #[.int .i64 (-n), .int .i64 (-(d : Int))] w fun e w' => e = .returned (.agg #[.int .i64 ((n : Rat) / ((d : Int) : Rat)).num, .int .i64 (((n : Rat) / ((d : Int) : Rat)).den : Int)]) ∧ Below w.heap.size w w' := by
  have hv := low_vals n d hd
  have td : decide (-(d : Int) < 0) = true := by simp; omega
  have k1 : -(-n) = n := by omega
  have k2 : -(-(d : Int)) = (d : Int) := by omega
  have hT := GB.made w 35 (.int .i64 0) (.int .i64 0)
  by_cases hn : n = 0
  · have tn : (n == 0) = true := by simp [hn]
    have HV := Lib.hid (show ((n : Rat) / ((d : Int) : Rat)).num = 0 ∧ (((n : Rat) / ((d : Int) : Rat)).den : Int) = 1 by
      rw [hn]
      have : ((0 : Int) : Rat) / ((d : Int) : Rat) = 0 := by rw [Rat.intCast_zero]; grind
      rw [this]; exact ⟨rfl, rfl⟩)
    clear hv
    have r0 := hT.c0; have r1 := hT.c1; have f0 := hT.f0; have f1 := hT.f1
    have T := Lib.hid hT; clear hT hn
    go_enter Try.func14, Try.ntmps14
    go_wp2_with fail
    rw [HV.out.1, HV.out.2]
    refine bodyPost_ret (v := .agg #[.int .i64 0, .int .i64 1]) ?_ rfl ⟨rfl, ?_⟩
    · first | exact results_cell_row Try.results14 _ _ _ _ _ (0, 0) _ rfl (Blk.new w _ _) Try.underlying35 rfl rfl | exact results_cell_row Try.results14 _ _ _ _ _ (0, 0) _ rfl ((T.out.blk.set_ 0 _).set_ 1 _) Try.underlying35 rfl rfl
    · first | exact al w _ | exact ((al w _).setCell (Nat.le_refl _) _).setCell (Nat.le_refl _) _
  · have tn : (n == 0) = false := by simp [hn]
    have HV := Lib.hid hv; clear hv
    have hna : n.natAbs ≤ 9223372036854775807 := by omega
    have HG0 := Lib.hid (show Nat.gcd n.natAbs d ≠ 0 by intro h; exact hn (by have := Nat.eq_zero_of_gcd_eq_zero_left h; omega))
    go_enter Try.func14, Try.ntmps14
    go_wp2_with fail
    have hW := al w (.cells #[.int .i64 0, .int .i64 0] 35)
    generalize w.alloc (.cells #[.int .i64 0, .int .i64 0] 35) = w0 at hT hW ⊢
    have T := Lib.hid hT; have HW := Lib.hid hW; clear hT hW
    refine (rabs_any n h1 h2 _).mono ?_
    rintro e w1 ⟨rfl, rfl⟩
    go_wp2_with fail
    refine (rgcd_any n.natAbs d hna h4 _).mono ?_
    rintro e w2 ⟨rfl, hb⟩
    replace T := Lib.hid (T.out.new hb); replace HW := Lib.hid (bthen HW.out hb HW.out.size)
    clear hb
    have tg : (((Nat.gcd n.natAbs d : Nat) : Int) == 0) = false := by have := HG0.out; simp; omega
    have hgz : ((Nat.gcd n.natAbs d : Nat) : Int) ≠ 0 := by have := HG0.out; omega
    have hg1 : (0 : Int) < ((Nat.gcd n.natAbs d : Nat) : Int) := by omega
    obtain ⟨e1, e2⟩ := HV.out
    generalize ((Nat.gcd n.natAbs d : Nat) : Int) = g at *
    have r0 := T.out.c0; have r1 := T.out.c1; have f0 := T.out.f0; have f1 := T.out.f1
    have b1 : (n.tdiv g).natAbs ≤ n.natAbs := by rw [Int.natAbs_tdiv]; exact Nat.div_le_self _ _
    have b2 : 0 ≤ (d : Int) / g := Int.ediv_nonneg (by omega) (by omega)
    have b3 : (d : Int) / g ≤ d := Int.ediv_le_self _ (by omega)
    have e5 : (d : Int).tdiv g = (d : Int) / g := Int.tdiv_eq_ediv_of_nonneg (by omega)
    have E1 := Lib.hid e1; have E2 := Lib.hid e2
    have i1 : IntKind.i64.wrap (n.tdiv g) = n.tdiv g := IntWalk.i64_in _ (by omega)
    have i2 : IntKind.i64.wrap ((d : Int) / g) = (d : Int) / g := IntWalk.i64_in _ (by omega)
    generalize hq : (d : Int) / g = q at *
    have HQ := Lib.hid hq; clear hq
    clear e1 e2 HV b1 HG0 hna hn
    go_wp2_with fail
    go_region
    all_goals
      go_wp2_with fail
      refine bodyPost_ret (v := .agg #[.int .i64 (n.tdiv g), .int .i64 q]) ?_ rfl ⟨by rw [E1.out, E2.out], ((HW.out.drew).setCell (p := ⟨w.heap.size, 0, none⟩) (Nat.le_refl _) _).setCell (p := ⟨w.heap.size, 1, none⟩) (Nat.le_refl _) _⟩
      exact results_cell_row Try.results14 _ _ _ _ _ (0, 0) _ rfl ((T.out.blk.set_ 0 _).set_ 1 _) Try.underlying35 rfl rfl
theorem rlow_any (n d : Int) (h1 : -9223372036854775807 ≤ n) (h2 : n ≤ 9223372036854775807) (h3 : -9223372036854775807 ≤ d) (h4 : d ≤ 9223372036854775807) (hd : d ≠ 0) : Calls Try.prog 14 #[.int .i64 n, .int .i64 d] w fun e w' => e = .returned (.agg #[.int .i64 ((n : Rat) / (d : Rat)).num, .int .i64 (((n : Rat) / (d : Rat)).den : Int)]) ∧ Below w.heap.size w w' := by
  by_cases hp : 0 < d
  · obtain ⟨k, rfl⟩ := Int.eq_ofNat_of_zero_le (show 0 ≤ d by omega)
    exact rlow_pos n k h1 h2 (by omega) (by omega)
  · obtain ⟨k, hk⟩ := Int.eq_ofNat_of_zero_le (show 0 ≤ -d by omega)
    obtain rfl : d = -(k : Int) := by omega
    have h := rlow_neg (w := w) (-n) k (by omega) (by omega) (by omega) (by omega)
    rw [Int.neg_neg] at h
    have e : ((-n : Int) : Rat) / ((k : Int) : Rat) = (n : Rat) / ((-(k : Int) : Int) : Rat) := by
      rw [Rat.intCast_neg, Rat.intCast_neg]; grind
    rw [e] at h
    exact h
end
end Go.Proofs.Ytifnbpkcnkfanaa
