/-
  Contract of hypergraph.cycleLength.
-/
import Derived.Test.YtkiahnffepbgpaaCylP
import Derived.Test.YtkiahnffepbgpaaDist
namespace Go.Proofs.Ytkiahnffepbgpaa
open Go.RowKit
set_option linter.unusedSimpArgs false
set_option linter.unusedVariables false

set_option maxRecDepth 100000 in
set_option maxHeartbeats 8000000 in
theorem cycleLength_any (n : Nat) (hn : n ≤ 32) (R : List Nat) (hl : R.length = 32) (hR : ∀ x ∈ R, x < 4294967296) (w : World) :
    Calls Try.prog 50 #[.int .i64 n, .agg (urow R)] w (RV w (fun v _ => ∃ d : Nat, v = .int .i64 d ∧ d ≤ 5000000000 ∧ CylV R n n 0 d)) := by
  go_enter Try.func50, Try.ntmps50
  go_wp2_with fail
  have HW := Lib.hid (al w (.cells (urow R) 78))
  have HBR := Lib.hid (Blk.new w 78 (urow R))
  generalize w.alloc (.cells (urow R) 78) = w1 at *
  go_loopw [5, 12] (fun s i wr => ∃ (sh k : Nat), k ≤ n ∧ i = .int .i64 k ∧ s = .int .i64 sh ∧ sh ≤ 5000000000 ∧ Hid (CylV R n k 0 sh) ∧ Hid (Below w1.heap.size w1 wr)) (fun _ i _ => n - (intOf i).toNat)
  case atStart => exact ⟨0, 0, Nat.zero_le _, rfl, rfl, by omega, Lib.hid rfl, Lib.hid (Below.refl _ _)⟩
  case round =>
    obtain ⟨sh, k, hk, rfl, rfl, hsh, HS, HB⟩ := hrel
    by_cases hkn : k < n
    · go_wp2_with fail
      go_loopw [5, 16] (fun s i wq => ∃ (s2 x : Nat), x ≤ n ∧ i = .int .i64 x ∧ s = .int .i64 s2 ∧ s2 ≤ 5000000000 ∧ Hid (CylX R n k x sh s2) ∧ Hid (Below w1.heap.size w1 wq)) (fun _ i _ => n - (intOf i).toNat)
      case atStart => exact ⟨sh, 0, Nat.zero_le _, rfl, rfl, hsh, Lib.hid rfl, HB⟩
      case round =>
        obtain ⟨s2, x, hx, rfl, rfl, hs2, HS2, HB2⟩ := hrel
        by_cases hxn : x < n
        · go_wp2_with fail
          go_loopw [5, 20] (fun s i wq => ∃ (s3 y : Nat), y ≤ x ∧ i = .int .i64 y ∧ s = .int .i64 s3 ∧ s3 ≤ 5000000000 ∧ Hid (CylY R n k x y s2 s3) ∧ Hid (Below w1.heap.size w1 wq)) (fun _ i _ => x - (intOf i).toNat)
          case atStart => exact ⟨s2, 0, Nat.zero_le _, rfl, rfl, hs2, Lib.hid rfl, HB2⟩
          case round =>
            obtain ⟨s3, y, hy, rfl, rfl, hs3, HS3, HB3⟩ := hrel
            by_cases hyx : y < x
            · have hblk := HBR.out.below HB3.out HBR.out.lt
              have c1 : wr.cell? ⟨w.heap.size, k, none⟩ = some (.int .u32 (nth R k : Int)) := by rw [hblk.cell, urow_get (by omega)]
              have c2 : wr.cell? ⟨w.heap.size, x, none⟩ = some (.int .u32 (nth R x : Int)) := by rw [hblk.cell, urow_get (by omega)]
              have hRk : nth R k < 4294967296 := hR _ (nth_mem (by omega))
              have hRx : nth R x < 4294967296 := hR _ (nth_mem (by omega))
              have i1 : (0 : Int) ≤ (k : Int) := by omega
              have i2 : (k : Int) < 32 := by omega
              have i3 : (0 : Int) ≤ (x : Int) := by omega
              have i4 : (x : Int) < 32 := by omega
              have i5 : (0 : Int) ≤ (y : Int) := by omega
              have i6 : (y : Int) < 32 := by omega
              have q1 := bit_zero' (nth R k) x hRk
              clear hblk
              cases b1 : (nth R k).testBit x with
              | false =>
                rw [b1] at q1
                have HSK := Lib.hid (show skipB R k x y = true by simp [skipB, b1]); clear b1
                go_wp2_with fail
                exact ⟨⟨s3, y + 1, by omega, by go_num, rfl, hs3, Lib.hid ⟨s3, HS3.out, by rw [CylStep, if_pos HSK.out]⟩, HB3⟩, by simp [intOf]; omega⟩
              | true =>
                rw [b1] at q1
                have q2 := bit_zero' (nth R k) y hRk
                cases b2 : (nth R k).testBit y with
                | false =>
                  rw [b2] at q2
                  have HSK := Lib.hid (show skipB R k x y = true by simp [skipB, b2]); clear b1 b2
                  go_wp2_with fail
                  exact ⟨⟨s3, y + 1, by omega, by go_num, rfl, hs3, Lib.hid ⟨s3, HS3.out, by rw [CylStep, if_pos HSK.out]⟩, HB3⟩, by simp [intOf]; omega⟩
                | true =>
                  rw [b2] at q2
                  have q3 := bit_one' (nth R x) y hRx
                  cases b3 : (nth R x).testBit y with
                  | true =>
                    rw [b3] at q3
                    have HSK := Lib.hid (show skipB R k x y = true by simp [skipB, b3]); clear b1 b2 b3
                    go_wp2_with fail
                    exact ⟨⟨s3, y + 1, by omega, by go_num, rfl, hs3, Lib.hid ⟨s3, HS3.out, by rw [CylStep, if_pos HSK.out]⟩, HB3⟩, by simp [intOf]; omega⟩
                  | false =>
                    rw [b3] at q3
                    have HSK := Lib.hid (show ¬ skipB R k x y = true by simp [skipB, b1, b2, b3]); clear b1 b2 b3
                    go_upto_region 12 with (fail)
                    have hp2 := pow2_pos n
                    have hp3 : 2 ^ n ≤ 2 ^ 32 := two_pow_le hn
                    have hm0 : 2 ^ n - 1 < 4294967296 := by omega
                    have hpk : 2 ^ k < 4294967296 := pow2_lt32 (by omega)
                    have hpx : 2 ^ x < 4294967296 := pow2_lt32 (by omega)
                    have hpy : 2 ^ y < 4294967296 := pow2_lt32 (by omega)
                    have hm1 : andn (2 ^ n - 1) (nth R k) < 4294967296 := andn_lt hm0
                    have hm2 : andn (andn (2 ^ n - 1) (nth R k)) (2 ^ k) < 4294967296 := andn_lt hm1
                    have hm3 : andn (andn (2 ^ n - 1) (nth R k)) (2 ^ k) ||| 2 ^ x < 4294967296 := Nat.or_lt_two_pow (n := 32) hm2 hpx
                    have HM4 := Lib.hid (show restOf R n k x y < 4294967296 from Nat.or_lt_two_pow (n := 32) hm3 hpy)
                    have sk := shl_mod k (by omega)
                    have sx := shl_mod x (by omega)
                    have sy := shl_mod y (by omega)
                    have m1 := bits_andNot (2 ^ n - 1) (nth R k) hm0 hRk
                    have m2 := bits_andNot (andn (2 ^ n - 1) (nth R k)) (2 ^ k) hm1 hpk
                    have m3 := bits_or (andn (andn (2 ^ n - 1) (nth R k)) (2 ^ k)) (2 ^ x) hm2 hpx
                    have m4 := bits_or (andn (andn (2 ^ n - 1) (nth R k)) (2 ^ k) ||| 2 ^ x) (2 ^ y) hm3 hpy
                    rw [← sk] at m2
                    rw [← sx] at m3
                    rw [← sy] at m4
                    clear sk sx sy hp2 hp3 hm0 hpk hpx hpy hm1 hm2 hm3 q1 q2 q3
                    have HRT := Lib.hid (show restOf R n k x y = andn (andn (2 ^ n - 1) (nth R k)) (2 ^ k) ||| 2 ^ x ||| 2 ^ y from rfl)
                    go_quiet ((go_at_call 46; exact quiet_left (below_any n hn _)))
                    rw [← HRT.out]
                    clear m1 m2 m3 m4 c1 c2
                    have HB4 := Lib.hid (below_drewN HB3.out nq)
                    have HBK := Lib.hid (HBR.out.below HB4.out HBR.out.lt)
                    generalize hrr : restOf R n k x y = rr at *
                    have HRR := Lib.hid hrr; clear hrr HRT
                    have hrr32 := HM4.out
                    go_wp2_with (refine wpList_load_blk rfl 78 (.tmp 3) rfl w.heap.size _ (urow R) _ HBK.out rfl Try.underlying78 rfl (arr_size R hl) ?_)
                    refine (distance_any n x y rr hn (by omega) (by omega) hrr32 R hl hR _).mono ?_
                    rintro e w5 ⟨_, rfl, ⟨d, rfl, hd, hdi⟩, hb5⟩
                    have HDI := Lib.hid hdi; clear hdi
                    have HB5 := Lib.hid (bthen HB4.out hb5 HB4.out.size); clear hb5
                    by_cases hd0 : d = 0
                    · have t1 : decide ((d : Int) > 0) = false := by simp; omega
                      have HST := Lib.hid (show CylStep R n k x y s3 s3 by
                        rw [CylStep, if_neg HSK.out]
                        exact ⟨d, by rw [HRR.out]; exact HDI.out, by rw [if_neg (by omega)]⟩)
                      go_wp2_with fail
                      exact ⟨⟨s3, y + 1, by omega, by go_num, rfl, hs3, Lib.hid ⟨s3, HS3.out, HST.out⟩, HB5⟩, by simp [intOf]; omega⟩
                    · have t1 : decide ((d : Int) > 0) = true := by simp; omega
                      by_cases hs0 : s3 = 0
                      · have t2 : ((s3 : Int) == 0) = true := by simp [hs0]
                        have HST := Lib.hid (show CylStep R n k x y s3 (d + 2) by
                          rw [CylStep, if_neg HSK.out]
                          exact ⟨d, by rw [HRR.out]; exact HDI.out, by rw [if_pos ⟨by omega, .inl hs0⟩]⟩)
                        clear hs0
                        go_wp2_with fail
                        exact ⟨⟨d + 2, y + 1, by omega, by go_num, by go_num, by omega, Lib.hid ⟨s3, HS3.out, HST.out⟩, HB5⟩, by simp [intOf]; omega⟩
                      · have t2 : ((s3 : Int) == 0) = false := by simp; omega
                        by_cases hlt : d + 2 < s3
                        · have t3 : decide ((d : Int) + 2 < (s3 : Int)) = true := by simp; omega
                          have HST := Lib.hid (show CylStep R n k x y s3 (d + 2) by
                            rw [CylStep, if_neg HSK.out]
                            exact ⟨d, by rw [HRR.out]; exact HDI.out, by rw [if_pos ⟨by omega, .inr hlt⟩]⟩)
                          go_wp2_with fail
                          exact ⟨⟨d + 2, y + 1, by omega, by go_num, by go_num, by omega, Lib.hid ⟨s3, HS3.out, HST.out⟩, HB5⟩, by simp [intOf]; omega⟩
                        · have t3 : decide ((d : Int) + 2 < (s3 : Int)) = false := by simp; omega
                          have HST := Lib.hid (show CylStep R n k x y s3 s3 by
                            rw [CylStep, if_neg HSK.out]
                            exact ⟨d, by rw [HRR.out]; exact HDI.out, by rw [if_neg (by omega)]⟩)
                          go_wp2_with fail
                          exact ⟨⟨s3, y + 1, by omega, by go_num, rfl, hs3, Lib.hid ⟨s3, HS3.out, HST.out⟩, HB5⟩, by simp [intOf]; omega⟩
            · obtain rfl : y = x := by omega
              go_wp2_with fail
              exact ⟨⟨s3, y + 1, by omega, by go_num, rfl, hs3, Lib.hid ⟨s2, HS2.out, HS3.out⟩, HB3⟩, by simp [intOf]; omega⟩
        · obtain rfl : x = n := by omega
          go_wp2_with fail
          exact ⟨⟨s2, k + 1, by omega, by go_num, rfl, hs2, Lib.hid ⟨sh, HS.out, HS2.out⟩, HB2⟩, by simp [intOf]; omega⟩
    · obtain rfl : k = n := by omega
      go_wp2_with fail
      go_ret
      exact ⟨_, rfl, ⟨sh, rfl, hsh, HS.out⟩, bthen HW.out HB.out HW.out.size⟩
end Go.Proofs.Ytkiahnffepbgpaa
