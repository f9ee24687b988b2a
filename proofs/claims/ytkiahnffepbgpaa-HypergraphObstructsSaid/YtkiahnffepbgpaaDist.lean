/-
  Contract of hypergraph.distance.
-/
import Derived.Test.YtkiahnffepbgpaaCylP
import Derived.Test.YtkiahnffepbgpaaObsW
namespace Go.Proofs.Ytkiahnffepbgpaa
open Go.RowKit
set_option linter.unusedSimpArgs false
set_option linter.unusedVariables false

theorem bit_one' (e v : Nat) (he : e < 2 ^ 32) : (bits .and .u32 ((e : Int) / 2 ^ v) 1 == 1) = e.testBit v := by
  rw [bits_and_one e v he]
  cases e.testBit v <;> rfl
set_option maxRecDepth 100000 in
set_option maxHeartbeats 8000000 in
theorem distance_any (n a b ins : Nat) (hn : n ≤ 32) (ha : a < n) (hb : b < n) (hi : ins < 4294967296) (R : List Nat) (hl : R.length = 32) (hR : ∀ x ∈ R, x < 4294967296) (w : World) :
    Calls Try.prog 52 #[.int .i64 n, .agg (urow R), .int .i64 a, .int .i64 b, .int .u32 ins] w (RV w (fun v _ => ∃ d : Nat, v = .int .i64 d ∧ d ≤ 4294967296 ∧ DistIs R n a b ins d)) := by
  have i1 : (0 : Int) ≤ (a : Int) := by omega
  have i2 : (a : Int) < 32 := by omega
  have esh := shl_mod a (by omega)
  go_enter Try.func52, Try.ntmps52
  go_wp2_with fail
  go_quiet (fail)
  go_wp2_with fail
  go_loopw [11, 12, 13] (fun s f l wr => ∃ (seen front len : Nat), s = .int .u32 seen ∧ f = .int .u32 front ∧ l = .int .i64 len ∧ seen < 4294967296 ∧ front < 4294967296 ∧ 1 ≤ len ∧ Hid ((∀ u, ¬ (seen.testBit u = true ∧ front.testBit u = true)) ∧ len ≤ seen + 1 ∧ (∀ g d, distO R n b ins g seen front len = some d → DistIs R n a b ins d) ∧ Below w.heap.size w wr ∧ Blk wr w.heap.size 78 (urow R))) (fun s _ _ _ => 4294967296 - (intOf s).toNat)
  case atStart => exact ⟨0, 2 ^ a, 1, rfl, by first | rfl | (rw [esh]) | simp, rfl, by omega, pow2_lt32 (by omega), by omega, Lib.hid ⟨fun u h => by simp at h, by omega, fun g d h => ⟨g, h⟩, below_drewN (al w _) _, (Blk.new w _ _).drewN nq⟩⟩
  case round =>
    obtain ⟨seen, front, len, rfl, rfl, rfl, hs, hf, hl1, HJ⟩ := hrel
    by_cases hf0 : front = 0
    · have t0 : ((front : Int) != 0) = false := by simp [hf0]
      have HD := Lib.hid (HJ.out.2.2.1 1 0 (by rw [distO, if_pos hf0]))
      clear hf0
      go_wp2_with fail
      go_ret
      exact ⟨_, rfl, ⟨0, rfl, by omega, HD.out⟩, HJ.out.2.2.2.1⟩
    · have t0 : ((front : Int) != 0) = true := by simp; omega
      have HF0 := Lib.hid hf0; clear hf0
      have eor := bits_or seen front hs hf
      go_wp2_with fail
      go_loop [14, 26] (fun x i => ∃ (k r : Nat), k ≤ n ∧ i = .int .i64 k ∧ x = .int .u32 r ∧ r < 4294967296 ∧ Hid (r = orTo R front k)) (fun _ i => n - (intOf i).toNat)
      case atStart => exact ⟨0, 0, Nat.zero_le _, rfl, rfl, by omega, Lib.hid rfl⟩
      case round =>
        obtain ⟨k, r, hk, rfl, rfl, hr, HK⟩ := hrel
        by_cases hkn : k < n
        · have j1 : (0 : Int) ≤ (k : Int) := by omega
          have j2 : (k : Int) < 32 := by omega
          have hcell : wr.cell? ⟨w.heap.size, k, none⟩ = some (.int .u32 (nth R k : Int)) := by
            rw [HJ.out.2.2.2.2.cell, urow_get (by omega)]
          have hRk : nth R k < 4294967296 := hR _ (nth_mem (by omega))
          have ek := bits_or r (nth R k) hr hRk
          have hbit := bit_one' front k hf
          cases hfk : front.testBit k with
          | false =>
            rw [hfk] at hbit
            have HFK := Lib.hid hfk; clear hfk
            go_wp2_with fail
            exact ⟨⟨k + 1, r, by omega, by go_num, rfl, hr, Lib.hid (by rw [orTo, HFK.out, if_neg (by simp)]; exact HK.out)⟩, by simp [intOf]; omega⟩
          | true =>
            rw [hfk] at hbit
            have HFK := Lib.hid hfk; clear hfk
            go_wp2_with fail
            exact ⟨⟨k + 1, r ||| nth R k, by omega, by go_num, by first | rfl | rw [ek], Nat.or_lt_two_pow (n := 32) hr hRk, Lib.hid (by rw [orTo, HFK.out, if_pos rfl, ← HK.out])⟩, by simp [intOf]; omega⟩
        · obtain rfl : k = n := by omega
          have ea := bits_and r ins hr hi
          have hso : seen ||| front < 4294967296 := Nat.or_lt_two_pow (n := 32) hs hf
          have hri : r &&& ins < 4294967296 := Nat.and_lt_two_pow (n := 32) _ hi
          have en := bits_andNot (r &&& ins) (seen ||| front) hri hso
          have hnx : andn (r &&& ins) (seen ||| front) < 4294967296 := andn_lt hri
          have HNX := Lib.hid (show nextL R k ins seen front = andn (r &&& ins) (seen ||| front) by rw [nextL, ← HK.out])
          have HDJ := Lib.hid (show ∀ u, ¬ ((seen ||| front).testBit u = true ∧ (andn (r &&& ins) (seen ||| front)).testBit u = true) from fun u ⟨h1, h2⟩ => by
            rw [testBit_andn hso hri] at h2
            rw [h1] at h2; simp at h2)
          have j1 : (0 : Int) ≤ (b : Int) := by omega
          have j2 : (b : Int) < 32 := by omega
          have hbit := bit_one' (andn (r &&& ins) (seen ||| front)) b hnx
          generalize andn (r &&& ins) (seen ||| front) = nx at *
          cases hfb : nx.testBit b with
          | true =>
            rw [hfb] at hbit
            have HFB := Lib.hid hfb; clear hfb
            go_wp2_with fail
            go_ret
            exact ⟨_, rfl, ⟨len, rfl, by have := HJ.out.2.1; omega, HJ.out.2.2.1 1 len (by rw [distO, if_neg HF0.out, HNX.out, if_pos HFB.out])⟩, HJ.out.2.2.2.1⟩
          | false =>
            rw [hfb] at hbit
            have HFB := Lib.hid hfb; clear hfb
            have hl2 := HJ.out.2.1
            have HGR := Lib.hid (show seen < seen ||| front from by
              have h1 : seen ≤ seen ||| front := Nat.left_le_or
              rcases Nat.lt_or_eq_of_le h1 with h | h
              · exact h
              · refine absurd (Nat.eq_of_testBit_eq fun u => ?_) HF0.out
                rw [Nat.zero_testBit]
                cases hu : front.testBit u with
                | false => rfl
                | true =>
                  have : (seen ||| front).testBit u = true := by rw [Nat.testBit_or, hu, Bool.or_true]
                  rw [← h] at this
                  exact absurd ⟨this, hu⟩ (HJ.out.1 u))
            go_wp2_with fail
            have hgr := HGR.out
            refine ⟨⟨seen ||| front, nx, len + 1, by first | rfl | rw [eor], by first | rfl | simp, by go_num, hso, hnx, by omega, Lib.hid ⟨HDJ.out, by omega, fun g d h => HJ.out.2.2.1 (g + 1) d (by rw [distO, if_neg HF0.out, HNX.out, if_neg (by rw [HFB.out]; simp)]; exact h), HJ.out.2.2.2⟩⟩, ?_⟩
            simp [intOf]; omega
end Go.Proofs.Ytkiahnffepbgpaa
