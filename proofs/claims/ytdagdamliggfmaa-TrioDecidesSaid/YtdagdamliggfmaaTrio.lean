/-
  Contracts of package trio.
-/
import Derived.Test.YtdagdamliggfmaaRef
import Derived.Test.YtdagdamliggfmaaMk
namespace Go.Proofs.Ytdagdamliggfmaa
open Go.RowKit

set_option maxHeartbeats 1000000 in
theorem permutation_any (A : Option Addr) (l : List Int) (n c b : Nat) (w : World) (hx : Xs w w.heap.size A n l) (hb : b ≤ 1000) :
    Calls Try.prog 33 #[.slice A n c, .int .i64 b] w fun e w' => e = .returned (.bool (permB l 0 b)) ∧ Below w.heap.size w w' := by
  have hle := hx.le
  have HX := Lib.hid hx; clear hx
  have hmk := mk_bool b (by omega)
  by_cases hn : (n : Int) = b
  · have hbq : ((n : Int) != (b : Int)) = false := by simp [hn]
    have HN := Lib.hid hn; clear hn
    go_enter Try.func33, Try.ntmps33
    go_wp2_with fail
    go_loopw [7, 16] (fun _ i wr => ∃ (k : Nat) (L : List Bool), k ≤ n ∧ i = .int .i64 k ∧ ((∀ x ∈ l.take k, 0 ≤ x ∧ x < b) ∧ (l.take k).Nodup ∧ L.length = b ∧ ∀ v, v < b → bnth L v = decide ((v : Int) ∈ l.take k)) ∧ Blk wr w.heap.size 4 (brow L) ∧ Below w.heap.size w wr) (fun _ i _ => n - (intOf i).toNat)
    case atStart => exact ⟨0, List.replicate b false, Nat.zero_le _, rfl, ⟨by simp, by simp, by simp, fun v _ => by simp [bnth_replicate]⟩, Blk.new _ _ _, (Below.refl _ _).alloc (Nat.le_refl _) _⟩
    case round =>
      obtain ⟨k, L, hk, rfl, hq, hblk, hbl⟩ := hrel
      have HQ := Lib.hid hq; clear hq
      by_cases hlt : k < n
      · obtain ⟨ad, rfl, hb1, hcell⟩ := (HX.out.below hbl).at_ hlt
        have hlk : k < l.length := by have := HX.out.len; omega
        have hrg := HX.out.lt hlt
        have HB := Lib.hid hbl; clear hbl
        have HK := Lib.hid hblk; clear hblk
        by_cases h1 : inth l k < 0
        · go_wp2_with fail
          go_ret
          refine ⟨ret_bool ?_, HB.out⟩
          symm
          simp only [permB, decide_eq_false_iff_not]
          rintro ⟨_, h3, _⟩
          have := h3 _ (inth_mem hlk)
          omega
        by_cases h2 : (b : Int) ≤ inth l k
        · go_wp2_with fail
          go_ret
          refine ⟨ret_bool ?_, HB.out⟩
          symm
          simp only [permB, decide_eq_false_iff_not]
          rintro ⟨_, h3, _⟩
          have := h3 _ (inth_mem hlk)
          omega
        generalize hv : inth l k = v at *
        obtain ⟨v, rfl⟩ := Int.eq_ofNat_of_zero_le (show 0 ≤ v by omega)
        have HV := Lib.hid hv; clear hv
        have hlv : v < L.length := by rw [HQ.out.2.2.1]; omega
        have hc2 : wr.cell? ⟨w.heap.size, v, none⟩ = some (.bool (bnth L v)) := by rw [HK.out.cell, brow_get hlv]
        have hf2 : wr.frozen? ⟨w.heap.size, v, none⟩ = false := HK.out.frozen v
        clear hlv
        by_cases hs : bnth L v = true
        · go_wp2_with fail
          go_ret
          refine ⟨ret_bool ?_, HB.out⟩
          symm
          simp only [permB, decide_eq_false_iff_not]
          rintro ⟨_, _, h4⟩
          have h5 := (nodup_take hlk).1 (h4.sublist (List.take_sublist _ _))
          rw [HQ.out.2.2.2 v (by omega)] at hs
          obtain ⟨j, hj, hj2⟩ := List.mem_take_iff_getElem.1 (of_decide_eq_true hs)
          refine h5.2 j (by omega) ?_
          rw [inth_eq (by omega), HV.out]; exact hj2
        · have hs : bnth L v = false := by simpa using hs
          go_wp2_with fail
          refine ⟨⟨k + 1, L.set v true, by omega, by go_num, ⟨fun x hx => ?_, ?_, ?_, fun u hu => ?_⟩, ?_, HB.out.setCell (Nat.le_refl _) _⟩, by simp [intOf]; omega⟩
          · rcases (mem_take hlk).1 hx with h | h
            · exact HQ.out.1 x h
            · rw [h, HV.out]; omega
          · refine (nodup_take hlk).2 ⟨HQ.out.2.1, fun j hj he => ?_⟩
            rw [HQ.out.2.2.2 v (by omega)] at hs
            refine of_decide_eq_false hs (List.mem_take_iff_getElem.2 ⟨j, by omega, ?_⟩)
            rw [← inth_eq (by omega), he, HV.out]
          · rw [List.length_set]; exact HQ.out.2.2.1
          · rw [bnth_set (by rw [HQ.out.2.2.1]; omega), Bool.eq_iff_iff]
            rw [decide_eq_true_iff, mem_take hlk, HV.out]
            by_cases huv : u = v
            · simp [huv]
            · rw [if_neg huv, HQ.out.2.2.2 u hu, decide_eq_true_iff]
              constructor
              · exact Or.inl
              · rintro (h | h)
                · exact h
                · omega
          · have := HK.out.set_ v (.bool true)
            rwa [brow_set] at this
      · go_wp2_with fail
        go_ret
        refine ⟨ret_bool ?_, hbl⟩
        have h1 := HX.out.len
        have h3 := HQ.out
        have h4 := HN.out
        rw [List.take_of_length_le (by omega)] at h3
        symm
        simp only [permB, decide_eq_true_eq]
        exact ⟨by omega, h3.1, h3.2.1⟩
  · have hbq : ((n : Int) != (b : Int)) = true := by simp; omega
    go_enter Try.func33, Try.ntmps33
    go_wp2_with fail
    go_ret
    refine ⟨ret_bool ?_, Below.refl _ _⟩
    have h1 := HX.out.len
    symm
    simp only [permB, decide_eq_false_iff_not]
    rintro ⟨h2, _⟩
    omega

set_option maxHeartbeats 400000 in
theorem of_any (n : Int) (A : Option Addr) (len c : Nat) (w : World) :
    Calls Try.prog 12 #[.agg #[.int .i64 n, .slice A len c]] w fun e w' => e = .returned (.agg #[.int .i64 n, .slice A len c]) ∧ Below w.heap.size w w' := by
  go_enter Try.func12, Try.ntmps12
  go_wp2_with fail
  refine bodyPost_ret (v := .agg #[.int .i64 n, .slice A len c]) (by simp [results, Try.results12, go_sem]) rfl ⟨rfl, ?_⟩
  exact ((Below.refl _ _).alloc (Nat.le_refl _) _).alloc (by simp) _

end Go.Proofs.Ytdagdamliggfmaa
