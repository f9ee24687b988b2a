/-
  Contract of trio.Permute.
-/
import Derived.Test.YtdagdamliggfmaaTrio
namespace Go.Proofs.Ytdagdamliggfmaa
open Go.RowKit

set_option maxHeartbeats 1000000 in
theorem permute_bad1 (n : Int) (A : Option Addr) (es : List Nat) (len c : Nat) (Ap : Option Addr) (np cp : Nat) (w : World) (hr : Es w w.heap.size A len es)
    (hbad : (checkCode n es != 0) = true) :
    Calls Try.prog 10 #[.agg #[.int .i64 n, .slice A len c], .slice Ap np cp] w fun e w' => e = .returned (.tuple #[.agg #[.int .i64 0, .slice none 0 0], .int .i64 (checkCode n es)]) ∧ Below w.heap.size w w' := by
  have HR := Lib.hid hr; clear hr
  go_enter Try.func10, Try.ntmps10
  go_wp2_with fail
  refine (check_any n A es len c _ ?_).mono ?_
  · exact (((HR.out.alloc (Nat.le_refl _) _).alloc (by simp) _).more (by simp; omega))
  rintro e w1 ⟨rfl, hb⟩
  have hr0 : GB w1 (w.heap.size + 1) 24 (.int .i64 0) (.slice none 0 0) := by simpa using GB.below (GB.made _ _ _ _) hb (by simp)
  have c0 := hr0.c0; have c1 := hr0.c1; have f0 := hr0.f0; have f1 := hr0.f1
  have hB : Below w.heap.size w w1 := (((Below.refl _ _).alloc (Nat.le_refl _) _).alloc (by simp) _).trans (hb.mono (by simp; omega))
  have HB := Lib.hid hB; clear hb hB
  have hf0 := hr0.set0 (.int .i64 0)
  have d0 := hf0.c0
  have d1 := (hf0.set1 (.slice none 0 0)).c1
  clear hf0
  have HR0 := Lib.hid hr0; clear hr0
  go_wp2_with fail
  refine bodyPost_ret (v := .tuple #[.agg #[.int .i64 0, .slice none 0 0], .int .i64 (checkCode n es)]) (by simp [results, Try.results10, go_sem, d0, d1]) rfl ⟨rfl, ?_⟩
  exact (HB.out.setCell (by simp) _).setCell (by simp) _

set_option maxHeartbeats 1000000 in
theorem permute_bad2 (n : Nat) (A : Option Addr) (es : List Nat) (len c : Nat) (Ap : Option Addr) (p : List Int) (np cp : Nat) (w : World) (hr : Es w w.heap.size A len es) (hp : Xs w w.heap.size Ap np p)
    (hgood : checkCode n es = 0) (hperm : permB p 0 n = false) :
    Calls Try.prog 10 #[.agg #[.int .i64 n, .slice A len c], .slice Ap np cp] w fun e w' => e = .returned (.tuple #[.agg #[.int .i64 0, .slice none 0 0], .int .i64 1]) ∧ Below w.heap.size w w' := by
  obtain ⟨_, hn, _, _⟩ := checkCode_zero hgood
  have HR := Lib.hid hr; clear hr
  have HP := Lib.hid hp; clear hp
  have HG := Lib.hid hgood; clear hgood
  have HQ := Lib.hid hperm; clear hperm
  go_enter Try.func10, Try.ntmps10
  go_wp2_with fail
  refine (check_any n A es len c _ ?_).mono ?_
  · exact (((HR.out.alloc (Nat.le_refl _) _).alloc (by simp) _).more (by simp; omega))
  rintro e w1 ⟨rfl, hb⟩
  rw [HG.out]
  have hg0 : GB w1 w.heap.size 24 (.int .i64 n) (.slice A len c) := (Blk.alloc (Blk.new _ _ _) _).below hb (by simp; omega)
  have hr0 : GB w1 (w.heap.size + 1) 24 (.int .i64 0) (.slice none 0 0) := by simpa using GB.below (GB.made _ _ _ _) hb (by simp)
  have hB : Below w.heap.size w w1 := (((Below.refl _ _).alloc (Nat.le_refl _) _).alloc (by simp) _).trans (hb.mono (by simp; omega))
  have c0 := hg0.c0
  have HB := Lib.hid hB; clear hb hB
  go_wp2_with fail
  refine (permutation_any Ap p np cp n _ ?_ (by omega)).mono ?_
  · exact HP.out.new HB.out
  rintro e w2 ⟨rfl, hb⟩
  rw [HQ.out]
  clear c0
  replace hr0 := hr0.new hb
  have hB : Below w.heap.size w w2 := HB.out.trans (hb.mono HB.out.size)
  clear HB hb
  have c0 := hr0.c0; have c1 := hr0.c1; have f0 := hr0.f0; have f1 := hr0.f1
  have hf0 := hr0.set0 (.int .i64 0)
  have d0 := hf0.c0
  have d1 := (hf0.set1 (.slice none 0 0)).c1
  have HB := Lib.hid hB; clear hB hr0 hf0 hg0
  go_wp2_with fail
  refine bodyPost_ret (v := .tuple #[.agg #[.int .i64 0, .slice none 0 0], .int .i64 1]) (by simp [results, Try.results10, go_sem, d0, d1]) rfl ⟨rfl, ?_⟩
  exact (HB.out.setCell (by simp) _).setCell (by simp) _

set_option maxHeartbeats 1000000 in
theorem permute_ok (n : Nat) (A : Option Addr) (es : List Nat) (len c : Nat) (Ap : Option Addr) (p : List Int) (np cp : Nat) (w : World) (hr : Es w w.heap.size A len es) (hp : Xs w w.heap.size Ap np p)
    (hgood : checkCode n es = 0) (hperm : permB p 0 n = true) :
    Calls Try.prog 10 #[.agg #[.int .i64 n, .slice A len c], .slice Ap np cp] w fun e w' => ∃ g c', e = .returned (.tuple #[.agg #[.int .i64 n, .slice (some ⟨g, 0, none⟩) len c'], .int .i64 0]) ∧ Es w' w'.heap.size (some ⟨g, 0, none⟩) len (es.map (ren p)) ∧ Below w.heap.size w w' := by
  obtain ⟨_, hn, hl, hall⟩ := checkCode_zero hgood
  have hl : len ≤ 64 := by have := hr.len; omega
  have hpl := hp.le
  have HALL := Lib.hid hall; clear hall
  have HR := Lib.hid hr; clear hr
  have HP := Lib.hid hp; clear hp
  have HG := Lib.hid hgood; clear hgood
  have HQ := Lib.hid hperm; clear hperm
  have hmk := mk_u32 len (by omega)
  go_enter Try.func10, Try.ntmps10
  go_wp2_with fail
  refine (check_any n A es len c _ ?_).mono ?_
  · exact (((HR.out.alloc (Nat.le_refl _) _).alloc (by simp) _).more (by simp; omega))
  rintro e w1 ⟨rfl, hb⟩
  rw [HG.out]
  have hg0 : GB w1 w.heap.size 24 (.int .i64 n) (.slice A len c) := (Blk.alloc (Blk.new _ _ _) _).below hb (by simp; omega)
  have hr0 : GB w1 (w.heap.size + 1) 24 (.int .i64 0) (.slice none 0 0) := by simpa using GB.below (GB.made _ _ _ _) hb (by simp)
  have hB : Below w.heap.size w w1 := (((Below.refl _ _).alloc (Nat.le_refl _) _).alloc (by simp) _).trans (hb.mono (by simp; omega))
  have c0 := hg0.c0
  have HB := Lib.hid hB; clear hb hB
  go_wp2_with fail
  refine (permutation_any Ap p np cp n _ ?_ (by omega)).mono ?_
  · exact (HP.out.below HB.out).more HB.out.size
  rintro e w2 ⟨rfl, hb⟩
  rw [HQ.out]
  clear c0
  replace hg0 := hg0.new hb
  replace hr0 := hr0.new hb
  have c0 := hg0.c0
  have c1 := hg0.c1
  have hB : Below w.heap.size w w2 := HB.out.trans (hb.mono HB.out.size)
  have hz : w.heap.size + 1 < w2.heap.size := hr0.lt
  have hz0 : w.heap.size < w2.heap.size := by omega
  clear HB hb
  have HG0 := Lib.hid hg0; clear hg0
  have HR0 := Lib.hid hr0; clear hr0
  have HB := Lib.hid hB; clear hB
  go_upto_region 6 with (fail)
  go_cut [7] (fun s7 wx => ∃ gB gR : Nat, s7 = .pointer (some ⟨gB, 0, none⟩) ∧ (GB wx gB 24 (.int .i64 n) (.slice (some ⟨gR, 0, none⟩) len len) ∧ Blk wx gR 35 (urow (List.replicate len 0)) ∧ gB ≠ gR ∧ w2.heap.size ≤ gB ∧ w2.heap.size ≤ gR) ∧ Below w2.heap.size w2 wx)
  case first =>
    go_region_held3 (fun w' => (∀ p : Addr, p.block < w2.heap.size → w'.cell? p = w2.cell? p) ∧ Below w2.heap.size w2 w')
      ((refine olds ?_; repeat' (first | exact Below.refl _ _ | refine Below.drew ?_ | refine Below.alloc ?_ (by simp; try omega) _))) (fail)
    · go_wp2_with fail
      go_meet
      refine ⟨w2.heap.size + 1, w2.heap.size, rfl, ⟨?_, ?_, by omega, by omega, by omega⟩, by (repeat' (first | exact Below.refl _ _ | refine Below.drew ?_ | refine Below.alloc ?_ (by simp; try omega) _))⟩
      · exact GB.drew (by simpa using GB.made (w2.alloc _) _ _ _)
      · exact Blk.alloc (Blk.new _ _ _) _
    · go_wp2_with fail
      go_meet
      refine ⟨w2.heap.size, w2.heap.size + 1, rfl, ⟨?_, ?_, by omega, by omega, by omega⟩, by (repeat' (first | exact Below.refl _ _ | refine Below.drew ?_ | refine Below.alloc ?_ (by simp; try omega) _))⟩
      · exact GB.alloc (GB.made _ _ _ _) _
      · exact Blk.drew (by simpa using Blk.new (w2.alloc _) _ _)
  case rest =>
    obtain ⟨gB, gR, rfl, ⟨hgB, hgR, hne, hl1, hl2⟩, hb⟩ := hcut
    have hg0 := HG0.out.new hb
    have hr0 := HR0.out.new hb
    have hB : Below w.heap.size w wc := HB.out.trans (hb.mono HB.out.size)
    clear hb HB HG0 HR0 c0 c1 hmk
    have c1 := hg0.c1
    have HG0 := Lib.hid hg0; clear hg0
    have HR0 := Lib.hid hr0; clear hr0
    have HGB := Lib.hid hgB; clear hgB
    have HGR := Lib.hid hgR; clear hgR
    have HB := Lib.hid hB; clear hB
    have HNE := Lib.hid hne; clear hne
    go_wp2_with fail
    clear c1
    go_loopw [8, 9, 10, 11, 34] (fun _ _ _ _ i wr => ∃ (k : Nat) (L : List Nat), k ≤ len ∧ i = .int .i64 k ∧ Hid ((L.length = len ∧ ∀ j, j < len → nth L j = if j < k then ren p (nth es j) else 0) ∧
        Blk wr gR 35 (urow L) ∧ GB wr gB 24 (.int .i64 n) (.slice (some ⟨gR, 0, none⟩) len len) ∧ GB wr w.heap.size 24 (.int .i64 n) (.slice A len c) ∧ GB wr (w.heap.size + 1) 24 (.int .i64 0) (.slice none 0 0) ∧ Below w.heap.size w wr)) (fun _ _ _ _ i _ => len - (intOf i).toNat)
    case atStart => exact ⟨0, List.replicate len 0, Nat.zero_le _, rfl, Lib.hid ⟨⟨by simp, fun j _ => by simp [nth_replicate]⟩, HGR.out, HGB.out, HG0.out, HR0.out, HB.out⟩⟩
    case round =>
      obtain ⟨k, L, hk, rfl, HI⟩ := hrel
      by_cases hlt : k < len
      · obtain ⟨ad, rfl, hb1, hcell⟩ := (HR.out.below HI.out.2.2.2.2.2).at_ hlt
        have hek := HR.out.lt hlt
        obtain ⟨wo, rfl⟩ : ∃ wo : World, wo = wr := ⟨_, rfl⟩
        go_wp2_with fail
        go_loopw [10, 11, 41] (fun _ _ i wr => ∃ (j : Nat) (L : List Nat), j ≤ np ∧ i = .int .i64 j ∧ Hid ((L.length = len ∧ (∀ j, j < len → j ≠ k → nth L j = if j < k then ren p (nth es j) else 0) ∧ nth L k = renTo p (nth es k) j) ∧
          Blk wr gR 35 (urow L) ∧ GB wr gB 24 (.int .i64 n) (.slice (some ⟨gR, 0, none⟩) len len) ∧ GB wr w.heap.size 24 (.int .i64 n) (.slice (some ad) len c) ∧ GB wr (w.heap.size + 1) 24 (.int .i64 0) (.slice none 0 0) ∧ Below w.heap.size w wr)) (fun _ _ i _ => np - (intOf i).toNat)
        case atStart =>
          refine ⟨0, L, Nat.zero_le _, rfl, Lib.hid ⟨⟨HI.out.1.1, fun j hj _ => HI.out.1.2 j hj, ?_⟩, HI.out.2⟩⟩
          rw [HI.out.1.2 k hlt, if_neg (by omega), renTo]
        case round =>
          obtain ⟨j, L, hj, rfl, HJ⟩ := hrel
          by_cases hjn : j < np
          · obtain ⟨ad2, rfl, hb2, hcell2⟩ := (HP.out.below HJ.out.2.2.2.2.2).at_ hjn
            have hlp : j < p.length := by have := HP.out.len; omega
            have hrg := (of_decide_eq_true HQ.out).2.1 _ (inth_mem hlp)
            generalize hv : inth p j = v at *
            obtain ⟨v, rfl⟩ := Int.eq_ofNat_of_zero_le hrg.1
            have HV := Lib.hid hv; clear hv
            have c1 := HJ.out.2.2.1.c1
            have hrk : k < L.length := by rw [HJ.out.1.1]; exact hlt
            have cR : wr.cell? ⟨gR, k, none⟩ = some (.int .u32 (nth L k : Int)) := by rw [HJ.out.2.1.cell, urow_get hrk]
            have fR : wr.frozen? ⟨gR, k, none⟩ = false := HJ.out.2.1.frozen k
            clear hrk
            have i1 : (0 : Int) ≤ (k : Int) := by omega
            have i2 : (k : Int) < (len : Int) := by omega
            go_wp2_with fail
            go_region
            go_wp2_with fail
            have hpn : np ≤ 32 := by
              have h1 := (of_decide_eq_true HQ.out).1
              have h2 := HP.out.len
              omega
            have hlt2 : renTo p (nth es k) j < 4294967296 := Nat.lt_of_lt_of_le (renTo_lt p _ j) (two_pow_le (m := 32) (by omega))
            rw [HJ.out.1.2.2, perm_step _ (nth es k) v j hlt2 hek (by omega)]
            have hv2 : v = (inth p j).toNat := by rw [HV.out]; simp
            rw [hv2, ← renTo_or]
            refine ⟨⟨j + 1, L.set k (renTo p (nth es k) (j + 1)), by omega, by go_num, Lib.hid ⟨⟨?_, fun i hi hik => ?_, ?_⟩, ?_, ?_, ?_, ?_, ?_⟩⟩, by simp [intOf]; omega⟩
            · rw [List.length_set]; exact HJ.out.1.1
            · rw [nth_set (by rw [HJ.out.1.1]; omega), if_neg hik]; exact HJ.out.1.2.1 i hi hik
            · rw [nth_set (by rw [HJ.out.1.1]; omega), if_pos rfl]
            · have := HJ.out.2.1.set_ k (.int .u32 (renTo p (nth es k) (j + 1) : Int))
              rw [urow_set] at this
              exact this.drew
            · exact (HJ.out.2.2.1.far (p := ⟨gR, k, none⟩) HNE.out _).drew
            · exact (HJ.out.2.2.2.1.far (p := ⟨gR, k, none⟩) (by show w.heap.size ≠ gR; omega) _).drew
            · exact (HJ.out.2.2.2.2.1.far (p := ⟨gR, k, none⟩) (by show w.heap.size + 1 ≠ gR; omega) _).drew
            · exact (HJ.out.2.2.2.2.2.setCell (p := ⟨gR, k, none⟩) (by show w.heap.size ≤ gR; omega) _).drew
          · go_wp2_with fail
            refine ⟨⟨k + 1, L, by omega, by go_num, Lib.hid ⟨⟨HJ.out.1.1, fun i hi => ?_⟩, HJ.out.2⟩⟩, by simp [intOf]; omega⟩
            by_cases hik : i = k
            · rw [hik, HJ.out.1.2.2, if_pos (by omega), ren]
              rw [show j = p.length by have := HP.out.len; omega]
            · rw [HJ.out.1.2.1 i hi hik]
              by_cases h : i < k
              · rw [if_pos h, if_pos (by omega)]
              · rw [if_neg h, if_neg (by omega)]
      · have d0 := HI.out.2.2.1.c0
        have d1 := HI.out.2.2.1.c1
        have f0 := HI.out.2.2.2.2.1.f0
        have f1 := HI.out.2.2.2.2.1.f1
        have e0 := HI.out.2.2.2.2.1.c0
        have e1 := HI.out.2.2.2.2.1.c1
        have hf0 := HI.out.2.2.2.2.1.set0 (.int .i64 n)
        have r0 := hf0.c0
        have r1 := (hf0.set1 (.slice (some ⟨gR, 0, none⟩) len len)).c1
        clear hf0
        go_wp2_with fail
        refine bodyPost_ret (v := .tuple #[.agg #[.int .i64 n, .slice (some ⟨gR, 0, none⟩) len len], .int .i64 0]) (by simp [results, Try.results10, go_sem, r0, r1]) rfl ⟨gR, len, rfl, ?_, ?_⟩
        · obtain ⟨⟨hL, hnth⟩, hb, _⟩ := HI.out
          have hlen := HR.out.len
          have heq : L = es.map (ren p) := by
            apply List.ext_getElem
            · simp [hL, hlen]
            · intro i h1 h2
              have := hnth i (by omega)
              rw [nth_eq h1, if_pos (by omega), nth_eq (by omega)] at this
              simpa using this
          have hpn : p.length ≤ 32 := by
            have h1 := (of_decide_eq_true HQ.out).1
            omega
          have h1 := Es.of_blk ((hb.far (p := ⟨w.heap.size + 1, 0, none⟩) (by show gR ≠ _; simp; omega) (.int .i64 n)).far (p := ⟨w.heap.size + 1, 1, none⟩) (by show gR ≠ _; simp; omega) (.slice (some ⟨gR, 0, none⟩) len len)) (by omega)
            (by
              intro e he
              rw [heq] at he
              obtain ⟨x, _, rfl⟩ := List.mem_map.1 he
              exact Nat.lt_of_lt_of_le (renTo_lt p _ _) (two_pow_le (m := 32) hpn))
          rw [hL] at h1
          rw [← heq]
          exact h1
        · exact (HI.out.2.2.2.2.2.setCell (by simp) _).setCell (by simp) _

end Go.Proofs.Ytdagdamliggfmaa
