/-
  Contract of the reference's Permute.
-/
import Derived.Test.YtdagdamliggfmaaRef
import Derived.Test.YtdagdamliggfmaaMk
namespace Go.Proofs.Ytdagdamliggfmaa
open Go.RowKit

theorem shl_add (x j : Nat) (hx : x < 2 ^ j) (hj : j < 32) : ((x : Int) + (2 : Int) ^ j % 4294967296) % 4294967296 = ((x + 2 ^ j : Nat) : Int) := by
  rw [shl_mod j hj]
  have h2 : 2 ^ j * 2 ≤ 2 ^ 32 := by rw [← Nat.pow_succ]; exact two_pow_le hj
  generalize 2 ^ j = y at *
  omega

set_option maxHeartbeats 2000000 in
theorem rpermute_any (n : Int) (A : Option Addr) (es : List Nat) (len c : Nat) (Ap : Option Addr) (p : List Int) (np cp : Nat) (w : World) (hr : Es w w.heap.size A len es) (hp : Xs w w.heap.size Ap np p)
    (hl : len ≤ 64) (hnp : np ≤ 32) (hpos : ∀ x ∈ p, 0 ≤ x) :
    Calls Try.prog 15 #[.agg #[.int .i64 n, .slice A len c], .slice Ap np cp] w fun e w' => ∃ A' c', e = .returned (.agg #[.int .i64 n, .slice A' len c']) ∧ Es w' w'.heap.size A' len (es.map (ren p)) ∧ Below w.heap.size w w' := by
  have HR := Lib.hid hr; clear hr
  have HP := Lib.hid hp; clear hp
  have HPOS := Lib.hid hpos; clear hpos
  go_enter Try.func15, Try.ntmps15
  go_wp2_with fail
  go_loopw [6, 7, 8] (fun i _ _ wr => ∃ (k : Nat) (L : List Nat) (v : Value), k ≤ len ∧ i = .int .i64 k ∧ Hid (L = (es.take k).map (ren p) ∧ wr.ownsRow w.heap.size 35 1 v k (U32 L) ∧
      GB wr w.heap.size 31 (.int .i64 n) (.slice A len c) ∧ GB wr (w.heap.size + 1) 31 (.int .i64 0) (.slice none 0 0) ∧ GB wr (w.heap.size + 1 + 1) 31 (.int .i64 n) v ∧ Below w.heap.size w wr)) (fun i _ _ _ => len - (intOf i).toNat)
  case atStart =>
    refine ⟨0, [], .slice none 0 0, Nat.zero_le _, rfl, Lib.hid ⟨rfl, own_nil _ _ _, ?_, ?_, ?_, ?_⟩⟩
    · exact GB.alloc (GB.alloc (GB.made _ _ _ _) _) _
    · simpa using GB.alloc (GB.made (w.alloc _) 31 (.int .i64 0) (.slice none 0 0)) _
    · simpa using GB.made ((w.alloc _).alloc _) 31 (.int .i64 n) (.slice none 0 0)
    · exact (((Below.refl _ _).alloc (Nat.le_refl _) _).alloc (by simp) _).alloc (by simp; omega) _
  case round =>
    obtain ⟨k, L, v, hk, rfl, HI⟩ := hrel
    have c1 := HI.out.2.2.1.c1
    by_cases hlt : k < len
    · obtain ⟨ad, rfl, hb1, hcell⟩ := (HR.out.below HI.out.2.2.2.2.2).at_ hlt
      have hek := HR.out.lt hlt
      have hlk : k < es.length := by have := HR.out.len; omega
      clear hcell
      obtain ⟨wo, rfl⟩ : ∃ wo : World, wo = wr := ⟨_, rfl⟩
      go_wp2_with fail
      clear c1
      go_loopw [7, 8] (fun x i wr => ∃ (j : Nat), j ≤ np ∧ i = .int .i64 j ∧ x = .int .u32 (renTo p (nth es k) j : Int) ∧ Hid (wr.ownsRow w.heap.size 35 1 v k (U32 L) ∧
        GB wr w.heap.size 31 (.int .i64 n) (.slice (some ad) len c) ∧ GB wr (w.heap.size + 1) 31 (.int .i64 0) (.slice none 0 0) ∧ GB wr (w.heap.size + 1 + 1) 31 (.int .i64 n) v ∧ Below w.heap.size w wr)) (fun _ i _ => np - (intOf i).toNat)
      case atStart => exact ⟨0, Nat.zero_le _, rfl, rfl, Lib.hid HI.out.2⟩
      case round =>
        obtain ⟨j, hj, rfl, rfl, HJ⟩ := hrel
        by_cases hjn : j < np
        · obtain ⟨ad2, rfl, hb2, hcell2⟩ := (HP.out.below HJ.out.2.2.2.2).at_ hjn
          obtain ⟨ad', e1, _, hcell⟩ := (HR.out.below HJ.out.2.2.2.2).at_ hlt
          cases e1
          have hlp : j < p.length := by have := HP.out.len; omega
          have hrg := HPOS.out _ (inth_mem hlp)
          have hrg2 := HP.out.lt hjn
          generalize hv : inth p j = u at *
          obtain ⟨u, rfl⟩ := Int.eq_ofNat_of_zero_le hrg
          have HU := Lib.hid hv; clear hv
          have c1 := HJ.out.2.1.c1
          have hadd := Lib.hid (shl_add (renTo p (nth es k) j) j (renTo_lt p (nth es k) j) (by omega))
          have hu : (inth p j).toNat = u := by rw [HU.out]; simp
          have HU2 := Lib.hid hu; clear hu
          by_cases hbit : (nth es k).testBit u = true
          · go_wp2_with fail
            go_quiet ((go_at_call 34; exact quiet_left (has_any (nth es k) u hek _)))
            rw [hbit]
            have HBIT := Lib.hid hbit; clear hbit
            go_wp2_with fail
            refine ⟨⟨j + 1, by omega, by go_num, ?_, Lib.hid ⟨own_drewN HJ.out.1 _, HJ.out.2.1.drewN _, HJ.out.2.2.1.drewN _, HJ.out.2.2.2.1.drewN _, below_drewN HJ.out.2.2.2.2 _⟩⟩, by simp [intOf]; omega⟩
            rw [hadd.out, renTo, HU2.out, if_pos HBIT.out]
          · have hbit2 : (nth es k).testBit u = false := by simpa using hbit
            clear hbit
            go_wp2_with fail
            go_quiet ((go_at_call 34; exact quiet_left (has_any (nth es k) u hek _)))
            rw [hbit2]
            have HBIT := Lib.hid hbit2; clear hbit2
            go_wp2_with fail
            refine ⟨⟨j + 1, by omega, by go_num, ?_, Lib.hid ⟨own_drewN HJ.out.1 _, HJ.out.2.1.drewN _, HJ.out.2.2.1.drewN _, HJ.out.2.2.2.1.drewN _, below_drewN HJ.out.2.2.2.2 _⟩⟩, by simp [intOf]; omega⟩
            rw [renTo, HU2.out, if_neg (by rw [HBIT.out]; simp), Nat.add_zero]
        · obtain ⟨hown, hg0, hg1, hg2, hbl⟩ := HJ.out
          have d1 := hg2.c1
          have fz := hg2.f1
          have hl2 := hg2.lt
          have Hown := Lib.hid hown; clear hown
          have HBL := Lib.hid hbl; clear hbl
          have HG2 := Lib.hid hg2; clear hg2
          have HG01 := Lib.hid (And.intro hg0 hg1); clear hg0 hg1
          go_wp2_with (at_builtin; refine app_u32 rfl (.tmp 40) (.tmp 42) rfl w.heap.size v k L rfl (Hown.out.alloc _) wr.heap.size (renTo p (nth es k) j) rfl (Blk.new _ _ _) (by omega) (by have := HBL.out.size; simp; omega) ?_; intro v' w1 hown1 hg hat; obtain ⟨A', c', rfl⟩ := own_form hown1; have d2 := (GB.appended (HG2.out.alloc _) (Hown.out.alloc _) hg (by decide)).c1; have fz2 := (GB.appended (HG2.out.alloc _) (Hown.out.alloc _) hg (by decide)).f1; have Hown1 := Lib.hid hown1; clear hown1; have Hg := Lib.hid hg; clear hg; clear hat)
          have G0 := GB.appended (HG01.out.1.alloc _) (Hown.out.alloc _) Hg.out (by decide)
          have G1 := GB.appended (HG01.out.2.alloc _) (Hown.out.alloc _) Hg.out (by decide)
          have G2 := GB.appended (HG2.out.alloc _) (Hown.out.alloc _) Hg.out (by decide)
          have hBl : Below w.heap.size w w1 := Below.appended (HBL.out.alloc HBL.out.size _) (Hown.out.alloc _) Hg.out (by have := HBL.out.size; simp; omega) (Nat.le_refl _)
          refine ⟨⟨k + 1, L ++ [renTo p (nth es k) j], .slice A' (k + 1) c', by omega, by go_num, Lib.hid ⟨?_, ?_, ?_, ?_, ?_, ?_⟩⟩, by simp [intOf]; omega⟩
          · rw [HI.out.1, List.take_succ_eq_append_getElem hlk, List.map_append, ← nth_eq hlk]
            have : j = p.length := by have := HP.out.len; omega
            simp [ren, this]
          · exact own_far Hown1.out G2.blk (by decide) _ _
          · exact G0.far (p := ⟨w.heap.size + 1 + 1, 1, none⟩) (by show w.heap.size ≠ w.heap.size + 1 + 1; omega) _
          · exact G1.far (p := ⟨w.heap.size + 1 + 1, 1, none⟩) (by show w.heap.size + 1 ≠ w.heap.size + 1 + 1; omega) _
          · exact G2.set1 _
          · exact hBl.setCell (by show w.heap.size ≤ w.heap.size + 1 + 1; omega) _
    · have d0 := HI.out.2.2.2.2.1.c0
      have d1 := HI.out.2.2.2.2.1.c1
      have e0 := HI.out.2.2.2.1.c0
      have e1 := HI.out.2.2.2.1.c1
      have f0 := HI.out.2.2.2.1.f0
      have f1 := HI.out.2.2.2.1.f1
      have hl1 := HI.out.2.2.2.1.lt
      obtain ⟨A', c', rfl⟩ := own_form HI.out.2.1
      have hf0 := HI.out.2.2.2.1.set0 (.int .i64 n)
      have r0 := hf0.c0
      have r1 := (hf0.set1 (.slice A' k c')).c1
      clear hf0
      go_wp2_with fail
      obtain rfl : k = len := by omega
      refine bodyPost_ret (v := .agg #[.int .i64 n, .slice A' k c']) (by simp [results, Try.results15, go_sem, r0, r1]) rfl ⟨A', c', rfl, ?_, ?_⟩
      · have h1 := own_far HI.out.2.1 HI.out.2.2.2.1.blk (by decide) 0 (.int .i64 n)
        have h2 := own_far h1 (HI.out.2.2.2.1.set0 (.int .i64 n)).blk (by decide) 1 (.slice A' k c')
        have hL : L = es.map (ren p) := by
          rw [HI.out.1, List.take_of_length_le (by have := HR.out.len; omega)]
        rw [hL] at h2
        obtain ⟨A2, c2, he, hes⟩ := Es.of_own h2 (by
          intro e he
          obtain ⟨x, _, rfl⟩ := List.mem_map.1 he
          exact Nat.lt_of_lt_of_le (renTo_lt p _ _) (two_pow_le (m := 32) (by have := HP.out.len; omega)))
        cases he
        exact hes
      · exact (HI.out.2.2.2.2.2.setCell (by simp) _).setCell (by simp) _

end Go.Proofs.Ytdagdamliggfmaa
