/-
  Contracts of connex.adjacency and connex.around.
-/
import Derived.Test.YtjofdlafblpclaaDoorCx
import Derived.Test.YtjofdlafblpclaaDoorNbG
import Derived.Test.YtjofdlafblpclaaDoorWk
namespace Go.Proofs.YtjofdlafblpclaaDoor
open Go.RowKit
set_option linter.unusedSimpArgs false
set_option linter.unusedVariables false

set_option maxRecDepth 100000 in
set_option maxHeartbeats 1000000 in
theorem cxadj_any (n : Nat) (A : Option Addr) (es : List Nat) (len c : Nat) (w : World) (hr : Es w w.heap.size A len es) (hcc : checkCode n es = 0) :
    Calls Tryd.prog 32 #[.agg #[.int .i64 n, .slice A len c]] w fun e w' => e = .returned (.agg (urow (adjRow n es))) ∧ Below w.heap.size w w' := by
  obtain ⟨_, hn, _, _⟩ := checkCode_zero hcc
  have hn' : n ≤ 32 := by omega
  have HC := Lib.hid hcc; clear hcc hn
  have HR := Lib.hid hr; clear hr
  have hg0 := GB.alloc (GB.alloc (GB.made w 24 (.int .i64 n) (.slice A len c)) (.cells (urow (zer 32)) 58)) (.cells (urow (zer 32)) 58)
  have h1 := Blk.alloc (Blk.new (w.alloc (Obj.cells #[Value.int IntKind.i64 n, Value.slice A len c] 24)) 58 (urow (zer 32))) (.cells (urow (zer 32)) 58)
  rw [World.size_alloc] at h1
  have h2 := (Blk.new ((w.alloc (Obj.cells #[Value.int IntKind.i64 n, Value.slice A len c] 24)).alloc (.cells (urow (zer 32)) 58)) 58 (urow (zer 32)))
  rw [World.size_alloc, World.size_alloc] at h2
  have hb : Below w.heap.size w (((w.alloc (Obj.cells #[Value.int IntKind.i64 n, Value.slice A len c] 24)).alloc (.cells (urow (zer 32)) 58)).alloc (.cells (urow (zer 32)) 58)) := (((Below.refl _ _).alloc (Nat.le_refl _) _).alloc (by simp) _).alloc (by simp; omega) _
  have HS := Lib.hid (And.intro hg0 (And.intro h1 (And.intro h2 hb)))
  clear h1 h2 hb
  have g0 := hg0.c0; have g1 := hg0.c1
  clear hg0
  go_enter Tryd.func32, Tryd.ntmps32
  go_wp2_with fail
  go_loopw [7] (fun i wr => ∃ (k : Nat) (L : List Nat), k ≤ n ∧ i = .int .i64 k ∧ Hid ((L.length = 32 ∧ ∀ v, v < 32 → nth L v = if v < k then adj es v else 0) ∧
      GB wr w.heap.size 24 (.int .i64 n) (.slice A len c) ∧ Blk wr (w.heap.size + 1) 58 (urow (zer 32)) ∧ Blk wr (w.heap.size + 1 + 1) 58 (urow L) ∧ Below w.heap.size w wr)) (fun i _ => n - (intOf i).toNat)
  case atStart => exact ⟨0, zer 32, Nat.zero_le _, rfl, Lib.hid ⟨⟨zer_length 32, fun v _ => by simp [nth_zer]⟩, HS.out⟩⟩
  case round =>
    obtain ⟨k, L, hk, rfl, HI⟩ := hrel
    clear g0 g1
    by_cases hkn : k < n
    · have g0 := HI.out.2.1.c0; have g1 := HI.out.2.1.c1; have gl := HI.out.2.1.lt
      go_wp2_with fail
      refine (neighbors_ok n k A es len c _ (HR.out.new HI.out.2.2.2.2) HC.out hkn).mono ?_
      rintro e w2 ⟨rfl, hb⟩
      have hR := HI.out.2.2.2.1.below hb HI.out.2.2.2.1.lt
      have hG := HI.out.2.1.new hb
      have hZ := HI.out.2.2.1.below hb HI.out.2.2.1.lt
      have hB := bthen HI.out.2.2.2.2 hb HI.out.2.2.2.2.size
      have hkL : k < L.length := by rw [HI.out.1.1]; omega
      have cR : w2.cell? ⟨w.heap.size + 1 + 1, k, none⟩ = some (.int .u32 (nth L k : Int)) := by rw [hR.cell, urow_get hkL]
      have fR : w2.frozen? ⟨w.heap.size + 1 + 1, k, none⟩ = false := hR.frozen k
      have lR := hR.lt
      have HR2 := Lib.hid hR; have HG2 := Lib.hid hG; have HZ2 := Lib.hid hZ; have HB2 := Lib.hid hB
      clear hb hR hG hZ hB g0 g1 gl hkL
      have i1 : (0 : Int) ≤ (k : Int) := by omega
      have i2 : (k : Int) < 32 := by omega
      go_wp2_with fail
      refine ⟨⟨k + 1, L.set k (adj es k), by omega, by go_num, Lib.hid ⟨⟨?_, fun v hv => ?_⟩, ?_, ?_, ?_, ?_⟩⟩, by simp [intOf]; omega⟩
      · rw [List.length_set]; exact HI.out.1.1
      · rw [nth_set (by rw [HI.out.1.1]; omega)]
        by_cases hvk : v = k
        · subst hvk; rw [if_pos rfl, if_pos (by omega)]
        · rw [if_neg hvk, HI.out.1.2 v hv]
          by_cases h : v < k
          · rw [if_pos h, if_pos (by omega)]
          · rw [if_neg h, if_neg (by omega)]
      · exact HG2.out.far (p := ⟨w.heap.size + 1 + 1, k, none⟩) (by show w.heap.size ≠ w.heap.size + 1 + 1; omega) _
      · exact HZ2.out.far (p := ⟨w.heap.size + 1 + 1, k, none⟩) (by show w.heap.size + 1 ≠ w.heap.size + 1 + 1; omega) _
      · have := HR2.out.set_ k (.int .u32 (adj es k : Int))
        rw [urow_set] at this
        exact this
      · exact HB2.out.setCell (p := ⟨w.heap.size + 1 + 1, k, none⟩) (by show w.heap.size ≤ w.heap.size + 1 + 1; omega) _
    · have hL : L = adjRow n es := by
        obtain ⟨⟨h1, h2⟩, _⟩ := HI.out
        apply List.ext_getElem
        · rw [h1, adjRow_length]
        · intro i h3 h4
          rw [← nth_eq h3, ← nth_eq h4, h2 i (by omega), nth_adjRow (by omega), show k = n by omega]
      have HL := Lib.hid hL; clear hL
      go_wp2_with (first
        | (refine wpList_load_blk rfl 58 (.tmp 3) rfl (w.heap.size + 1 + 1) _ (urow L) _ HI.out.2.2.2.1 rfl Tryd.underlying58 rfl (arr_size L HI.out.1.1) ?_)
        | (refine wpList_store_blk rfl 58 (.tmp 2) (.tmp 16) rfl (w.heap.size + 1) _ _ (urow L) HI.out.2.2.1 rfl rfl (by rw [size_urow, size_urow, HI.out.1.1, zer_length]) (arr_size L HI.out.1.1) (one_urow L) ?_; intro w1 hb1 hg1 hs1))
      refine bodyPost_ret (v := .agg (urow L)) ?_ rfl ⟨by rw [HL.out], ?_⟩
      · exact results_cell_row Tryd.results32 _ _ _ _ _ (0, 0) _ rfl hb1 Tryd.underlying58 rfl (arr_size L HI.out.1.1)
      · exact HI.out.2.2.2.2.grown hg1 HI.out.2.2.2.2.size (fun k hk => by cases hk; omega)

set_option maxRecDepth 100000 in
set_option maxHeartbeats 1000000 in
theorem around_any (n : Nat) (R : List Nat) (s : Nat) (w : World) (hR : R.length = 32) (hb : ∀ x ∈ R, x < 4294967296) (hs : s < 4294967296) :
    Calls Tryd.prog 50 #[.agg (urow R), .int .u32 s] w fun e w' => e = .returned (.int .u32 (orTo R s 32 : Nat)) ∧ Below w.heap.size w w' := by
  have HK := Lib.hid (Blk.new w 58 (urow R))
  have HW := Lib.hid (al w (.cells (urow R) 58))
  have HOL := Lib.hid (show ∀ k, orTo R s k < 4294967296 from fun k => by
    induction k with
    | zero => show 0 < 4294967296; decide
    | succ k ih =>
      rw [orTo]
      split
      · refine Nat.or_lt_two_pow (n := 32) ih ?_
        by_cases h : k < R.length
        · exact hb _ (nth_mem h)
        · have : nth R k = 0 := by simp only [nth, List.getD]; rw [List.getElem?_eq_none (by omega)]; rfl
          rw [this]; decide
      · exact ih)
  have HRB := Lib.hid hb; clear hb
  go_enter Tryd.func50, Tryd.ntmps50
  go_wp2_with fail
  go_loop [5, 7] (fun v i => ∃ k : Nat, k ≤ 32 ∧ i = .int .i64 k ∧ v = .int .u32 (orTo R s k : Nat)) (fun _ i => 32 - (intOf i).toNat)
  case atStart => exact ⟨0, Nat.zero_le _, rfl, rfl⟩
  case round =>
    obtain ⟨k, hk, rfl, rfl⟩ := hrel
    by_cases hkn : k < 32
    · have hkR : k < R.length := by omega
      have hol := HOL.out k
      have hx := HRB.out _ (nth_mem hkR)
      have eor := bits_or (orTo R s k) (nth R k) hol hx
      have HST := Lib.hid (show orTo R s (k + 1) = if s.testBit k then orTo R s k ||| nth R k else orTo R s k from rfl)
      have cR : (w.alloc (.cells (urow R) 58)).cell? ⟨w.heap.size, k, none⟩ = some (.int .u32 (nth R k : Int)) := by rw [HK.out.cell, urow_get hkR]
      have i1 : (0 : Int) ≤ (k : Int) := by omega
      have i2 : (k : Int) < 32 := by omega
      generalize orTo R s k = o at *
      cases hb : s.testBit k with
      | true =>
        have ht : (bits .and .u32 ((s : Int) / 2 ^ k) 1 == 1) = true := by rw [bit_test _ _ hs]; exact hb
        have HN := Lib.hid (show orTo R s (k + 1) = o ||| nth R k by rw [HST.out, hb]; rfl); clear hb
        go_wp2_with fail
        exact ⟨⟨k + 1, by omega, by go_num, by rw [HN.out]⟩, by simp [intOf]; omega⟩
      | false =>
        have ht : (bits .and .u32 ((s : Int) / 2 ^ k) 1 == 1) = false := by rw [bit_test _ _ hs]; exact hb
        have HN := Lib.hid (show orTo R s (k + 1) = o by rw [HST.out, hb]; rfl); clear hb
        go_wp2_with fail
        exact ⟨⟨k + 1, by omega, by go_num, by rw [HN.out]⟩, by simp [intOf]; omega⟩
    · obtain rfl : k = 32 := by omega
      go_wp2_with fail
      go_ret
      exact ⟨rfl, HW.out⟩
end Go.Proofs.YtjofdlafblpclaaDoor
