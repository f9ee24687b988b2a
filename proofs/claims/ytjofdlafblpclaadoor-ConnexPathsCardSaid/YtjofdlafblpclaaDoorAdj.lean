/-
  Contracts of hypergraph.adjacency and hypergraph.Neighbors.
-/
import Derived.Test.YtjofdlafblpclaaDoorRef
import Derived.Test.YtjofdlafblpclaaDoorMk
namespace Go.Proofs.YtjofdlafblpclaaDoor
open Go.RowKit

/-- The row of neighbors that adjacency returns. -/
def adjRow (n : Nat) (es : List Nat) : List Nat := (List.range 32).map fun v => if v < n then adj es v else 0
theorem adjRow_length (n : Nat) (es : List Nat) : (adjRow n es).length = 32 := by simp [adjRow]
theorem nth_adjRow {n : Nat} {es : List Nat} {v : Nat} (hv : v < 32) : nth (adjRow n es) v = if v < n then adj es v else 0 := by
  rw [nth_eq (by rw [adjRow_length]; exact hv)]; simp [adjRow]
theorem arr_size (l : List Nat) (h : l.length = 32) : (Tryd.prog.info? 58).map (·.size) = some (urow l).size := by
  rw [size_urow, h]; kernel_rfl

set_option maxRecDepth 100000 in
set_option maxHeartbeats 1000000 in
theorem adjacency_any (n : Nat) (hn : n ≤ 32) (A : Option Addr) (es : List Nat) (len c : Nat) (w : World) (hr : Es w w.heap.size A len es) :
    Calls Tryd.prog 55 #[.agg #[.int .i64 n, .slice A len c]] w fun e w' => e = .returned (.agg (urow (adjRow n es))) ∧ Below w.heap.size w w' := by
  have hle := hr.le
  have HR := Lib.hid hr; clear hr
  go_enter Tryd.func55, Tryd.ntmps55
  go_wp2_with fail
  go_loopw [5, 6, 10] (fun _ _ i wr => ∃ (k : Nat) (L : List Nat), k ≤ len ∧ i = .int .i64 k ∧ Hid ((L.length = 32 ∧ ∀ v, v < 32 → nth L v = if v < n then adj (es.take k) v else 0) ∧
      GB wr w.heap.size 24 (.int .i64 n) (.slice A len c) ∧ Blk wr (w.heap.size + 1) 58 (urow (zer 32)) ∧ Blk wr (w.heap.size + 1 + 1) 58 (urow L) ∧ Below w.heap.size w wr)) (fun _ _ i _ => len - (intOf i).toNat)
  case atStart =>
    refine ⟨0, zer 32, Nat.zero_le _, rfl, Lib.hid ⟨⟨zer_length 32, fun v _ => by simp [nth_zer, adj]⟩, ?_, ?_, ?_, ?_⟩⟩
    · exact GB.alloc (GB.alloc (GB.made _ _ _ _) _) _
    · have h := Blk.alloc (Blk.new (w.alloc (Obj.cells #[Value.int IntKind.i64 n, Value.slice A len c] 24)) 58 (urow (zer 32))) (.cells (urow (zer 32)) 58)
      rw [World.size_alloc] at h
      exact h
    · have h := (Blk.new ((w.alloc (Obj.cells #[Value.int IntKind.i64 n, Value.slice A len c] 24)).alloc (.cells (urow (zer 32)) 58)) 58 (urow (zer 32)))
      rw [World.size_alloc, World.size_alloc] at h
      exact h
    · exact (((Below.refl _ _).alloc (Nat.le_refl _) _).alloc (by simp) _).alloc (by simp; omega) _
  case round =>
    obtain ⟨k, L, hk, rfl, HI⟩ := hrel
    by_cases hlt : k < len
    · obtain ⟨ad, rfl, hb1, hcell⟩ := (HR.out.below HI.out.2.2.2.2).at_ hlt
      have hek := HR.out.lt hlt
      have hlk : k < es.length := by have := HR.out.len; omega
      have c0 := HI.out.2.1.c0
      obtain ⟨wo, rfl⟩ : ∃ wo : World, wo = wr := ⟨_, rfl⟩
      go_wp2_with fail
      clear c0
      go_loopw [6, 16] (fun _ i wr => ∃ (j : Nat) (L : List Nat), j ≤ n ∧ i = .int .i64 j ∧ Hid ((L.length = 32 ∧ ∀ v, v < 32 → nth L v = if v < n then (if v < j then adj (es.take (k + 1)) v else adj (es.take k) v) else 0) ∧
          GB wr w.heap.size 24 (.int .i64 n) (.slice (some ad) len c) ∧ Blk wr (w.heap.size + 1) 58 (urow (zer 32)) ∧ Blk wr (w.heap.size + 1 + 1) 58 (urow L) ∧ Below w.heap.size w wr)) (fun _ i _ => n - (intOf i).toNat)
      case atStart => exact ⟨0, L, Nat.zero_le _, rfl, Lib.hid ⟨⟨HI.out.1.1, fun v hv => by rw [HI.out.1.2 v hv]; simp⟩, HI.out.2⟩⟩
      case round =>
        obtain ⟨j, L, hj, rfl, HJ⟩ := hrel
        by_cases hjn : j < n
        · have hj32 : j < 32 := by omega
          have hjL : j < L.length := by rw [HJ.out.1.1]; exact hj32
          have cR : wr.cell? ⟨w.heap.size + 1 + 1, j, none⟩ = some (.int .u32 (nth L j : Int)) := by rw [HJ.out.2.2.2.1.cell, urow_get hjL]
          have fR : wr.frozen? ⟨w.heap.size + 1 + 1, j, none⟩ = false := HJ.out.2.2.2.1.frozen j
          clear hjL
          have i1 : (0 : Int) ≤ (j : Int) := by omega
          have i2 : (j : Int) < 32 := by omega
          go_wp2_with fail
          · go_region
            go_wp2_with fail
            have ht : (bits .and .u32 ((nth es k : Int) / 2 ^ j) 1 == 1) = true := by assumption
            rw [bit_test _ _ hek] at ht
            have hall : ∀ e ∈ es.take k, e < 2 ^ 32 := fun e he => HR.out.2.2 e (List.mem_of_mem_take he)
            have hLj : nth L j = adj (es.take k) j := by rw [HJ.out.1.2 j hj32, if_pos hjn, if_neg (by omega)]
            rw [hLj, adj_step _ _ _ (adj_lt hall j) hek hj32, show adj (es.take k) j ||| andn (nth es k) (2 ^ j) = adj (es.take (k + 1)) j by rw [adj_take hlk, if_pos ht]]
            refine ⟨⟨j + 1, L.set j (adj (es.take (k + 1)) j), by omega, by go_num, Lib.hid ⟨⟨?_, fun v hv => ?_⟩, ?_, ?_, ?_, ?_⟩⟩, by simp [intOf]; omega⟩
            · rw [List.length_set]; exact HJ.out.1.1
            · rw [nth_set (by rw [HJ.out.1.1]; omega)]
              by_cases hvj : v = j
              · subst hvj; rw [if_pos rfl, if_pos hjn, if_pos (by omega)]
              · rw [if_neg hvj, HJ.out.1.2 v hv]
                by_cases h : v < n
                · rw [if_pos h, if_pos h]
                  by_cases h' : v < j
                  · rw [if_pos h', if_pos (by omega)]
                  · rw [if_neg h', if_neg (by omega)]
                · rw [if_neg h, if_neg h]
            · exact (HJ.out.2.1.far (p := ⟨w.heap.size + 1 + 1, j, none⟩) (by show w.heap.size ≠ w.heap.size + 1 + 1; omega) _).drew
            · exact (HJ.out.2.2.1.far (p := ⟨w.heap.size + 1 + 1, j, none⟩) (by show w.heap.size + 1 ≠ w.heap.size + 1 + 1; omega) _).drew
            · have := HJ.out.2.2.2.1.set_ j (.int .u32 (adj (es.take (k + 1)) j : Int))
              rw [urow_set] at this
              exact this.drew
            · exact (HJ.out.2.2.2.2.setCell (p := ⟨w.heap.size + 1 + 1, j, none⟩) (by show w.heap.size ≤ w.heap.size + 1 + 1; omega) _).drew
          · have ht : (bits .and .u32 ((nth es k : Int) / 2 ^ j) 1 == 1) = false := by assumption
            rw [bit_test _ _ hek] at ht
            refine ⟨⟨j + 1, L, by omega, by go_num, Lib.hid ⟨⟨HJ.out.1.1, fun v hv => ?_⟩, HJ.out.2⟩⟩, by simp [intOf]; omega⟩
            rw [HJ.out.1.2 v hv]
            by_cases h : v < n
            · rw [if_pos h, if_pos h]
              by_cases h' : v < j
              · rw [if_pos h', if_pos (by omega)]
              · rw [if_neg h']
                by_cases hvj : v = j
                · subst hvj; rw [if_pos (by omega), adj_take hlk, ht, if_neg (by simp)]
                · rw [if_neg (by omega)]
            · rw [if_neg h, if_neg h]
        · go_wp2_with fail
          refine ⟨⟨k + 1, L, by omega, by go_num, Lib.hid ⟨⟨HJ.out.1.1, fun i hi => ?_⟩, HJ.out.2⟩⟩, by simp [intOf]; omega⟩
          rw [HJ.out.1.2 i hi]
          by_cases h : i < n
          · rw [if_pos h, if_pos h, if_pos (by omega)]
          · rw [if_neg h, if_neg h]
    · have hL : L = adjRow n es := by
        obtain ⟨⟨h1, h2⟩, _⟩ := HI.out
        have hlen := HR.out.len
        apply List.ext_getElem
        · rw [h1, adjRow_length]
        · intro i h3 h4
          rw [← nth_eq h3, ← nth_eq h4, h2 i (by omega), nth_adjRow (by omega), List.take_of_length_le (by omega)]
      have HL := Lib.hid hL; clear hL
      go_wp2_with (first
        | (refine wpList_load_blk rfl 58 (.tmp 3) rfl (w.heap.size + 1 + 1) _ (urow L) _ HI.out.2.2.2.1 rfl Tryd.underlying58 rfl (arr_size L HI.out.1.1) ?_)
        | (refine wpList_store_blk rfl 58 (.tmp 2) (.tmp 35) rfl (w.heap.size + 1) _ _ (urow L) HI.out.2.2.1 rfl rfl (by rw [size_urow, size_urow, HI.out.1.1, zer_length]) (arr_size L HI.out.1.1) (one_urow L) ?_; intro w1 hb1 hg1 hs1))
      refine bodyPost_ret (v := .agg (urow L)) ?_ rfl ⟨by rw [HL.out], ?_⟩
      · exact results_cell_row Tryd.results55 _ _ _ _ _ (0, 0) _ rfl hb1 Tryd.underlying58 rfl (arr_size L HI.out.1.1)
      · exact HI.out.2.2.2.2.grown hg1 HI.out.2.2.2.2.size (fun k hk => by cases hk; omega)

end Go.Proofs.YtjofdlafblpclaaDoor
