/-
  Contracts of elimination: checkFree, adjacency, Set.
-/
import Derived.Test.YtdagdamliggfmaaElimP
import Derived.Test.YtdagdamliggfmaaFind2
import Derived.Test.YtdagdamliggfmaaNb
namespace Go.Proofs.Ytdagdamliggfmaa
open Go.RowKit
set_option linter.unusedSimpArgs false

theorem mem_trios {es : List Nat} {m a b c : Nat} : (a, b, c) ∈ trios es m ↔ a < b ∧ b < c ∧ c < m ∧ (adj es a).testBit b = false ∧ (adj es a).testBit c = true ∧ (adj es b).testBit c = true := by
  unfold trios restA restB restC
  simp only [List.mem_flatMap, List.mem_range'_1]
  constructor
  · rintro ⟨x, hx, y, hy, h⟩
    split at h
    · simp at h
    · rename_i hn
      simp only [List.mem_map, List.mem_filter, List.mem_range'_1, Prod.mk.injEq] at h
      obtain ⟨z, ⟨hz, hb⟩, rfl, rfl, rfl⟩ := h
      rw [Nat.testBit_and, Bool.and_eq_true] at hb
      exact ⟨by omega, by omega, by omega, by simpa using hn, hb.1, hb.2⟩
  · rintro ⟨h1, h2, h3, h4, h5, h6⟩
    refine ⟨a, by omega, b, by omega, ?_⟩
    rw [if_neg (by simp [h4])]
    simp only [List.mem_map, List.mem_filter, List.mem_range'_1, Prod.mk.injEq]
    exact ⟨c, ⟨by omega, by rw [Nat.testBit_and, h5, h6]; rfl⟩, by simp⟩
theorem trios_none {n : Nat} {es : List Nat} (hn : n ≤ 32) (hb : ∀ e ∈ es, e < 2 ^ n) : trios es n = [] ↔ NoTrio n es := by
  rw [List.eq_nil_iff_forall_not_mem]
  constructor
  · intro h c a b hc hab hbc h1 h2
    have := h (a, b, c)
    rw [mem_trios] at this
    cases hx : (adj es a).testBit b with
    | true => rfl
    | false => exact absurd ⟨hab, hbc, hc, hx, adj_symm hn hb hc h1, adj_symm hn hb hc h2⟩ this
  · rintro h ⟨a, b, c⟩ hm
    obtain ⟨h1, h2, h3, h4, h5, h6⟩ := mem_trios.1 hm
    have := h c a b h3 h1 h2 (adj_symm hn hb (by omega) h5) (adj_symm hn hb (by omega) h6)
    rw [h4] at this; cases this

set_option maxHeartbeats 1000000 in
theorem checkFree_ok (n f : Nat) (A : Option Addr) (es : List Nat) (len c : Nat) (w : World) (hr : Es w w.heap.size A len es) (hcc : checkCode n es = 0) (hf : f ≤ n) :
    Calls Try.prog 47 #[.agg #[.int .i64 n, .slice A len c], .int .i64 f] w fun e w' => e = .returned (.int .i64 0) ∧ Below w.heap.size w w' := by
  obtain ⟨_, hn, _, _⟩ := checkCode_zero hcc
  have HR := Lib.hid hr; clear hr
  have HC := Lib.hid hcc; clear hcc
  have HG := Lib.hid (GB.made w 24 (.int .i64 n) (.slice A len c))
  have HW := Lib.hid (al w (.cells #[.int .i64 n, .slice A len c] 24))
  go_enter Try.func47, Try.ntmps47
  go_wp2_with fail
  refine (check_any n A es len c _ (HR.out.new HW.out)).mono ?_
  rintro e w1 ⟨rfl, hb⟩
  rw [HC.out]
  have g0 := (HG.out.new hb).c0; have lg := (HG.out.new hb).lt
  replace HW := Lib.hid (bthen HW.out hb HW.out.size); clear hb
  go_wp2_with fail
  go_ret
  exact ⟨rfl, HW.out⟩

set_option maxHeartbeats 1000000 in
theorem set_any (v k : Nat) (p : Int) (hv : v < 32) (hk : k < 2 ^ 32) (w : World) :
    Calls Try.prog 31 #[.agg #[.int .i64 v, .int .u32 k, .int .i64 p]] w fun e w' => e = .returned (.int .u32 ((k ||| 2 ^ v : Nat) : Int)) ∧ Below w.heap.size w w' := by
  have hor := bits_or k (2 ^ v) hk (pow2_lt32 hv)
  have hsh := shl_one v hv
  have hW := al w (.cells #[.int .i64 v, .int .u32 k, .int .i64 p] 59)
  have hB := Blk.new w 59 #[.int .i64 v, .int .u32 k, .int .i64 p]
  have i1 : (0 : Int) ≤ (v : Int) := by omega
  have i2 : (v : Int) < 32 := by omega
  go_enter Try.func31, Try.ntmps31
  go_wp2_with fail
  generalize w.alloc (.cells #[.int .i64 v, .int .u32 k, .int .i64 p] 59) = w0 at hW hB ⊢
  have c0 : w0.cell? ⟨w.heap.size, 0, none⟩ = some (.int .i64 v) := by rw [hB.cell]; rfl
  have c1 : w0.cell? ⟨w.heap.size, 1, none⟩ = some (.int .u32 k) := by rw [hB.cell]; rfl
  have lb := hB.lt
  have HW := Lib.hid hW; clear hW hB
  go_quiet (fail)
  rw [shl_mod v hv, hor]
  clear hor hsh c0 c1 lb
  go_wp2_with fail
  go_ret
  exact ⟨rfl, below_drewN HW.out _⟩

set_option maxRecDepth 100000 in
set_option maxHeartbeats 2000000 in
theorem eadj_any (n : Nat) (A : Option Addr) (es : List Nat) (len c : Nat) (w : World) (hr : Es w w.heap.size A len es) (hcc : checkCode n es = 0) :
    Calls Try.prog 48 #[.agg #[.int .i64 n, .slice A len c]] w fun e w' => e = .returned (.agg (urow (adjRow n es))) ∧ Below w.heap.size w w' := by
  obtain ⟨_, hn, _, _⟩ := checkCode_zero hcc
  have HR := Lib.hid hr; clear hr
  have HC := Lib.hid hcc; clear hcc
  go_enter Try.func48, Try.ntmps48
  go_wp2_with fail
  go_loopw [7] (fun i wr => ∃ (k : Nat) (L : List Nat), k ≤ n ∧ i = .int .i64 k ∧ Hid ((L.length = 32 ∧ ∀ v, v < 32 → nth L v = if v < k then adj es v else 0) ∧
      GB wr w.heap.size 24 (.int .i64 n) (.slice A len c) ∧ Blk wr (w.heap.size + 1) 76 (urow (zer 32)) ∧ Blk wr (w.heap.size + 1 + 1) 76 (urow L) ∧ Below w.heap.size w wr)) (fun i _ => n - (intOf i).toNat)
  case atStart =>
    refine ⟨0, zer 32, Nat.zero_le _, rfl, Lib.hid ⟨⟨zer_length 32, fun v _ => by simp [nth_zer]⟩, ?_, ?_, ?_, ?_⟩⟩
    · exact GB.alloc (GB.alloc (GB.made _ _ _ _) _) _
    · have h := Blk.alloc (Blk.new (w.alloc (Obj.cells #[Value.int IntKind.i64 n, Value.slice A len c] 24)) 76 (urow (zer 32))) (.cells (urow (zer 32)) 76)
      rw [World.size_alloc] at h
      exact h
    · have h := (Blk.new ((w.alloc (Obj.cells #[Value.int IntKind.i64 n, Value.slice A len c] 24)).alloc (.cells (urow (zer 32)) 76)) 76 (urow (zer 32)))
      rw [World.size_alloc, World.size_alloc] at h
      exact h
    · exact (((Below.refl _ _).alloc (Nat.le_refl _) _).alloc (by simp) _).alloc (by simp; omega) _
  case round =>
    obtain ⟨k, L, hk, rfl, HI⟩ := hrel
    by_cases hlt : k < n
    · have c0 := HI.out.2.1.c0; have c1 := HI.out.2.1.c1; have lg := HI.out.2.1.lt
      go_wp2_with fail
      clear c0 c1 lg
      refine (neighbors_ok n k A es len c _ (HR.out.new HI.out.2.2.2.2) HC.out hlt).mono ?_
      rintro e w1 ⟨rfl, hb⟩
      have hL := HI.out.2.2.2.1.below hb HI.out.2.2.2.1.lt
      have HL := Lib.hid hL
      have hkL : k < L.length := by rw [HI.out.1.1]; omega
      have cR : w1.cell? ⟨w.heap.size + 1 + 1, k, none⟩ = some (.int .u32 (nth L k : Int)) := by rw [hL.cell, urow_get hkL]
      have fR : w1.frozen? ⟨w.heap.size + 1 + 1, k, none⟩ = false := hL.frozen k
      have HG := Lib.hid (HI.out.2.1.new hb); have HZ := Lib.hid (HI.out.2.2.1.below hb HI.out.2.2.1.lt); have HW := Lib.hid (bthen HI.out.2.2.2.2 hb HI.out.2.2.2.2.size)
      have i1 : (0 : Int) ≤ (k : Int) := by omega
      have i2 : (k : Int) < 32 := by omega
      have hset := HL.out.set_ k (.int .u32 (adj es k : Int))
      rw [urow_set] at hset
      have HSET := Lib.hid hset
      clear hb hL hkL hset
      go_wp2_with fail
      refine ⟨⟨k + 1, L.set k (adj es k), by omega, by go_num, Lib.hid ⟨⟨by rw [List.length_set]; exact HI.out.1.1, fun v hv => ?_⟩, ?_, ?_, HSET.out, ?_⟩⟩, by simp [intOf]; omega⟩
      · rw [nth_set (by rw [HI.out.1.1]; omega), HI.out.1.2 v hv]
        by_cases h : v = k
        · subst h; rw [if_pos rfl, if_pos (by omega)]
        · rw [if_neg h]
          by_cases h2 : v < k
          · rw [if_pos h2, if_pos (by omega)]
          · rw [if_neg h2, if_neg (by omega)]
      · exact HG.out.far (p := ⟨w.heap.size + 1 + 1, k, none⟩) (by show w.heap.size ≠ w.heap.size + 1 + 1; omega) _
      · exact HZ.out.far (p := ⟨w.heap.size + 1 + 1, k, none⟩) (by show w.heap.size + 1 ≠ w.heap.size + 1 + 1; omega) _
      · exact HW.out.setCell (p := ⟨w.heap.size + 1 + 1, k, none⟩) (by show w.heap.size ≤ w.heap.size + 1 + 1; omega) _
    · obtain rfl : k = n := by omega
      have hL : L = adjRow k es := by
        obtain ⟨⟨h1, h2⟩, _⟩ := HI.out
        apply List.ext_getElem
        · rw [h1, adjRow_length]
        · intro i h3 h4
          rw [← nth_eq h3, ← nth_eq h4, h2 i (by omega), nth_adjRow (by omega)]
      have HL := Lib.hid hL; clear hL
      go_wp2_with (first
        | (refine wpList_load_blk rfl 76 (.tmp 3) rfl (w.heap.size + 1 + 1) _ (urow L) _ HI.out.2.2.2.1 rfl Try.underlying76 rfl (arr_size L HI.out.1.1) ?_)
        | (refine wpList_store_blk rfl 76 (.tmp 2) (.tmp 16) rfl (w.heap.size + 1) _ _ (urow L) HI.out.2.2.1 rfl rfl (by rw [size_urow, size_urow, HI.out.1.1, zer_length]) (arr_size L HI.out.1.1) (one_urow L) ?_; intro w1 hb1 hg1 hs1))
      refine bodyPost_ret (v := .agg (urow L)) ?_ rfl ⟨by rw [HL.out], ?_⟩
      · exact results_cell_row Try.results48 _ _ _ _ _ (0, 0) _ rfl hb1 Try.underlying76 rfl (arr_size L HI.out.1.1)
      · exact HI.out.2.2.2.2.grown hg1 HI.out.2.2.2.2.size (fun k hk => by cases hk; omega)
end Go.Proofs.Ytdagdamliggfmaa
