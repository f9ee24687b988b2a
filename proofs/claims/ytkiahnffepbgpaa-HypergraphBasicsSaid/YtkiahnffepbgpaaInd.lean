/-
  Contract of hypergraph.Induced.
-/
import Derived.Test.YtkiahnffepbgpaaOf
import Derived.Test.YtkiahnffepbgpaaAdj
namespace Go.Proofs.Ytkiahnffepbgpaa
open Go.RowKit
set_option linter.unusedSimpArgs false
set_option linter.unusedVariables false

/-- The edges restricted to a set, without the empty ones. -/
def indL (es : List Nat) (s : Nat) : List Nat := (es.filter fun e => decide (e &&& s ≠ 0)).map fun e => e &&& s
theorem indL_take {es : List Nat} {s k : Nat} (h : k < es.length) : indL (es.take (k + 1)) s = indL (es.take k) s ++ (if nth es k &&& s = 0 then [] else [nth es k &&& s]) := by
  unfold indL
  rw [List.take_succ_eq_append_getElem h, List.filter_append, List.map_append, nth_eq h]
  by_cases h0 : es[k] &&& s = 0
  · simp [h0]
  · simp [h0]
theorem indL_length (es : List Nat) (s : Nat) : (indL es s).length ≤ es.length := by
  unfold indL
  rw [List.length_map]
  exact List.length_filter_le _ _
theorem indL_lt {es : List Nat} {s : Nat} (h : ∀ e ∈ es, e < 4294967296) : ∀ e ∈ indL es s, e < 4294967296 := by
  intro e he
  rw [indL, List.mem_map] at he
  obtain ⟨x, hx, rfl⟩ := he
  exact Nat.lt_of_le_of_lt Nat.and_le_left (h x (List.mem_filter.1 hx).1)
def indN (n : Int) (es : List Nat) : Int := if checkCode n es = 0 then n else 0
def indE (n : Int) (es : List Nat) (s : Nat) : List Nat := if checkCode n es = 0 then indL es s else []
/-- What Induced answers. -/
def IndRet (n : Int) (l : List Nat) (w : World) (e : Ending) (w' : World) : Prop := ∃ v, e = .returned (.agg #[.int .i64 n, v]) ∧ w'.ownsRow w.heap.size 36 1 v l.length (U32 l) ∧ Below w.heap.size w w'
set_option maxRecDepth 100000 in
set_option maxHeartbeats 4000000 in
theorem induced_any (n : Int) (A : Option Addr) (es : List Nat) (len c s : Nat) (w : World) (hr : Es w w.heap.size A len es) (hs : s < 4294967296) :
    Calls Try.prog 28 #[.agg #[.int .i64 n, .slice A len c], .int .u32 s] w (IndRet (indN n es) (indE n es s) w) := by
  have hle := hr.le
  have HLE := Lib.hid hr.len
  have HR := Lib.hid hr; clear hr
  have hg2 := (GB.made w 24 (.int .i64 n) (.slice A len c)).alloc (.cells #[.int .i64 0, .slice none 0 0] 24)
  have hg4 : GB ((w.alloc (.cells #[.int .i64 n, .slice A len c] 24)).alloc (.cells #[.int .i64 0, .slice none 0 0] 24)) (w.heap.size + 1) 24 (.int .i64 0) (.slice none 0 0) := by
    simpa using GB.made (w.alloc (.cells #[.int .i64 n, .slice A len c] 24)) 24 (.int .i64 0) (.slice none 0 0)
  have hbw : Below w.heap.size w ((w.alloc (.cells #[.int .i64 n, .slice A len c] 24)).alloc (.cells #[.int .i64 0, .slice none 0 0] 24)) := bthen (al w _) (al _ _) (by simp)
  have hsz : w.heap.size + 2 = ((w.alloc (.cells #[.int .i64 n, .slice A len c] 24)).alloc (.cells #[.int .i64 0, .slice none 0 0] 24)).heap.size := by simp
  go_enter Try.func28, Try.ntmps28
  go_wp2_with fail
  generalize ((w.alloc (.cells #[.int .i64 n, .slice A len c] 24)).alloc (.cells #[.int .i64 0, .slice none 0 0] 24)) = W0 at *
  refine (check_any n A es len c _ (HR.out.new hbw)).mono ?_
  rintro e w1 ⟨rfl, hb⟩
  have H2 := Lib.hid (hg2.new hb); have H4 := Lib.hid (hg4.new hb); have HB := Lib.hid (bthen hbw hb hbw.size)
  have hs1 : w.heap.size + 2 ≤ w1.heap.size := by have := hb.size; omega
  clear hg2 hg4 hbw hsz hb
  obtain ⟨cc, hcc⟩ : ∃ x, x = checkCode n es := ⟨_, rfl⟩
  rw [← hcc]
  have HCC := Lib.hid hcc; clear hcc
  have c0 := H2.out.c0; have c1 := H2.out.c1; have d0 := H4.out.c0; have d1 := H4.out.c1; have f0 := H4.out.f0; have f1 := H4.out.f1; have l4 := H4.out.lt; have l2 := H2.out.lt
  by_cases h0 : cc = 0
  · have t0 : (cc != 0) = false := by simp [h0]
    have hl64 : len ≤ 64 := by have := (checkCode_zero (HCC.out.symm.trans h0)).2.2.1; have := HLE.out; omega
    have HIF := Lib.hid h0; clear h0
    have hgx := GB.made w1 24 (.int .i64 n) (.slice none 0 0)
    go_upto_region 5 with (fail)
    have HX := Lib.hid (show GB (w1.alloc (.cells #[.int .i64 n, .slice none 0 0] 24)) w1.heap.size 24 (.int .i64 n) (.slice none 0 0) ∧ GB (w1.alloc (.cells #[.int .i64 n, .slice none 0 0] 24)) (w.heap.size + 1) 24 (.int .i64 0) (.slice none 0 0) ∧ Below w.heap.size w (w1.alloc (.cells #[.int .i64 n, .slice none 0 0] 24)) ∧ w1.heap.size + 1 ≤ (w1.alloc (.cells #[.int .i64 n, .slice none 0 0] 24)).heap.size from ⟨hgx, H4.out.alloc _, HB.out.alloc (by omega) _, by simp⟩)
    clear hgx c0 c1 d0 d1 f0 f1 l4 l2 t0
    generalize w1.alloc (.cells #[.int .i64 n, .slice none 0 0] 24) = W1 at *
    generalize hgxe : w1.heap.size = gx at *
    clear hgxe H2 H4 HB
    go_loopw [18] (fun iv wr => ∃ (k : Nat) (v : Value), iv = .int .i64 k ∧ k ≤ len ∧ Hid (GB wr gx 24 (.int .i64 n) v ∧ GB wr (w.heap.size + 1) 24 (.int .i64 0) (.slice none 0 0) ∧ wr.ownsRow (gx + 1) 36 1 v (indL (es.take k) s).length (U32 (indL (es.take k) s)) ∧ Below w.heap.size w wr ∧ gx + 1 ≤ wr.heap.size)) (fun iv _ => len - (intOf iv).toNat)
    case atStart => exact ⟨0, _, rfl, Nat.zero_le _, Lib.hid ⟨HX.out.1, HX.out.2.1, own_nil _ _ _, HX.out.2.2.1, HX.out.2.2.2⟩⟩
    case round =>
      obtain ⟨k, v, rfl, hk, HI⟩ := hrel
      obtain ⟨A3, c3, hv⟩ := own_form HI.out.2.2.1
      subst hv
      by_cases hkl : k < len
      · obtain ⟨ad, rfl, hb1, hcell⟩ := (HR.out.below HI.out.2.2.2.1).at_ hkl
        have hlk : k < es.length := by have := HLE.out; omega
        have hek := HR.out.lt hkl
        have HTK := Lib.hid (indL_take (s := s) hlk)
        have eand := bits_and (nth es k) s hek hs
        have hx32 : nth es k &&& s < 4294967296 := Nat.lt_of_le_of_lt Nat.and_le_left hek
        have hll : (indL (es.take k) s).length ≤ k := by have := indL_length (es.take k) s; rw [List.length_take] at this; omega
        have HO := Lib.hid HI.out.2.2.1
        have HG := Lib.hid HI.out.1
        have HG4 := Lib.hid HI.out.2.1
        have HB := Lib.hid HI.out.2.2.2.1
        have hws := HI.out.2.2.2.2
        have hwgx : w.heap.size + 2 ≤ gx := hs1
        clear HI hlk
        generalize nth es k &&& s = x at *
        generalize indL (es.take k) s = L0 at *
        by_cases hx0 : x = 0
        · have t1 : ((x : Int) != 0) = false := by simp [hx0]
          have ht := HTK.out
          rw [if_pos hx0, List.append_nil] at ht
          have HT := Lib.hid ht; clear ht hx0
          go_wp2_with fail
          exact ⟨⟨k + 1, .slice A3 L0.length c3, by go_num, by omega, Lib.hid (by rw [HT.out]; exact ⟨HG.out, HG4.out, HO.out, HB.out, hws⟩)⟩, by simp [intOf]; omega⟩
        · have t1 : ((x : Int) != 0) = true := by simp; omega
          have ht := HTK.out
          rw [if_neg hx0] at ht
          have HT := Lib.hid ht; clear ht hx0
          have k1 := HG.out.c1
          go_wp2_with (at_builtin; refine app_u32 rfl _ _ rfl (gx + 1) (.slice A3 L0.length c3) L0.length L0 rfl (World.ownsRow.alloc HO.out _) wr.heap.size x rfl (Blk.new _ _ _) (by omega) (by simp; try omega) ?_; intro v' w7 hown' hgr hor; obtain ⟨A7, c7, rfl⟩ := own_form hown'; have HO7 := Lib.hid hown'; have hG7 := GB.appended (HG.out.alloc _) (World.ownsRow.alloc HO.out _) hgr (by decide); have HG7 := Lib.hid hG7; have HG47 := Lib.hid (GB.appended (HG4.out.alloc _) (World.ownsRow.alloc HO.out _) hgr (by decide)); have HB7 := Lib.hid (Below.appended (HB.out.alloc (by omega) _) (World.ownsRow.alloc HO.out _) hgr (by simp; try omega) (by omega)); have hs7 : gx + 1 ≤ w7.heap.size := Nat.le_trans (by simp; try omega) hgr.size; have k2 := hG7.c1; have q1 := hG7.f1; have l1 := hG7.lt; clear hown' hgr hor hG7)
          refine ⟨⟨k + 1, .slice A7 (L0.length + 1) c7, by go_num, by omega, Lib.hid ?_⟩, by simp [intOf]; omega⟩
          rw [HT.out, show (L0 ++ [x]).length = L0.length + 1 by simp]
          exact ⟨HG7.out.set1 _, GB.far HG47.out (by show w.heap.size + 1 ≠ gx; omega) _, own_far HO7.out HG7.out.blk (by decide) 1 _, HB7.out.setCell (p := ⟨gx, 1, none⟩) (by show w.heap.size ≤ gx; omega) _, by simp; omega⟩
      · obtain rfl : len = k := by omega
        have HT := Lib.hid (show indL (es.take len) s = indL es s by rw [List.take_of_length_le (by have := HLE.out; omega)])
        have hg := HI.out.1; have hg4 := HI.out.2.1
        have c0 := hg.c0; have c1 := hg.c1; have d0 := hg4.c0; have d1 := hg4.c1; have f0 := hg4.f0; have f1 := hg4.f1; have lg := hg4.lt; have lx := hg.lt
        clear hg hg4
        go_wp2_with fail
        refine bodyPost_ret (v := .agg #[.int .i64 n, .slice A3 (indL (es.take len) s).length c3]) ?_ rfl ⟨.slice A3 (indL (es.take len) s).length c3, ?_, ?_, two_below HI.out.2.2.2.1 (by omega) _ _⟩
        · exact results_cell_row Try.results28 _ _ _ _ _ (0, 0) _ rfl ((HI.out.2.1.set0 (.int .i64 n)).set1 (.slice A3 (indL (es.take len) s).length c3)).blk Try.underlying24 rfl (graph_size _ _)
        · rw [indN, if_pos (by rw [← HCC.out]; exact HIF.out)]
        · rw [indE, if_pos (by rw [← HCC.out]; exact HIF.out), ← HT.out]
          exact own_lower (own_far (own_far HI.out.2.2.1 HI.out.2.1.blk (by decide) 0 _) (HI.out.2.1.set0 _).blk (by decide) 1 _) (by omega)
  · have t0 : (cc != 0) = true := by simp [h0]
    have HIF := Lib.hid h0; clear h0
    go_wp2_with fail
    refine bodyPost_ret (v := .agg #[.int .i64 0, .slice none 0 0]) ?_ rfl ⟨.slice none 0 0, ?_, ?_, two_below HB.out (by omega) _ _⟩
    · exact results_cell_row Try.results28 _ _ _ _ _ (0, 0) _ rfl ((H4.out.set0 (.int .i64 0)).set1 (.slice none 0 0)).blk Try.underlying24 rfl (graph_size _ _)
    · rw [indN, if_neg (by rw [← HCC.out]; exact HIF.out)]
    · rw [indE, if_neg (by rw [← HCC.out]; exact HIF.out)]; exact own_nil _ _ _
end Go.Proofs.Ytkiahnffepbgpaa
