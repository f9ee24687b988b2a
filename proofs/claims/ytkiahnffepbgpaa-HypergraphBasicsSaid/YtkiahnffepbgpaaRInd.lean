/-
  Contract of the reference's Induced.
-/
import Derived.Test.YtkiahnffepbgpaaInd
import Derived.Test.YtkiahnffepbgpaaAwk26
import Derived.Test.YtkiahnffepbgpaaFew
import Derived.BigRegion
import Derived.Deep.RegionLaw
namespace Go.Proofs.Ytkiahnffepbgpaa
open Go.RowKit
set_option linter.unusedSimpArgs false
set_option linter.unusedVariables false

theorem step_app_u32r {ops : Array Oper} {o : Oper} {a : Act} {w : World} {K : Act → World → Prop} {Q : Exit → Act → World → Prop} {E : Prop} (hgd : o.guard = none) (s x : Operand) (ho : o.op = .call { callee := .builtin .append, args := #[s, x], argTypes := #[22, 22] })
    (base : Nat) (v : Value) (L : List Nat) (hs : a.eval s = v) (hown : w.ownsRow base 36 1 v L.length (U32 L)) (g y : Nat) (hx : a.eval x = .slice (some ⟨g, 0, none⟩) 1 1) (hb : Blk w g 36 #[.int .u32 (y : Int)])
    (hk : L.length ≤ 1000000) (hbase : base ≤ w.heap.size)
    (h : ∀ v' w', w'.ownsRow base 36 1 v' (L ++ [y]).length (U32 (L ++ [y])) → w.grownBy w' v.ownBlock → (v'.ownBlock = v.ownBlock ∨ v'.ownBlock = some w.heap.size) → K (a.put o.dst v') w') :
    if Region.wanted o (yielded ops a.tmps) = true then Oper.wp Try.prog o a w K Q else E := by
  obtain ⟨i, hi, hz, hs1, hby⟩ := info_parts info_u32
  have hr : Reads w w.heap.size 1 (some ⟨g, 0, none⟩) 1 [.int .u32 (y : Int)] := ⟨rfl, fun _ => ⟨_, rfl, hb.lt, fun j u hu => by
    have e : (Addr.add ⟨g, 0, none⟩ j) = ⟨g, j, none⟩ := by unfold Addr.add; split <;> simp_all
    rw [e, hb.cell]; simpa using hu⟩⟩
  refine step_append_any w hgd s x 22 ho base 36 i _ 1 4 Try.underlying22 hi hz hs1 hby rfl (by omega) v L.length (U32 L) hs hown w.heap.size _ 1 1 _ hx hr (by simp; rfl) (by simp only [maxLen]; omega) (by omega) hbase ?_
  intro v' w' h1 h2 h3
  exact h v' w' (by rw [List.length_append]; simpa [U32] using h1) h2 h3
theorem rgraph_size (a b : Value) : (Try.prog.info? 26).map (·.size) = some (#[a, b] : Array Value).size := by kernel_rfl
set_option maxRecDepth 100000 in
set_option maxHeartbeats 4000000 in
theorem rinduced_any (n : Int) (A : Option Addr) (es : List Nat) (len c s : Nat) (w : World) (hr : Es w w.heap.size A len es) (hs : s < 4294967296) (hl64 : len ≤ 70) :
    Calls Try.prog 30 #[.agg #[.int .i64 n, .slice A len c], .int .u32 s] w (IndRet n (indL es s) w) := by
  have hle := hr.le
  have HLE := Lib.hid hr.len
  have HR := Lib.hid hr; clear hr
  have hg2 := ((GB.made w 26 (.int .i64 n) (.slice A len c)).alloc (.cells #[.int .i64 0, .slice none 0 0] 26)).alloc (.cells #[.int .i64 n, .slice none 0 0] 26)
  have hg4 : GB (((w.alloc (.cells #[.int .i64 n, .slice A len c] 26)).alloc (.cells #[.int .i64 0, .slice none 0 0] 26)).alloc (.cells #[.int .i64 n, .slice none 0 0] 26)) (w.heap.size + 1) 26 (.int .i64 0) (.slice none 0 0) := GB.alloc (by
    simpa using GB.made (w.alloc (.cells #[.int .i64 n, .slice A len c] 26)) 26 (.int .i64 0) (.slice none 0 0)) _
  have hgx : GB (((w.alloc (.cells #[.int .i64 n, .slice A len c] 26)).alloc (.cells #[.int .i64 0, .slice none 0 0] 26)).alloc (.cells #[.int .i64 n, .slice none 0 0] 26)) (w.heap.size + 1 + 1) 26 (.int .i64 n) (.slice none 0 0) := by
    simpa using GB.made ((w.alloc (.cells #[.int .i64 n, .slice A len c] 26)).alloc (.cells #[.int .i64 0, .slice none 0 0] 26)) 26 (.int .i64 n) (.slice none 0 0)
  have hbw : Below w.heap.size w (((w.alloc (.cells #[.int .i64 n, .slice A len c] 26)).alloc (.cells #[.int .i64 0, .slice none 0 0] 26)).alloc (.cells #[.int .i64 n, .slice none 0 0] 26)) := bthen (bthen (al w _) (al _ _) (by simp)) (al _ _) (by simp; omega)
  have hsz : w.heap.size + 3 = (((w.alloc (.cells #[.int .i64 n, .slice A len c] 26)).alloc (.cells #[.int .i64 0, .slice none 0 0] 26)).alloc (.cells #[.int .i64 n, .slice none 0 0] 26)).heap.size := by simp
  go_enter Try.func30, Try.ntmps30
  go_upto_region 3 with (fail)
  generalize (((w.alloc (.cells #[.int .i64 n, .slice A len c] 26)).alloc (.cells #[.int .i64 0, .slice none 0 0] 26)).alloc (.cells #[.int .i64 n, .slice none 0 0] 26)) = W0 at *
  have HX := Lib.hid (show (GB W0 w.heap.size 26 (.int .i64 n) (.slice A len c) ∧ GB W0 (w.heap.size + 1) 26 (.int .i64 0) (.slice none 0 0)) ∧ GB W0 (w.heap.size + 1 + 1) 26 (.int .i64 n) (.slice none 0 0) ∧ Below w.heap.size w W0 ∧ w.heap.size + 3 ≤ W0.heap.size from ⟨⟨hg2, hg4⟩, hgx, hbw, by omega⟩)
  clear hg2 hg4 hgx hbw hsz
  obtain ⟨gx, hgxe⟩ : ∃ x, x = w.heap.size + 1 + 1 := ⟨_, rfl⟩
  rw [← hgxe] at HX ⊢
  have hwgx : w.heap.size + 2 ≤ gx ∧ gx + 1 = w.heap.size + 3 := by omega
  clear hgxe
  go_loopw [6] (fun iv wr => ∃ (k : Nat) (v : Value), iv = .int .i64 k ∧ k ≤ len ∧ Hid ((GB wr w.heap.size 26 (.int .i64 n) (.slice A len c) ∧ GB wr (w.heap.size + 1) 26 (.int .i64 0) (.slice none 0 0)) ∧ GB wr gx 26 (.int .i64 n) v ∧ wr.ownsRow (gx + 1) 36 1 v (indL (es.take k) s).length (U32 (indL (es.take k) s)) ∧ Below w.heap.size w wr ∧ gx + 1 ≤ wr.heap.size)) (fun iv _ => len - (intOf iv).toNat)
  case atStart => exact ⟨0, _, rfl, Nat.zero_le _, Lib.hid ⟨HX.out.1, HX.out.2.1, own_nil _ _ _, HX.out.2.2.1, by have := HX.out.2.2.2; omega⟩⟩
  case round =>
    obtain ⟨k, v, rfl, hk, HI⟩ := hrel
    obtain ⟨A3, c3, hv⟩ := own_form HI.out.2.2.1
    subst hv
    have a1 := HI.out.1.1.c1
    by_cases hkl : k < len
    · obtain ⟨ad, rfl, hb1, hcell⟩ := (HR.out.below HI.out.2.2.2.1).at_ hkl
      have hlk : k < es.length := by have := HLE.out; omega
      have hek := HR.out.lt hkl
      have HTK := Lib.hid (indL_take (s := s) hlk)
      have eand := bits_and (nth es k) s hek hs
      have hx32 : nth es k &&& s < 4294967296 := Nat.lt_of_le_of_lt Nat.and_le_left hek
      have hll : (indL (es.take k) s).length ≤ k := by have := indL_length (es.take k) s; rw [List.length_take] at this; omega
      have HO := Lib.hid HI.out.2.2.1
      have HG := Lib.hid HI.out.2.1
      have HG2 := Lib.hid HI.out.1.1
      have HG4 := Lib.hid HI.out.1.2
      have HB := Lib.hid HI.out.2.2.2.1
      have hws := HI.out.2.2.2.2
      have i1 : (0 : Int) ≤ (k : Int) := by omega
      have i2 : (k : Int) < (len : Int) := by omega
      clear HI hlk
      generalize nth es k &&& s = x at *
      generalize indL (es.take k) s = L0 at *
      by_cases hx0 : x = 0
      · have t1 : ((x : Int) != 0) = false := by simp [hx0]
        have ht := HTK.out
        rw [if_pos hx0, List.append_nil] at ht
        have HT := Lib.hid ht; clear ht hx0
        go_wp2_with fail
        exact ⟨⟨k + 1, .slice A3 L0.length c3, by go_num, by omega, Lib.hid (by rw [HT.out]; exact ⟨⟨HG2.out, HG4.out⟩, HG.out, HO.out, HB.out, hws⟩)⟩, by simp [intOf]; omega⟩
      · have t1 : ((x : Int) != 0) = true := by simp; omega
        have ht := HTK.out
        rw [if_neg hx0] at ht
        have HT := Lib.hid ht; clear ht hx0
        have k1 := HG.out.c1
        have f1 := HG.out.f1
        have lx := HG.out.lt
        go_upto_region 6 with (fail)
        go_region_law (first
          | ((refine step_app_u32r rfl _ _ rfl (gx + 1) (.slice A3 L0.length c3) L0 rfl (World.ownsRow.alloc (own_drewN HO.out 1) _) wr.heap.size x rfl (Blk.new _ _ _) (by omega) (by simp; try omega) ?_; intro v' w7 hown' hgr hor; obtain ⟨A9, c9, rfl⟩ := own_form hown'; have HO9 := Lib.hid hown'; have hX9 := GB.appended ((HG.out.drewN 1).alloc _) (World.ownsRow.alloc (own_drewN HO.out 1) _) hgr (by decide); have q0 := hX9.c1; have q1 := hX9.f1; have l9 := hX9.lt; have HX9 := Lib.hid hX9; have HG29 := Lib.hid (GB.appended ((HG2.out.drewN 1).alloc _) (World.ownsRow.alloc (own_drewN HO.out 1) _) hgr (by decide)); have HG49 := Lib.hid (GB.appended ((HG4.out.drewN 1).alloc _) (World.ownsRow.alloc (own_drewN HO.out 1) _) hgr (by decide)); have HBL9 := Lib.hid (Below.appended ((below_drewN HB.out 1).alloc (by first | omega | (simp; omega)) _) (World.ownsRow.alloc (own_drewN HO.out 1) _) hgr (by simp; try omega) (by omega)); have hs9 : gx + 1 ≤ w7.heap.size := Nat.le_trans (by simp; try omega) hgr.size; clear hown' hgr hor hX9)))
        all_goals
          go_wp2_with fail
          exact ⟨⟨k + 1, .slice A9 (L0.length + 1) c9, by go_num, by omega, Lib.hid (by
            rw [HT.out, show (L0 ++ [x]).length = L0.length + 1 by simp]
            exact ⟨⟨GB.far HG29.out (by show w.heap.size ≠ gx; omega) _, GB.far HG49.out (by show w.heap.size + 1 ≠ gx; omega) _⟩, HX9.out.set1 _, own_far (by have h := HO9.out; rwa [show (L0 ++ [x]).length = L0.length + 1 by simp] at h) HX9.out.blk (by decide) 1 _, HBL9.out.setCell (p := ⟨gx, 1, none⟩) (by show w.heap.size ≤ gx; omega) _, by simp; omega⟩)⟩, by simp [intOf]; omega⟩
    · obtain rfl : len = k := by omega
      have HT := Lib.hid (show indL (es.take len) s = indL es s by rw [List.take_of_length_le (by have := HLE.out; omega)])
      have hg := HI.out.2.1; have hg4 := HI.out.1.2
      have c0 := hg.c0; have c1 := hg.c1; have d0 := hg4.c0; have d1 := hg4.c1; have f0 := hg4.f0; have f1 := hg4.f1; have lg := hg4.lt; have lx := hg.lt
      clear hg hg4
      go_wp2_with fail
      refine bodyPost_ret (v := .agg #[.int .i64 n, .slice A3 (indL (es.take len) s).length c3]) ?_ rfl ⟨.slice A3 (indL (es.take len) s).length c3, rfl, ?_, two_below HI.out.2.2.2.1 (by omega) _ _⟩
      · exact results_cell_row Try.results30 _ _ _ _ _ (0, 0) _ rfl ((HI.out.1.2.set0 (.int .i64 n)).set1 (.slice A3 (indL (es.take len) s).length c3)).blk Try.underlying26 rfl (rgraph_size _ _)
      · rw [← HT.out]
        exact own_lower (own_far (own_far HI.out.2.2.1 HI.out.1.2.blk (by decide) 0 _) (HI.out.1.2.set0 _).blk (by decide) 1 _) (by omega)
end Go.Proofs.Ytkiahnffepbgpaa
