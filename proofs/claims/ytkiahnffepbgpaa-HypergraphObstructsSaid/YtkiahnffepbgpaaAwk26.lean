/-
  awake of layer 26 returns true.
-/
import Derived.Test.YtkiahnffepbgpaaAwk26P
import Derived.Test.YtkiahnffepbgpaaObs
import Derived.Test.YtkiahnffepbgpaaEqI
namespace Go.Proofs.Ytkiahnffepbgpaa
open Go.RowKit
set_option linter.unusedSimpArgs false
set_option linter.unusedVariables false

theorem own_mk3 (w : World) (a b c : Nat) : (w.alloc (.cells #[.int .u32 (a : Int), .int .u32 (b : Int), .int .u32 (c : Int)] 36)).ownsRow w.heap.size 36 1 (.slice (some ⟨w.heap.size, 0, none⟩) 3 3) 3 (U32 [a, b, c]) :=
  ⟨rfl, .inr ⟨w.heap.size, 3, #[.int .u32 (a : Int), .int .u32 (b : Int), .int .u32 (c : Int)], rfl, Nat.le_refl _, heap_alloc_new w _, Nat.le_refl _, by unfold maxLen; omega, rfl, rfl⟩⟩
set_option maxRecDepth 100000 in
set_option maxHeartbeats 8000000 in
theorem awake26_any (w : World) : Calls Try.prog 11 #[] w fun e w' => e = .returned (.bool true) ∧ Below w.heap.size w w' := by
  go_enter Try.func11, Try.ntmps11
  go_wp2_with fail
  have hE : Es ((w.alloc (.cells #[.int .u32 3, .int .u32 6, .int .u32 5] 36)).alloc (.cells #[.int .i64 3, .slice (some ⟨w.heap.size, 0, none⟩) 3 3] 24)) ((w.alloc (.cells #[.int .u32 3, .int .u32 6, .int .u32 5] 36)).alloc (.cells #[.int .i64 3, .slice (some ⟨w.heap.size, 0, none⟩) 3 3] 24)).heap.size (some ⟨w.heap.size, 0, none⟩) 3 [3, 6, 5] :=
    Es.of_blk (l := [3, 6, 5]) (Blk.alloc (Blk.new w 36 (urow [3, 6, 5])) _) (by decide) (by decide)
  have hG : GB ((w.alloc (.cells #[.int .u32 3, .int .u32 6, .int .u32 5] 36)).alloc (.cells #[.int .i64 3, .slice (some ⟨w.heap.size, 0, none⟩) 3 3] 24)) (w.heap.size + 1) 24 (.int .i64 3) (.slice (some ⟨w.heap.size, 0, none⟩) 3 3) := by
    simpa using GB.made (w.alloc (.cells #[.int .u32 3, .int .u32 6, .int .u32 5] 36)) 24 (.int .i64 3) (.slice (some ⟨w.heap.size, 0, none⟩) 3 3)
  have hO : World.ownsRow ((w.alloc (.cells #[.int .u32 3, .int .u32 6, .int .u32 5] 36)).alloc (.cells #[.int .i64 3, .slice (some ⟨w.heap.size, 0, none⟩) 3 3] 24)) w.heap.size 36 1 (.slice (some ⟨w.heap.size, 0, none⟩) 3 3) 3 (U32 [3, 6, 5]) := World.ownsRow.alloc (own_mk3 w 3 6 5) _
  have hB : Below w.heap.size w ((w.alloc (.cells #[.int .u32 3, .int .u32 6, .int .u32 5] 36)).alloc (.cells #[.int .i64 3, .slice (some ⟨w.heap.size, 0, none⟩) 3 3] 24)) := bthen (al w _) (al _ _) (by simp)
  have hs0 : w.heap.size + 2 = ((w.alloc (.cells #[.int .u32 3, .int .u32 6, .int .u32 5] 36)).alloc (.cells #[.int .i64 3, .slice (some ⟨w.heap.size, 0, none⟩) 3 3] 24)).heap.size := by simp
  refine (obstruction_any 3 _ [3, 6, 5] 3 3 _ hE ak1).mono ?_
  rintro e w1 ⟨v1, rfl, hown1, hnil1, hb1⟩
  rw [ak4] at hown1 ⊢
  clear hnil1
  obtain ⟨g1, c1, rfl, hg1⟩ := own_some hown1 (by decide)
  have HO1 := Lib.hid hown1
  replace hO := own_below hO hb1
  replace hG := hG.new hb1
  replace hB := bthen hB hb1 hB.size
  have hs1 : w.heap.size + 2 ≤ w1.heap.size := by have := hb1.size; omega
  rw [← hs0] at hg1
  clear hE hs0 hb1 hown1
  have c1' := hG.c1
  have f1' := hG.f1
  have hgl := hG.lt
  have HO := Lib.hid hO; have HG := Lib.hid hG; have HB := Lib.hid hB
  clear hO hG hB
  go_upto_region 4 with (at_builtin; refine app_u32 rfl _ _ rfl w.heap.size (.slice (some ⟨w.heap.size, 0, none⟩) 3 3) 3 [3, 6, 5] rfl (World.ownsRow.alloc HO.out _) w1.heap.size 7 rfl (Blk.new _ _ _) (by omega) (by simp; try omega) ?_; intro v' w2 hown' hgr hor; obtain ⟨A2, c2, rfl⟩ := own_form hown'; have HO2 := Lib.hid hown'; have hG2 := GB.appended (HG.out.alloc _) (World.ownsRow.alloc HO.out _) hgr (by decide); have HG2 := Lib.hid hG2; have HO12 := Lib.hid (own_grown_own (World.ownsRow.alloc HO1.out _) (World.ownsRow.alloc HO.out _) (by decide) hgr); have HB2 := Lib.hid (Below.appended (HB.out.alloc (by omega) _) (World.ownsRow.alloc HO.out _) hgr (by simp; try omega) (Nat.le_refl _)); have hs2 : w1.heap.size < w2.heap.size := Nat.lt_of_lt_of_le (by simp) hgr.size; have k1 := hG2.c1; have q1 := hG2.f1; have l1 := hG2.lt; have HGR := Lib.hid hgr; clear hown' hgr hor hG2)
  have hO3 := own_far HO2.out HG2.out.blk (by decide) 1 (.slice A2 4 c2)
  have hO13 := own_far HO12.out HG2.out.blk (by decide) 1 (.slice A2 4 c2)
  have hG3 := HG2.out.set1 (.slice A2 4 c2)
  have hB3 := HB2.out.setCell (p := ⟨w.heap.size + 1, 1, none⟩) (by show w.heap.size ≤ w.heap.size + 1; omega) (.slice A2 4 c2)
  have hs3 : w.heap.size + 2 ≤ (w2.setCell ⟨w.heap.size + 1, 1, none⟩ (.slice A2 4 c2)).heap.size := by simp; omega
  generalize w2.setCell ⟨w.heap.size + 1, 1, none⟩ (.slice A2 4 c2) = w2' at *
  clear k1 q1 l1 c1' f1' hgl hs2 HO HG HB HO1 HO2 HG2 HB2 HO12 HGR
  obtain ⟨A2', c2', e2, hE3⟩ := Es.of_own (L := [3, 6, 5, 7]) hO3 (by decide)
  injection e2 with e2 e3 e4
  rw [← e2] at hE3
  clear e3 e4
  have c0 := hG3.c0; have c1' := hG3.c1; have hgl := hG3.lt
  have HE := Lib.hid hE3; have HG := Lib.hid hG3; have HB := Lib.hid hB3; have HO1 := Lib.hid hO13
  clear hO3 hE3 e2 hG3 hB3 hO13 hs1
  go_wp2_with fail
  refine (reduce_ok 3 A2 [3, 6, 5, 7] 4 c2 _ HE.out ak2).mono ?_
  rintro e w3 ⟨l, r, g, A6, c6, A4, c4, hrun, ha, hi, rfl, _, _, hb⟩
  rw [ak7 hrun ha hi]
  replace HE := Lib.hid (HE.out.new hb)
  replace HG := Lib.hid (HG.out.new hb)
  replace HO1 := Lib.hid (own_below HO1.out hb)
  replace HB := Lib.hid (bthen HB.out hb HB.out.size)
  have hs4 : w.heap.size + 2 ≤ w3.heap.size := by have := hb.size; omega
  clear hrun ha hi hb c0 c1' hgl hs3
  go_wp2_with fail
  have hE : Es ((w3.alloc (.cells #[.int .u32 3, .int .u32 6, .int .u32 12, .int .u32 9] 36)).alloc (.cells #[.int .i64 4, .slice (some ⟨w3.heap.size, 0, none⟩) 4 4] 24)) ((w3.alloc (.cells #[.int .u32 3, .int .u32 6, .int .u32 12, .int .u32 9] 36)).alloc (.cells #[.int .i64 4, .slice (some ⟨w3.heap.size, 0, none⟩) 4 4] 24)).heap.size (some ⟨w3.heap.size, 0, none⟩) 4 [3, 6, 12, 9] :=
    Es.of_blk (l := [3, 6, 12, 9]) (Blk.alloc (Blk.new w3 36 (urow [3, 6, 12, 9])) _) (by decide) (by decide)
  have hx : Below w3.heap.size w3 ((w3.alloc (.cells #[.int .u32 3, .int .u32 6, .int .u32 12, .int .u32 9] 36)).alloc (.cells #[.int .i64 4, .slice (some ⟨w3.heap.size, 0, none⟩) 4 4] 24)) := bthen (al w3 _) (al _ _) (by simp)
  refine (obstruction_any 4 _ [3, 6, 12, 9] 4 4 _ hE ak3).mono ?_
  rintro e w4 ⟨v4, rfl, hown4, _, hb4⟩
  rw [ak5] at hown4 ⊢
  obtain ⟨g4, c4', rfl, hg4⟩ := own_some hown4 (by decide)
  have hx4 := bthen hx hb4 hx.size
  replace HE := Lib.hid (HE.out.new hx4)
  replace HG := Lib.hid (HG.out.new hx4)
  replace HO1 := Lib.hid (own_below HO1.out hx4)
  replace HB := Lib.hid (bthen HB.out hx4 HB.out.size)
  have HO4 := Lib.hid hown4
  clear hx hx4 hb4 hown4 hE
  have c0 := HG.out.c0; have c1' := HG.out.c1; have hgl := HG.out.lt
  go_wp2_with fail
  refine (equal_int _ _ [0, 1, 2] [0, 1, 2] 3 3 c1 3 _ (Xs.of_own2 (n := 32) (l := [0, 1, 2]) (Nat.le_refl _) (by decide) (World.ownsRow.alloc HO1.out _)) ?_).mono ?_
  · exact Xs.of_blk (l := [0, 1, 2]) (Blk.new w4 3 (irow [0, 1, 2])) (by decide) (by decide)
  rintro e w5 ⟨rfl, hb⟩
  rw [show (([0, 1, 2] : List Int) == [0, 1, 2]) = true from by decide]
  have hx := bthen (al w4 (.cells #[.int .i64 0, .int .i64 1, .int .i64 2] 3)) hb (by simp)
  replace HE := Lib.hid (HE.out.new hx)
  replace HG := Lib.hid (HG.out.new hx)
  replace HO4 := Lib.hid (own_below HO4.out hx)
  replace HB := Lib.hid (bthen HB.out hx HB.out.size)
  clear hx hb c0 c1' hgl
  have c0 := HG.out.c0; have c1' := HG.out.c1; have hgl := HG.out.lt
  go_wp2_with fail
  refine (acyclic_ok 3 A2 [3, 6, 5, 7] 4 c2 _ HE.out ak2).mono ?_
  rintro e w6 ⟨b, hb0, rfl, hb⟩
  obtain rfl : b = true := hb0.2 ak8
  replace HO4 := Lib.hid (own_below HO4.out hb)
  replace HB := Lib.hid (bthen HB.out hb HB.out.size)
  clear hb0 hb c0 c1' hgl
  go_wp2_with fail
  refine (equal_int _ _ [0, 1, 2, 3] [0, 1, 2, 3] 4 4 c4' 4 _ (Xs.of_own2 (n := 32) (l := [0, 1, 2, 3]) (Nat.le_refl _) (by decide) (World.ownsRow.alloc HO4.out _)) ?_).mono ?_
  · exact Xs.of_blk (l := [0, 1, 2, 3]) (Blk.new w6 3 (irow [0, 1, 2, 3])) (by decide) (by decide)
  rintro e w7 ⟨rfl, hb⟩
  rw [show (([0, 1, 2, 3] : List Int) == [0, 1, 2, 3]) = true from by decide]
  replace HB := Lib.hid (bthen HB.out (bthen (al w6 (.cells #[.int .i64 0, .int .i64 1, .int .i64 2, .int .i64 3] 3)) hb (by simp)) HB.out.size)
  clear hb
  go_wp2_with fail
  go_ret
  exact ⟨rfl, HB.out⟩
end Go.Proofs.Ytkiahnffepbgpaa
