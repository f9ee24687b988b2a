/-
  awake of layer 32 returns true.
-/
import Derived.Test.YtdagdamliggfmaaFind2
import Derived.Test.YtdagdamliggfmaaTrioPerm
namespace Go.Proofs.Ytdagdamliggfmaa
open Go.RowKit

theorem aw1 : checkCode 3 [5, 6] = 0 := by decide
theorem aw2 : firstTrio 3 [5, 6] 3 = some (0, 1, 2) := by decide
theorem aw3 : firstTrio 3 [5, 6] 2 = none := by decide
theorem aw4 : permB [2, 0, 1] 0 3 = true := by decide
theorem aw5 : [5, 6].map (ren [2, 0, 1]) = [3, 5] := by decide
theorem aw6 : firstTrio 3 [3, 5] 3 = none := by decide

theorem eq012 (W : World) : (binOp .eql 40 (.agg #[.int .i64 0, .int .i64 1, .int .i64 2]) (.agg #[.int .i64 0, .int .i64 1, .int .i64 2])).run Try.prog W = .ok (.bool true) W := by kernel_rfl

set_option maxHeartbeats 2000000 in
theorem awake_any (w : World) : Calls Try.prog 9 #[] w fun e w' => e = .returned (.bool true) ∧ Below w.heap.size w w' := by
  go_enter Try.func9, Try.ntmps9
  go_wp2_with fail
  -- the first Find
  have hE : Es ((w.alloc (Obj.cells #[Value.int IntKind.u32 5, Value.int IntKind.u32 6] 35)).alloc (Obj.cells #[Value.int IntKind.i64 3, Value.slice (some ⟨w.heap.size, 0, none⟩) 2 2] 24))
      ((w.alloc (Obj.cells #[Value.int IntKind.u32 5, Value.int IntKind.u32 6] 35)).alloc (Obj.cells #[Value.int IntKind.i64 3, Value.slice (some ⟨w.heap.size, 0, none⟩) 2 2] 24)).heap.size (some ⟨w.heap.size, 0, none⟩) 2 [5, 6] :=
    Es.of_blk (l := [5, 6]) (Blk.alloc (Blk.new w 35 (urow [5, 6])) _) (by decide) (by decide)
  have hG : GB ((w.alloc (Obj.cells #[Value.int IntKind.u32 5, Value.int IntKind.u32 6] 35)).alloc (Obj.cells #[Value.int IntKind.i64 3, Value.slice (some ⟨w.heap.size, 0, none⟩) 2 2] 24)) (w.heap.size + 1) 24 (.int .i64 3) (.slice (some ⟨w.heap.size, 0, none⟩) 2 2) := by
    simpa using GB.made (w.alloc (Obj.cells #[Value.int IntKind.u32 5, Value.int IntKind.u32 6] 35)) 24 (.int .i64 3) (.slice (some ⟨w.heap.size, 0, none⟩) 2 2)
  have hB : Below w.heap.size w ((w.alloc (Obj.cells #[Value.int IntKind.u32 5, Value.int IntKind.u32 6] 35)).alloc (Obj.cells #[Value.int IntKind.i64 3, Value.slice (some ⟨w.heap.size, 0, none⟩) 2 2] 24)) :=
    ((Below.refl _ _).alloc (Nat.le_refl _) _).alloc (by simp) _
  refine (find_any 3 3 _ [5, 6] 2 2 _ hE).mono ?_
  rintro e w1 ⟨rfl, hb⟩
  rw [aw2]
  simp only [tcells, Option.isSome]
  replace hE := hE.new hb
  replace hG := hG.new hb
  replace hB := hB.trans (hb.mono hB.size)
  clear hb
  have c0 := hG.c0; have c1 := hG.c1; have hl := hG.lt
  have HE := Lib.hid hE; clear hE
  have HG := Lib.hid hG; clear hG
  have HB := Lib.hid hB; clear hB
  go_wp2_with fail
  -- the second Find
  refine (find_any 3 2 _ [5, 6] 2 2 _ (HE.out.new (al _ _))).mono ?_
  rintro e w2 ⟨rfl, hb⟩
  rw [aw3]
  simp only [tcells, Option.isSome]
  have hx := bthen (al w1 (Obj.cells #[Value.int IntKind.i64 0, Value.int IntKind.i64 1, Value.int IntKind.i64 2] 40)) hb (by simp)
  have hT : Blk w2 w1.heap.size 40 #[.int .i64 0, .int .i64 1, .int .i64 2] := Blk.below (Blk.new _ _ _) hb (by simp)
  have hE := HE.out.new hx
  have hG := HG.out.new hx
  have hB := bthen HB.out hx HB.out.size
  clear hx hb c0 c1 hl HE HG HB
  have c0 := hG.c0; have c1 := hG.c1; have hl := hG.lt
  have HE := Lib.hid hE; clear hE
  have HG := Lib.hid hG; clear hG
  have HB := Lib.hid hB; clear hB
  have HT := Lib.hid hT; clear hT
  go_wp2_with fail
  -- Permute
  have hy := bthen (al w2 (Obj.cells #[Value.int IntKind.i64 0, Value.int IntKind.i64 0, Value.int IntKind.i64 0] 40)) (al _ (Obj.cells #[Value.int IntKind.i64 2, Value.int IntKind.i64 0, Value.int IntKind.i64 1] 3)) (by simp)
  refine (permute_ok 3 _ [5, 6] 2 2 _ [2, 0, 1] 3 3 _ (HE.out.new hy) ?_ aw1 aw4).mono ?_
  · have e1 : (w2.alloc (Obj.cells #[Value.int IntKind.i64 0, Value.int IntKind.i64 0, Value.int IntKind.i64 0] 40)).heap.size = w2.heap.size + 1 := by simp
    have := Xs.of_blk (l := [2, 0, 1]) (Blk.new (w2.alloc (Obj.cells #[Value.int IntKind.i64 0, Value.int IntKind.i64 0, Value.int IntKind.i64 0] 40)) 3 (irow [2, 0, 1])) (by decide) (by decide)
    rw [e1] at this
    exact this
  rintro e w3 ⟨g, c', rfl, hP, hb⟩
  rw [aw5] at hP
  have hx := bthen hy hb (by simp; omega)
  have hT := HT.out.below hx HT.out.lt
  have hG := HG.out.new hx
  have hB := bthen HB.out hx HB.out.size
  clear hx hb hy c0 c1 hl HE HG HB HT
  have HB := Lib.hid hB; clear hB hG
  have HT := Lib.hid hT; clear hT
  have HP := Lib.hid hP; clear hP
  go_wp2_with fail
  -- the third Find
  refine (find_any 3 3 _ [3, 5] 2 c' _ (HP.out.new (al _ _))).mono ?_
  rintro e w4 ⟨rfl, hb⟩
  rw [aw6]
  simp only [tcells, Option.isSome]
  have hx := bthen (al w3 (Obj.cells #[Value.int IntKind.i64 3, Value.slice (some ⟨g, 0, none⟩) 2 c'] 24)) hb (by simp)
  have hG : GB w4 w3.heap.size 24 (.int .i64 3) (.slice (some ⟨g, 0, none⟩) 2 c') := GB.new (GB.made _ _ _ _) hb
  have hT := HT.out.below hx HT.out.lt
  have hP := HP.out.new hx
  have hB := bthen HB.out hx HB.out.size
  clear hx hb HB HT HP
  have k0 : w4.cell? ⟨w1.heap.size, 0, none⟩ = some (.int .i64 0) := by rw [hT.cell]; rfl
  have k1 : w4.cell? ⟨w1.heap.size, 1, none⟩ = some (.int .i64 1) := by rw [hT.cell]; rfl
  have k2 : w4.cell? ⟨w1.heap.size, 2, none⟩ = some (.int .i64 2) := by rw [hT.cell]; rfl
  have hlt := hT.lt
  have c0 := hG.c0; have c1 := hG.c1; have hl := hG.lt
  have HB := Lib.hid hB; clear hB hG hT
  have HP := Lib.hid hP; clear hP
  have heq := eq012
  go_wp2_with fail
  -- Equal
  have hy := bthen (al w4 (Obj.cells #[Value.int IntKind.i64 0, Value.int IntKind.i64 0, Value.int IntKind.i64 0] 40)) (al _ (Obj.cells #[Value.int IntKind.u32 3, Value.int IntKind.u32 5] 35)) (by simp)
  refine (equal_u32 _ _ [3, 5] [3, 5] 2 2 c' 2 _ (HP.out.new hy) ?_).mono ?_
  · have e1 : (w4.alloc (Obj.cells #[Value.int IntKind.i64 0, Value.int IntKind.i64 0, Value.int IntKind.i64 0] 40)).heap.size = w4.heap.size + 1 := by simp
    have := Es.of_blk (l := [3, 5]) (Blk.new (w4.alloc (Obj.cells #[Value.int IntKind.i64 0, Value.int IntKind.i64 0, Value.int IntKind.i64 0] 40)) 35 (urow [3, 5])) (by decide) (by decide)
    rw [e1] at this
    exact this
  rintro e w5 ⟨rfl, hb⟩
  have e2 : (([3, 5] : List Nat) == [3, 5]) = true := by decide
  rw [e2]
  have hB := bthen HB.out (bthen hy hb (by simp; omega)) HB.out.size
  have HB2 := Lib.hid hB; clear hB hb hy e2
  go_wp2_with fail
  go_ret
  exact ⟨rfl, HB2.out⟩

end Go.Proofs.Ytdagdamliggfmaa
