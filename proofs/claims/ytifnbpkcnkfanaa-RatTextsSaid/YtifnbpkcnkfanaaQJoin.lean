/-
  strings.Join of one or two strings; rat.join.
-/
import Derived.Test.YtifnbpkcnkfanaaQWrite
import Derived.Test.YtifnbpkcnkfanaaQCmp
namespace Go.Proofs.Ytifnbpkcnkfanaa
open Go.RowKit

set_option maxHeartbeats 2000000 in
theorem join1_any (g : Nat) (a sep : ByteArray) (w : World) (hb : Blk w g 9 #[.string a]) : Calls Try.prog 70 #[.slice (some ⟨g, 0, none⟩) 1 1, .string sep] w fun e w' => e = .returned (.string a) ∧ w = w' := by
  have c0 : w.cell? ⟨g, 0, none⟩ = some (.string a) := by rw [hb.cell]; rfl
  clear hb
  go_enter Try.func70, Try.ntmps70
  go_wp2_with fail
  go_ret
  exact ⟨rfl, rfl⟩

theorem bsz (s : ByteArray) : s.data.toList.length = s.size := Array.length_toList
theorem one_size : (ByteArray.mk #[47]).size = 1 := rfl
def strs2 (a b : ByteArray) : ByteArray := ⟨(a.data.toList ++ [47] ++ b.data.toList).toArray⟩
set_option maxHeartbeats 4000000 in
theorem join2_any (g : Nat) (a b : ByteArray) (w : World) (hg : Blk w g 9 #[.string a, .string b]) (ha : a.size ≤ 1000000) (hb : b.size ≤ 1000000) : Calls Try.prog 70 #[.slice (some ⟨g, 0, none⟩) 2 2, .string ⟨#[47]⟩] w fun e w' => e = .returned (.string (strs2 a b)) ∧ Below w.heap.size w w' := by
  have c0 : w.cell? ⟨g, 0, none⟩ = some (.string a) := by rw [hg.cell]; rfl
  have c1 : w.cell? ⟨g, 1, none⟩ = some (.string b) := by rw [hg.cell]; rfl
  have hgl := hg.lt
  have HG := Lib.hid hg; clear hg
  go_enter Try.func70, Try.ntmps70
  go_wp2_with fail
  go_loop [5, 41] (fun nv iv => ∃ i n : Nat, i ≤ 2 ∧ iv = .int .i64 i ∧ nv = .int .i64 n ∧ n ≤ 1 + 1000000 * i) (fun _ iv => 2 - (intOf iv).toNat)
  case atStart => exact ⟨0, 1, by omega, rfl, rfl, by omega⟩
  case round =>
    obtain ⟨i, n, hi, rfl, rfl, hn⟩ := hrel
    have hi3 : i = 0 ∨ i = 1 ∨ i = 2 := by omega
    rcases hi3 with rfl | rfl | rfl
    · have t1 : decide ((9223372036854775807 : Int) - (n : Int) < (a.size : Int)) = false := by simp; omega
      go_wp2_with fail
      exact ⟨⟨1, n + a.size, by omega, rfl, by simp, by omega⟩, by simp [intOf]⟩
    · have t1 : decide ((9223372036854775807 : Int) - (n : Int) < (b.size : Int)) = false := by simp; omega
      go_wp2_with fail
      exact ⟨⟨2, n + b.size, by omega, rfl, by simp, by omega⟩, by simp [intOf]⟩
    · have hn2 : n ≤ 281474976710656 := by omega
      have hnB : (w.alloc (.cells #[.pointer none, .slice none 0 0] 110)).heap[w.heap.size]? = some (.cells #[.pointer none, .slice none 0 0] 110 (0, 0)) := Blk.new w _ _
      have HNB := Lib.hid hnB; clear hnB hn
      go_wp2_with fail
      refine (Try.Builder_Grow_fresh w.heap.size w.heap.size n _ (Nat.le_refl _) HNB.out (by simp) hn2).mono ?_
      rintro e w1 ⟨rfl, hB1, hb1⟩
      have HB1 := Lib.hid hB1; have HW := Lib.hid ((al w _).trans hb1); clear hB1 hb1
      replace HG := Lib.hid (HG.out.below HW.out HG.out.lt)
      clear c0 c1
      have c0 : w1.cell? ⟨g, 0, none⟩ = some (.string a) := by rw [HG.out.cell]; rfl
      go_wp2_with fail
      refine (writeString_any w.heap.size w.heap.size [] a _ (.inr HB1.out) (by simp; omega) HW.out.size).mono ?_
      rintro e w2 ⟨rfl, hB2, hb2⟩
      have HB2 := Lib.hid hB2; replace HG := Lib.hid (HG.out.below hb2 hgl); replace HW := Lib.hid (HW.out.trans hb2); clear hB2 hb2 c0
      go_wp2_with fail
      go_loopw [65] (fun iv wr => ∃ i : Nat, i ≤ 1 ∧ iv = .int .i64 i ∧ Hid (Lib.BuilderAt 110 5 w.heap.size w.heap.size (.pointer (some ⟨w.heap.size, 0, none⟩)) (if i = 0 then Lib.byteCells a.data.toList else Lib.byteCells (a.data.toList ++ [47] ++ b.data.toList)) wr ∧ Blk wr g 9 #[.string a, .string b] ∧ Below w.heap.size w wr)) (fun iv _ => 1 - (intOf iv).toNat)
      case atStart => exact ⟨0, by omega, rfl, Lib.hid ⟨HB2.out, HG.out, HW.out⟩⟩
      case round =>
        obtain ⟨i, hi, rfl, HJ⟩ := hrel
        have hi3 : i = 0 ∨ i = 1 := by omega
        rcases hi3 with rfl | rfl
        · have c1 : wr.cell? ⟨g, 1, none⟩ = some (.string b) := by rw [HJ.out.2.1.cell]; rfl
          have HJB := Lib.hid HJ.out.1
          simp only [if_true] at HJB
          go_wp2_with fail
          refine (writeString_any w.heap.size w.heap.size (Lib.byteCells a.data.toList) ⟨#[47]⟩ _ (.inr HJB.out) (by rw [Lib.byteCells_length, bsz, one_size]; omega) HJ.out.2.2.size).mono ?_
          rintro e w3 ⟨rfl, hB3, hb3⟩
          have HB3 := Lib.hid hB3; have HG3 := Lib.hid (HJ.out.2.1.below hb3 hgl); have HW3 := Lib.hid (HJ.out.2.2.trans hb3); clear hB3 hb3 c1
          go_wp2_with fail
          refine (writeString_any w.heap.size w.heap.size (Lib.byteCells a.data.toList ++ Lib.strCells ⟨#[47]⟩) b _ (.inr HB3.out) (by rw [List.length_append, Lib.byteCells_length, Lib.strCells_length, bsz, one_size]; omega) HW3.out.size).mono ?_
          rintro e w4 ⟨rfl, hB4, hb4⟩
          have HB4 := Lib.hid hB4; have HG4 := Lib.hid (HG3.out.below hb4 hgl); have HW4 := Lib.hid (HW3.out.trans hb4); clear hB4 hb4
          go_wp2_with fail
          refine ⟨⟨1, by omega, rfl, Lib.hid ⟨?_, HG4.out, HW4.out⟩⟩, by simp [intOf]⟩
          rw [if_neg (by omega), Lib.byteCells_append, Lib.byteCells_append]
          exact HB4.out
        · have HJB := Lib.hid HJ.out.1
          simp only [show ¬ (1 = 0) by omega, if_false] at HJB
          go_wp2_with fail
          refine (Try.Builder_String_any w.heap.size w.heap.size (a.data.toList ++ [47] ++ b.data.toList) _ (.inr HJB.out) HJ.out.2.2.size).mono ?_
          rintro e w5 ⟨rfl, hb5⟩
          have HW5 := Lib.hid (HJ.out.2.2.trans hb5); clear hb5
          go_wp2_with fail
          go_ret
          exact ⟨by simp [strs2], HW5.out⟩

set_option maxHeartbeats 2000000 in
theorem qjoin1_any (g : Nat) (a : ByteArray) (w : World) (hb : Blk w g 9 #[.string a]) : Calls Try.prog 58 #[.slice (some ⟨g, 0, none⟩) 1 1] w fun e w' => e = .returned (.string a) ∧ w = w' := by
  have HB := Lib.hid hb; clear hb
  go_enter Try.func58, Try.ntmps58
  go_wp2_with fail
  refine (join1_any g a _ w HB.out).mono ?_
  rintro e w1 ⟨rfl, rfl⟩
  go_wp2_with fail
  go_ret
  exact ⟨rfl, rfl⟩
set_option maxHeartbeats 2000000 in
theorem qjoin2_any (g : Nat) (a b : ByteArray) (w : World) (hg : Blk w g 9 #[.string a, .string b]) (ha : a.size ≤ 1000000) (hb : b.size ≤ 1000000) : Calls Try.prog 58 #[.slice (some ⟨g, 0, none⟩) 2 2] w fun e w' => e = .returned (.string (strs2 a b)) ∧ Below w.heap.size w w' := by
  have HB := Lib.hid hg; clear hg
  go_enter Try.func58, Try.ntmps58
  go_wp2_with fail
  refine (join2_any g a b w HB.out ha hb).mono ?_
  rintro e w1 ⟨rfl, hb1⟩
  have HW := Lib.hid hb1; clear hb1
  go_wp2_with fail
  go_ret
  exact ⟨rfl, HW.out⟩
end Go.Proofs.Ytifnbpkcnkfanaa
