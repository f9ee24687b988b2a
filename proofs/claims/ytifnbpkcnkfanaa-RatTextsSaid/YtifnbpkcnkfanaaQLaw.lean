/-
  Small functions of the laws of layer 5: normal, same, great.
-/
import Derived.Test.YtifnbpkcnkfanaaQText
namespace Go.Proofs.Ytifnbpkcnkfanaa
open Go.RowKit

theorem Norm.last {w : World} {A : Option Addr} {n k N : Nat} (h : Norm w A n N) (hk : n = k + 1) : ∃ ad x, A = some ad ∧ ad.block < w.heap.size ∧ w.cell? (ad.add k) = some (.int .u32 ((x : Nat) : Int)) ∧ x ≠ 0 := by
  subst hk
  obtain ⟨l, hE, hl⟩ := h
  obtain ⟨ad, rfl, hb1, hcell⟩ := hE.at_ (show k < k + 1 by omega)
  refine ⟨ad, _, rfl, hb1, hcell, ?_⟩
  have h1 := hE.len
  rcases hl.2.2 with h2 | h2
  · subst h2; simp at h1
  · rw [← h1] at h2; simpa using h2

theorem cmpN_one : cmpN (0 : Rat).den 1 = 0 := by decide
theorem hold_c2 {w0 w' : World} {g i : Nat} (h : Below w0.heap.size w0 w') (hg : g < w0.heap.size) : w'.cell? ⟨g, i, none⟩ = w0.cell? ⟨g, i, none⟩ := h.cell (p := ⟨g, i, none⟩) hg
section
variable {w : World} {s : Bool} {A B : Option Addr} {n c m d b : Nat} {x : Rat}
set_option maxRecDepth 100000 in
set_option maxHeartbeats 4000000 in
theorem normal_pos (h : Rn w s A n c B m d b x) (hn : n ≠ 0) : Calls Try.prog 38 #[.agg #[.bool s, .slice A n c, .slice B m d]] w fun e w' => e = .returned (.bool true) ∧ Below w.heap.size w w' := by
  obtain ⟨h1, ⟨h2, h3⟩, ⟨h4, h5⟩⟩ := h
  have hm : m ≠ 0 := fun h => x.den_nz (h5.zero.1 h)
  have n10 := h2.2.2.1
  have m10 := h4.2.2.1
  obtain ⟨j, hj⟩ : ∃ k, n = k + 1 := ⟨n - 1, by omega⟩
  obtain ⟨k, hk⟩ : ∃ k, m = k + 1 := ⟨m - 1, by omega⟩
  have HN := Lib.hid h3; have HM := Lib.hid h5; have HJ := Lib.hid hj; have HK := Lib.hid hk
  clear h1 h2 h3 h4 h5 hn hm hj hk
  go_enter Try.func38, Try.ntmps38
  go_wp2_with fail
  have hT := TB.made w 29 (.bool s) (.slice A n c) (.slice B m d)
  have hW := al w (.cells #[.bool s, .slice A n c, .slice B m d] 29)
  generalize w.alloc (.cells #[.bool s, .slice A n c, .slice B m d] 29) = w0 at hT hW ⊢
  obtain ⟨ad, y, rfl, hlt, hcell, hy⟩ := (HN.out.new hW).last HJ.out
  obtain ⟨bd, z, rfl, hlt2, hcell2, hz⟩ := (HM.out.new hW).last HK.out
  have hj := HJ.out; have hk := HK.out; clear HJ HK
  have hl1 : (ad.add j).block < w0.heap.size := by rw [block_of_add]; exact hlt
  have hl2 : (bd.add k).block < w0.heap.size := by rw [block_of_add]; exact hlt2
  have ty : ((y : Int) != 0) = true := by simp; omega
  have tz : ((z : Int) != 0) = true := by simp; omega
  have i1 : IntKind.i64.wrap ((n : Int) - 1) = (j : Int) := by rw [show (n : Int) - 1 = (j : Int) by omega]; exact IntWalk.i64_in _ (by omega)
  have i2 : IntKind.i64.wrap ((m : Int) - 1) = (k : Int) := by rw [show (m : Int) - 1 = (k : Int) by omega]; exact IntWalk.i64_in _ (by omega)
  have i3 : (0 : Int) ≤ (j : Int) := by omega
  have i4 : (0 : Int) ≤ (k : Int) := by omega
  have i5 : (j : Int) < (n : Int) := by omega
  have i6 : (k : Int) < (m : Int) := by omega
  have i7 : 0 < n := by omega
  have i8 : 0 < m := by omega
  have i9 : ((n : Int) == 0) = false := by simp; omega
  have i10 : decide (0 < n) = true := by simp; omega
  have i11 : decide ((0 : Int) < (n : Int)) = true := by simp; omega
  have i12 : decide (0 < m) = true := by simp; omega
  clear hj hk n10 m10
  have c0 := hT.c0; have c1 := hT.c1; have c2 := hT.c2
  have l0 := hT.lt
  have HW := Lib.hid hW
  clear hW hT hy hz HN HM
  go_quiet (fail)
  go_wp2_with fail
  go_ret
  exact ⟨rfl, below_drewN HW.out _⟩
end
end Go.Proofs.Ytifnbpkcnkfanaa
