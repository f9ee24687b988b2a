/-
  Contracts of math/bits.TrailingZeros32 and of slices.Backward's iterator at uint32.
-/
import Derived.Test.YtjofdlafblpclaaDoorBase
import Derived.Test.YtjofdlafblpclaaDoorCompP
import Derived.Test.YtjofdlafblpclaaDoorScP
import Derived.RangeFuncBox
import Derived.RangeFuncLeaves
import Derived.Shelf.Abstract
import Derived.WalkKit
import Derived.OwnWalkIn
import Derived.TacticsInMore
import Derived.LoopNIn
import Derived.LoopIn
import Derived.Maps.AppendAt
namespace Go.Proofs.YtjofdlafblpclaaDoor
open Go.RowKit Go.Shelf
set_option linter.unusedSimpArgs false
set_option linter.unusedVariables false

/-- The table of the library. -/
def tabTZ : List Nat := [0, 1, 28, 2, 29, 14, 24, 3, 30, 22, 20, 15, 25, 17, 4, 8, 31, 27, 13, 23, 21, 19, 16, 7, 26, 12, 18, 6, 11, 5, 10, 9]
/-- The package variable holds it. -/
def GTab (w : World) : Prop := 0 < w.heap.size ∧ ∀ k, k < 32 → w.cell? ⟨0, k, none⟩ = some (.int .u8 (nth tabTZ k : Int))
theorem GTab.below {w w' : World} {B : Nat} (h : GTab w) (hb : Below B w w') (hB : 0 < B) : GTab w' := ⟨Nat.lt_of_lt_of_le h.1 hb.size, fun k hk => (hb.cell (p := ⟨0, k, none⟩) hB).trans (h.2 k hk)⟩
theorem GTab.new {w w' : World} (h : GTab w) (hb : Below w.heap.size w w') : GTab w' := h.below hb h.1
theorem tab_ok : ∀ t, t < 32 → (125613361 * 2 ^ t % 4294967296) / 134217728 < 32 ∧ nth tabTZ ((125613361 * 2 ^ t % 4294967296) / 134217728) = t := by decide
/-- The least bit. -/
theorem low_bit9 {x t : Nat} (hx : x < 2 ^ 32) (ht : t < 32) (h1 : x.testBit t = true) (h0 : ∀ j, j < t → x.testBit j = false) : x &&& (4294967296 - x) = 2 ^ t := by
  have hm : x % 2 ^ (t + 1) = 2 ^ t := by
    apply Nat.eq_of_testBit_eq
    intro i
    rw [Nat.testBit_mod_two_pow, Nat.testBit_two_pow]
    by_cases h : t = i
    · subst h; simp [h1]
    · by_cases h2 : i < t
      · simp [h, h0 i h2]
      · have : ¬ i < t + 1 := by omega
        simp [h, this]
  have hd := Nat.div_add_mod x (2 ^ (t + 1))
  rw [hm] at hd
  generalize x / 2 ^ (t + 1) = m at hd
  have hp := pow2_pos t
  have hx1 : x - 1 = 2 ^ (t + 1) * m + (2 ^ t - 1) := by omega
  have hxp : 0 < x := by omega
  have hlt : 2 ^ t < 2 ^ (t + 1) := Nat.pow_lt_pow_right (by decide) (by omega)
  apply Nat.eq_of_testBit_eq
  intro i
  rw [Nat.testBit_and, show 4294967296 - x = 2 ^ 32 - ((x - 1) + 1) by omega, Nat.testBit_two_pow_sub_succ (by omega), Nat.testBit_two_pow]
  rw [hx1, ← hd, Nat.testBit_two_pow_mul_add _ hlt, Nat.testBit_two_pow_mul_add _ (by omega)]
  by_cases hi : i < t + 1
  · rw [if_pos hi, if_pos hi, Nat.testBit_two_pow, Nat.testBit_two_pow_sub_one]
    by_cases h : t = i
    · subst h; simp; omega
    · have : i < t := by omega
      simp [h]
  · rw [if_neg hi, if_neg hi]
    have : t ≠ i := by omega
    cases m.testBit (i - (t + 1)) <;> simp [this]
theorem ek_lem (y : Nat) : (y : Int) * 125613361 % 4294967296 / 134217728 = ((125613361 * y % 4294967296 / 134217728 : Nat) : Int) := by
  rw [Int.natCast_ediv, Int.natCast_emod, Int.natCast_mul, Int.mul_comm]; rfl
set_option maxRecDepth 100000 in
set_option maxHeartbeats 1000000 in
theorem tz_any (x t : Nat) (w : World) (hG : GTab w) (hx : x < 4294967296) (ht : t < 32) (h1 : x.testBit t = true) (h0 : ∀ j, j < t → x.testBit j = false) :
    Calls Tryd.prog 52 #[.int .u32 x] w fun e w' => e = .returned (.int .i64 t) ∧ w = w' := by
  have hxn : x ≠ 0 := by intro e; rw [e] at h1; simp at h1
  have tn : ((x : Int) == 0) = false := by simp [hxn]
  have HLB := Lib.hid (low_bit9 hx ht h1 h0)
  obtain ⟨hk, htab⟩ := tab_ok t ht
  have hcell := hG.2 _ hk
  rw [htab] at hcell
  obtain ⟨y, hy⟩ : ∃ y, y = 2 ^ t := ⟨_, rfl⟩
  rw [← hy] at hk hcell
  obtain ⟨k, hkk⟩ : ∃ k, k = (125613361 * y % 4294967296) / 134217728 := ⟨_, rfl⟩
  rw [← hkk] at hk hcell
  have ek : (y : Int) * 125613361 % 4294967296 / 134217728 = (k : Int) := by rw [hkk]; exact ek_lem y
  have en : (-(x : Int) % 4294967296) = ((4294967296 - x : Nat) : Int) := by omega
  have eb : bits .and .u32 (x : Int) (-(x : Int) % 4294967296) = (y : Int) := by
    rw [en, bits_and x (4294967296 - x) hx (by omega), HLB.out, hy]
  have hgz := hG.1
  have i1 : (0 : Int) ≤ (k : Int) := by omega
  have i2 : (k : Int) < 32 := by omega
  have hb8 : (t : Int) < 128 := by omega
  clear h1 h0 htab hkk hy en
  go_enter Tryd.func52, Tryd.ntmps52
  go_wp2_with fail
  go_ret
  exact ⟨rfl, rfl⟩
end Go.Proofs.YtjofdlafblpclaaDoor
