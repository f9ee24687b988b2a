/-
  Contracts of hypergraph.distance and cycleLength, whose answers are functions.
-/
import Derived.Test.YtkiahnffepbgpaaCyl
import Derived.Test.YtkiahnffepbgpaaDistF
namespace Go.Proofs.Ytkiahnffepbgpaa
open Go.RowKit

theorem lt32_row {n : Nat} (hn : n ≤ 32) {R : List Nat} (hR : ∀ x ∈ R, x < 2 ^ n) : ∀ x ∈ R, x < 4294967296 := fun x hx => Nat.lt_of_lt_of_le (hR x hx) (two_pow_le (m := 32) hn)
theorem distance_fn (n a b ins : Nat) (hn : n ≤ 32) (ha : a < n) (hb : b < n) (hi : ins < 4294967296) (R : List Nat) (hl : R.length = 32) (hR : ∀ x ∈ R, x < 2 ^ n) (w : World) :
    Calls Try.prog 52 #[.int .i64 n, .agg (urow R), .int .i64 a, .int .i64 b, .int .u32 ins] w fun e w' => e = .returned (.int .i64 (distF R n a b ins : Nat)) ∧ Below w.heap.size w w' := by
  refine (distance_any n a b ins hn ha hb hi R hl (lt32_row hn hR) w).mono ?_
  rintro e w' ⟨_, rfl, ⟨d, rfl, _, hd⟩, hb⟩
  exact ⟨by rw [hd.eq hn hR ha], hb⟩
theorem cycleLength_fn (n : Nat) (hn : n ≤ 32) (R : List Nat) (hl : R.length = 32) (hR : ∀ x ∈ R, x < 2 ^ n) (w : World) :
    Calls Try.prog 50 #[.int .i64 n, .agg (urow R)] w fun e w' => e = .returned (.int .i64 (cylF R n : Nat)) ∧ Below w.heap.size w w' := by
  refine (cycleLength_any n hn R hl (lt32_row hn hR) w).mono ?_
  rintro e w' ⟨_, rfl, ⟨d, rfl, _, hd⟩, hb⟩
  exact ⟨by rw [hd.eq hn hR (Nat.le_refl _)]; rfl, hb⟩
end Go.Proofs.Ytkiahnffepbgpaa
