/-
  Contract of the reference's Acyclic.
-/
import Derived.Test.YtkiahnffepbgpaaRRed
namespace Go.Proofs.Ytkiahnffepbgpaa
open Go.RowKit
set_option linter.unusedSimpArgs false
set_option linter.unusedVariables false

set_option maxRecDepth 100000 in
set_option maxHeartbeats 1000000 in
theorem racyclic_ok (n : Nat) (A : Option Addr) (es : List Nat) (len c : Nat) (w : World) (hr : Es w w.heap.size A len es) (hcc : checkCode n es = 0) :
    Calls Try.prog 16 #[.agg #[.int .i64 n, .slice A len c]] w (RetAcy w n es) := by
  have HR := Lib.hid hr; clear hr
  have HC := Lib.hid hcc; clear hcc
  have HW := Lib.hid (al w (.cells #[.int .i64 n, .slice A len c] 26))
  have HG := Lib.hid (GB.made w 26 (.int .i64 n) (.slice A len c))
  go_enter Try.func16, Try.ntmps16
  have g0 := HG.out.c0; have g1 := HG.out.c1
  go_wp2_with fail
  refine (rreduce_any n A es len c _ (HR.out.new HW.out) HC.out).mono ?_
  rintro e w2 ⟨l, r, g, A6, c6, A4, c4, hrun, ha, hi, rfl, -, hE, hb⟩
  have HB2 := Lib.hid (bthen HW.out hb HW.out.size); clear hb g0 g1
  have hbd : ∀ x ∈ r, x < 2 ^ 32 := hE.2.2
  have hle := hE.le
  have HLEN := Lib.hid hE.len
  have HRUN := Lib.hid (And.intro hrun (And.intro ha hi)); clear hrun ha hi
  have HE := Lib.hid hE; clear hE hbd
  go_wp2_with fail
  have hret : ∀ b : Bool, (b = true ↔ ∀ x ∈ r, x = 0) → RetAcy w n es (.returned (.bool b)) w2 := by
    intro b hb
    refine ⟨b, ?_, rfl, HB2.out⟩
    rw [hb]
    constructor
    · intro h; exact ⟨l, r, g, HRUN.out.1, HRUN.out.2, h⟩
    · rintro ⟨l', r', g', h1, h2, h3⟩
      obtain ⟨_, rfl, _⟩ := HRUN.out.1.final HRUN.out.2 h1 h2
      exact h3
  have HRET := Lib.hid hret; clear hret
  go_loop [2, 5] (fun _ i => ∃ k : Nat, k ≤ es.length ∧ i = .int .i64 k ∧ Hid (∀ j, j < k → nth r j = 0)) (fun _ i => es.length - (intOf i).toNat)
  case atStart => exact ⟨0, Nat.zero_le _, rfl, Lib.hid fun j h => absurd h (by omega)⟩
  case round =>
    obtain ⟨k, hk, rfl, HI⟩ := hrel
    by_cases hlt : k < es.length
    · obtain ⟨ad, rfl, hb1, hca⟩ := HE.out.at_ hlt
      have i1 : (0 : Int) ≤ (k : Int) := by omega
      have i2 : (k : Int) < (es.length : Int) := by omega
      by_cases hz : nth r k = 0
      · have ht : ((nth r k : Int) != 0) = false := by simp [hz]
        have HZ := Lib.hid hz; clear hz
        go_wp2_with fail
        refine ⟨⟨k + 1, by omega, by go_num, Lib.hid fun j hj => ?_⟩, by simp [intOf]; omega⟩
        by_cases hjk : j = k
        · rw [hjk]; exact HZ.out
        · exact HI.out j (by omega)
      · have ht : ((nth r k : Int) != 0) = true := by simp [hz]
        have HZ := Lib.hid hz; clear hz
        go_wp2_with fail
        go_ret
        refine HRET.out false ⟨(fun h => by cases h), fun h => absurd (h _ (nth_mem (show k < r.length by have := HLEN.out; omega))) HZ.out⟩
    · go_wp2_with fail
      go_ret
      refine HRET.out true ⟨fun _ x hx => ?_, fun _ => rfl⟩
      obtain ⟨j, hj, rfl⟩ := List.getElem_of_mem hx
      rw [← nth_eq hj]
      exact HI.out j (by have := HLEN.out; omega)

end Go.Proofs.Ytkiahnffepbgpaa
