/-
Contract of simplex.valid.
-/
import Derived.Test.YtamcibmjpmibdaaK9
namespace Go.Proofs.Ytamcibmjpmibdaa
open Go.RowKit
set_option linter.unusedVariables false
set_option linter.unusedSimpArgs false

def VdRet (n m k : Nat) (ln : Nat → Nat) (w : World) (e : Ending) (w' : World) : Prop := ∃ t : Bool, e = .returned (.bool t) ∧ Below w.heap.size w w' ∧ (t = true ↔ m = k ∧ ∀ i, i < m → ln i = n)
set_option maxRecDepth 100000 in
set_option maxHeartbeats 8000000 in
theorem valid_any (n m k cC cA cB : Nat) (AC AA AB : Option Addr) (Ar : Nat → Option Addr) (ln cp : Nat → Nat) (w : World) (hA : Reads w w.heap.size 1 AA m ((List.range m).map fun i => Value.slice (Ar i) (ln i) (cp i))) (hm : m ≤ 1000000) :
    Calls Try.prog 32 #[.agg #[.slice AC n cC, .slice AA m cA, .slice AB k cB]] w (VdRet n m k ln w) := by
  have HA := Lib.hid hA; clear hA
  go_enter Try.func32, Try.ntmps32
  go_upto_region 1 with (fail)
  have T := Lib.hid (Blk.new w 31 #[.slice AC n cC, .slice AA m cA, .slice AB k cB])
  have HB := Lib.hid (al w (.cells #[.slice AC n cC, .slice AA m cA, .slice AB k cB] 31))
  generalize w.alloc (.cells #[.slice AC n cC, .slice AA m cA, .slice AB k cB] 31) = w1 at *
  have c0 : w1.cell? ⟨w.heap.size, 0, none⟩ = some (.slice AC n cC) := by rw [T.out.cell]; rfl
  have c1 : w1.cell? ⟨w.heap.size, 1, none⟩ = some (.slice AA m cA) := by rw [T.out.cell]; rfl
  have c2 : w1.cell? ⟨w.heap.size, 2, none⟩ = some (.slice AB k cB) := by rw [T.out.cell]; rfl
  by_cases hmk : m = k
  · subst hmk
    go_wp2_with fail
    go_loopg [15] m (fun q iv wr => ∃ i : Nat, iv = .int .i64 i ∧ i + q = m ∧ Hid (∀ l, l < i → ln l = n) ∧ wr = w1)
    case atStart => exact ⟨0, rfl, by omega, Lib.hid (fun l hl => absurd hl (by omega)), rfl⟩
    case round =>
      obtain ⟨i, rfl, him, HI, rfl⟩ := hrel
      by_cases hi : i < m
      · obtain ⟨ad, rfl, had, hcs⟩ := HA.out.2 (by omega)
        have hr0 := hcs i _ (by rw [List.getElem?_map, List.getElem?_range hi]; rfl)
        have hr : wr.cell? (ad.add i) = some (.slice (Ar i) (ln i) (cp i)) := (HB.out.cell (p := ad.add i) (by rw [show (ad.add i).block = ad.block from by unfold Addr.add; split <;> rfl]; exact had)).trans hr0
        clear hcs hr0
        have i1 : ((i : Int) < (m : Int)) := by omega
        have i0 : (0 : Int) ≤ (i : Int) := by omega
        by_cases hl : ln i = n
        · have h1 : ((ln i : Int) = (n : Int)) := by omega
          go_wp2_with fail
          go_roundg (gk - 1)
          case measure => omega
          case rel => exact ⟨i + 1, by go_num, by omega, Lib.hid (fun l hll => by
            by_cases hli : l = i
            · rw [hli]; exact hl
            · exact HI.out l (by omega)), rfl⟩
        · have h1 : ¬ ((ln i : Int) = (n : Int)) := by omega
          go_wp2_with fail
          go_ret
          exact ⟨false, rfl, HB.out, by simp; exact ⟨i, hi, hl⟩⟩
      · obtain rfl : m = i := by omega
        go_wp2_with fail
        go_ret
        exact ⟨true, rfl, HB.out, by simp; exact HI.out⟩
  · have h1 : ¬ ((m : Int) = (k : Int)) := by omega
    go_wp2_with fail
    go_ret
    exact ⟨false, rfl, HB.out, by simp; intro h; exact absurd h hmk⟩
end Go.Proofs.Ytamcibmjpmibdaa
