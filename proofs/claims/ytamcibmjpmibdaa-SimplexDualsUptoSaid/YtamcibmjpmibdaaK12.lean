/-
Opens arguments that hold Smalls.
Contract of simplex.valid.
-/
import Derived.Test.YtamcibmjpmibdaaK1
import Derived.Test.YtamcibmjpmibdaaK11
import Derived.Deep.SlicePairs
import Derived.Test.YtamcibmjpmibdaaK9
namespace Go.Proofs.Ytamcibmjpmibdaa
open Go.RowKit Go.ChangeShapes Go.WideShapes Go.Deep
set_option linter.unusedVariables false

theorem Reads.of_pr {w : World} {B n : Nat} {ad : Addr} {u v : Nat → Value} (hb : 0 < n → ad.block < B) (h : ∀ k, k < n → w.cell? (ad.add (k * 2)) = some (u k) ∧ w.cell? (ad.add (k * 2 + 1)) = some (v k)) : Reads w B 2 (some ad) n (pr2 u v n) := by
  refine ⟨pr2_length u v n, fun hn => ⟨ad, rfl, hb hn, fun j x hx => ?_⟩⟩
  have hj : j < n * 2 := by
    have := (List.getElem?_eq_some_iff.1 hx).1
    rw [pr2_length] at this; exact this
  obtain ⟨h1, h2⟩ := h (j / 2) (by omega)
  obtain ⟨g1, g2⟩ := pr2_at (u := u) (v := v) (show j / 2 < n by omega)
  have : j = j / 2 * 2 ∨ j = j / 2 * 2 + 1 := by omega
  rcases this with e | e
  · rw [← e] at h1 g1
    rw [g1] at hx
    injection hx with hx
    rw [← hx]; exact h1
  · rw [← e] at h2 g2
    rw [g2] at hx
    injection hx with hx
    rw [← hx]; exact h2
section
variable {H : Type} {enc : TypeId × Value → H} {w : World} {base : Nat} {spare : Nat → Bool} {held : Bool}
theorem open_smalls {fuel : Nat} {v : Value} {x : DataW H × List MemPlace} (h : DataW.trod enc Try.prog w base spare held fuel 22 [v] = some x) :
    ∃ (A : Option Addr) (len cap : Nat) (N : Nat → Int) (D : Nat → Nat), v = .slice A len cap ∧ Reads w w.heap.size 2 A len (smL N D len) ∧ SmB N D len ∧ ((x.1 = .nil ∧ len = 0) ∨ ∃ (E F : Nat → DataW H) (sp : List (DataW H)), x.1 = .slice ((List.range len).map fun i => .agg [E i, F i]) sp) := by
  rcases open_slice_pairs Try.underlying22 Try.underlying52 (by kernel_rfl) rfl rfl (by kernel_rfl) (by kernel_rfl) h with ⟨hcs, hx⟩ | ⟨a, len, cap, m, n, V0, V1, D0, D1, P0, P1, hcs, hb, hl, hm, hmm, hx, hc⟩
  · cases hcs
    exact ⟨none, 0, 0, fun _ => 0, fun _ => 0, rfl, Reads.none_, fun i hi => absurd hi (by omega), .inl ⟨by rw [hx], rfl⟩⟩
  · cases hcs
    have hlm : len ≤ m := by rw [hmm]; split <;> omega
    have each : ∀ i, i < len → ∃ z d : Int, V0 i = .int .i8 z ∧ V1 i = .int .u8 d ∧ (-128 ≤ z ∧ z ≤ 127) ∧ 0 ≤ d ∧ d ≤ 255 := by
      intro i hi
      obtain ⟨h1, h2, h3, h4⟩ := hc i (by omega)
      obtain ⟨z, f0, -, w0⟩ := DataW.trod_int Try.underlying50 h3
      obtain ⟨d, f1, -, w1⟩ := DataW.trod_int Try.underlying5 h4
      simp only [List.cons.injEq, and_true] at f0 f1
      have b0 := bounds_i8 w0
      have b1 := bounds_u8 w1
      exact ⟨z, d, f0, f1, by omega, by omega⟩
    refine ⟨some a, len, cap, fun i => intOf (V0 i), fun i => (intOf (V1 i)).toNat, rfl, ?_, fun i hi => ?_, .inr ⟨_, _, _, by rw [hx]⟩⟩
    · refine Reads.of_pr (fun hn => ?_) (fun k hk => ?_)
      · have := block_lt_of_cell (hc 0 (by omega)).1
        rwa [block_of_add] at this
      · obtain ⟨h1, h2, -, -⟩ := hc k (by omega)
        obtain ⟨z, d, e1, e2, -, b1⟩ := each k hk
        simp only [h1, h2, e1, e2, intOf]
        refine ⟨trivial, ?_⟩
        rw [Int.toNat_of_nonneg b1.1]
    · obtain ⟨z, d, e1, e2, b0, b1⟩ := each i hi
      simp only [e1, e2, intOf]
      omega
end
end Go.Proofs.Ytamcibmjpmibdaa
namespace Go.Proofs.Ytamcibmjpmibdaa
open Go.RowKit
set_option linter.unusedVariables false
set_option linter.unusedSimpArgs false

def VdRet (n m k : Nat) (ln : Nat → Nat) (w : World) (e : Ending) (w' : World) : Prop := ∃ t : Bool, e = .returned (.bool t) ∧ Below w.heap.size w w' ∧ (t = true ↔ m = k ∧ ∀ i, i < m → ln i = n)
set_option maxRecDepth 100000 in
set_option maxHeartbeats 8000000 in
theorem valid_any (n m k cC cA cB : Nat) (AC AA AB : Option Addr) (Ar : Nat → Option Addr) (ln cp : Nat → Nat) (w : World) (hA : Reads w w.heap.size 1 AA m ((List.range m).map fun i => Value.slice (Ar i) (ln i) (cp i))) (hm : m ≤ 1000000) :
    Calls Try.prog 32 #[.agg #[.slice AC n cC, .slice AA m cA, .slice AB k cB]] w (VdRet n m k ln w) := by
  have HA := Lib.hid hA; clear hA
  go_enter Try.func32, Try.ntmps32
  go_upto_region 1 with (fail)
  have T := Lib.hid (Blk.new w 31 #[.slice AC n cC, .slice AA m cA, .slice AB k cB])
  have HB := Lib.hid (al w (.cells #[.slice AC n cC, .slice AA m cA, .slice AB k cB] 31))
  generalize w.alloc (.cells #[.slice AC n cC, .slice AA m cA, .slice AB k cB] 31) = w1 at *
  have c0 : w1.cell? ⟨w.heap.size, 0, none⟩ = some (.slice AC n cC) := by rw [T.out.cell]; rfl
  have c1 : w1.cell? ⟨w.heap.size, 1, none⟩ = some (.slice AA m cA) := by rw [T.out.cell]; rfl
  have c2 : w1.cell? ⟨w.heap.size, 2, none⟩ = some (.slice AB k cB) := by rw [T.out.cell]; rfl
  by_cases hmk : m = k
  · subst hmk
    go_wp2_with fail
    go_loopg [15] m (fun q iv wr => ∃ i : Nat, iv = .int .i64 i ∧ i + q = m ∧ Hid (∀ l, l < i → ln l = n) ∧ wr = w1)
    case atStart => exact ⟨0, rfl, by omega, Lib.hid (fun l hl => absurd hl (by omega)), rfl⟩
    case round =>
      obtain ⟨i, rfl, him, HI, rfl⟩ := hrel
      by_cases hi : i < m
      · obtain ⟨ad, rfl, had, hcs⟩ := HA.out.2 (by omega)
        have hr0 := hcs i _ (by rw [List.getElem?_map, List.getElem?_range hi]; rfl)
        have hr : wr.cell? (ad.add i) = some (.slice (Ar i) (ln i) (cp i)) := (HB.out.cell (p := ad.add i) (by rw [show (ad.add i).block = ad.block from by unfold Addr.add; split <;> rfl]; exact had)).trans hr0
        clear hcs hr0
        have i1 : ((i : Int) < (m : Int)) := by omega
        have i0 : (0 : Int) ≤ (i : Int) := by omega
        by_cases hl : ln i = n
        · have h1 : ((ln i : Int) = (n : Int)) := by omega
          go_wp2_with fail
          go_roundg (gk - 1)
          case measure => omega
          case rel => exact ⟨i + 1, by go_num, by omega, Lib.hid (fun l hll => by
            by_cases hli : l = i
            · rw [hli]; exact hl
            · exact HI.out l (by omega)), rfl⟩
        · have h1 : ¬ ((ln i : Int) = (n : Int)) := by omega
          go_wp2_with fail
          go_ret
          exact ⟨false, rfl, HB.out, by simp; exact ⟨i, hi, hl⟩⟩
      · obtain rfl : m = i := by omega
        go_wp2_with fail
        go_ret
        exact ⟨true, rfl, HB.out, by simp; exact HI.out⟩
  · have h1 : ¬ ((m : Int) = (k : Int)) := by omega
    go_wp2_with fail
    go_ret
    exact ⟨false, rfl, HB.out, by simp; intro h; exact absurd h hmk⟩
end Go.Proofs.Ytamcibmjpmibdaa
