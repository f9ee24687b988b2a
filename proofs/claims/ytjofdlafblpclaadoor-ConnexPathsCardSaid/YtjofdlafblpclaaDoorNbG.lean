/-
  Contracts of hypergraph.Neighbors and trio.valid.
-/
import Derived.Test.YtjofdlafblpclaaDoorAdj
namespace Go.Proofs.YtjofdlafblpclaaDoor
open Go.RowKit

theorem run_index_row (l : List Nat) (hl : l.length = 32) (v : Nat) (hv : v < 32) (w : World) :
    (Instr.index 58 (.agg (urow l)) (.int .i64 (v : Int))).run Tryd.prog w = .ok (.int .u32 (nth l v : Int)) w := by
  have h1 := urow_get (l := l) (k := v) (by omega)
  obtain ⟨i, hi, hz, hs, hb⟩ := info_parts info_u32
  simp [Instr.index, run_underlying Tryd.underlying58, asIntOf]
  rw [if_pos hv]
  simp [part, isAgg, run_underlying Tryd.underlying42, h1]

/-- The neighbors of a vertex as Neighbors answers. -/
def nbr (n : Int) (es : List Nat) (v : Int) : Nat := if checkCode n es ≠ 0 ∨ v < 0 ∨ n ≤ v then 0 else adj es v.toNat

set_option maxHeartbeats 1000000 in
theorem neighbors_bad (n v : Int) (A : Option Addr) (es : List Nat) (len c : Nat) (w : World) (hr : Es w w.heap.size A len es) (hbad : checkCode n es ≠ 0 ∨ v < 0 ∨ n ≤ v) :
    Calls Tryd.prog 49 #[.agg #[.int .i64 n, .slice A len c], .int .i64 v] w fun e w' => e = .returned (.int .u32 0) ∧ Below w.heap.size w w' := by
  have HR := Lib.hid hr; clear hr
  by_cases h1 : checkCode n es = 0
  · have h2 : v < 0 ∨ n ≤ v := by omega
    clear hbad
    have H1 := Lib.hid h1; clear h1
    by_cases h3 : v < 0
    · go_enter Tryd.func49, Tryd.ntmps49
      go_wp2_with fail
      refine (check_any n A es len c _ ?_).mono ?_
      · exact ((HR.out.alloc (Nat.le_refl _) _).more (by simp))
      rintro e w1 ⟨rfl, hb⟩
      rw [H1.out]
      have HB := Lib.hid hb; clear hb
      go_wp2_with fail
      go_ret
      exact ⟨rfl, ((Below.refl _ _).alloc (Nat.le_refl _) _).trans (HB.out.mono (by simp))⟩
    · have h4 : n ≤ v := by omega
      go_enter Tryd.func49, Tryd.ntmps49
      go_wp2_with fail
      refine (check_any n A es len c _ ?_).mono ?_
      · exact ((HR.out.alloc (Nat.le_refl _) _).more (by simp))
      rintro e w1 ⟨rfl, hb⟩
      rw [H1.out]
      have c0 := (GB.new (GB.made _ _ _ _) hb).c0
      have HB := Lib.hid hb; clear hb
      go_wp2_with fail
      go_ret
      exact ⟨rfl, ((Below.refl _ _).alloc (Nat.le_refl _) _).trans (HB.out.mono (by simp))⟩
  · have hb1 : (checkCode n es != 0) = true := by simp [h1]
    clear hbad h1
    go_enter Tryd.func49, Tryd.ntmps49
    go_wp2_with fail
    refine (check_any n A es len c _ ?_).mono ?_
    · exact ((HR.out.alloc (Nat.le_refl _) _).more (by simp))
    rintro e w1 ⟨rfl, hb⟩
    have HB := Lib.hid hb; clear hb
    go_wp2_with fail
    go_ret
    exact ⟨rfl, ((Below.refl _ _).alloc (Nat.le_refl _) _).trans (HB.out.mono (by simp))⟩

set_option maxHeartbeats 1000000 in
theorem neighbors_ok (n v : Nat) (A : Option Addr) (es : List Nat) (len c : Nat) (w : World) (hr : Es w w.heap.size A len es) (hgood : checkCode n es = 0) (hv : v < n) :
    Calls Tryd.prog 49 #[.agg #[.int .i64 n, .slice A len c], .int .i64 v] w fun e w' => e = .returned (.int .u32 (adj es v : Int)) ∧ Below w.heap.size w w' := by
  obtain ⟨_, hn, _, _⟩ := checkCode_zero hgood
  have HR := Lib.hid hr; clear hr
  have HG := Lib.hid hgood; clear hgood
  have hix := run_index_row (adjRow n es) (adjRow_length _ _) v (by omega)
  go_enter Tryd.func49, Tryd.ntmps49
  go_wp2_with fail
  refine (check_any n A es len c _ ?_).mono ?_
  · exact ((HR.out.alloc (Nat.le_refl _) _).more (by simp))
  rintro e w1 ⟨rfl, hb⟩
  rw [HG.out]
  have hg0 := GB.new (GB.made _ _ _ _) hb
  have c0 := hg0.c0
  have c1 := hg0.c1
  have hB : Below w.heap.size w w1 := ((Below.refl _ _).alloc (Nat.le_refl _) _).trans (hb.mono (by simp))
  have HB := Lib.hid hB; clear hb hB hg0
  go_wp2_with fail
  refine (adjacency_any n (by omega) A es len c _ ?_).mono ?_
  · exact HR.out.new HB.out
  rintro e w2 ⟨rfl, hb⟩
  have HB2 := Lib.hid (HB.out.trans (hb.mono HB.out.size)); clear hb HB
  go_wp2_with fail
  go_ret
  refine ⟨ret_int ?_, HB2.out⟩
  rw [nth_adjRow (by omega), if_pos hv]

end Go.Proofs.YtjofdlafblpclaaDoor
