/-
  Contracts of connex: below, checkFree, container; of law31: wrong, Great.
-/
import Derived.Test.YtjofdlafblpclaaDoorCxP
import Derived.Test.YtjofdlafblpclaaDoorIns
namespace Go.Proofs.YtjofdlafblpclaaDoor
open Go.RowKit
set_option linter.unusedSimpArgs false
set_option linter.unusedVariables false

set_option maxHeartbeats 400000 in
theorem cxbelow_any (n : Nat) (hn : n ≤ 32) (w : World) :
    Calls Tryd.prog 33 #[.int .i64 n] w fun e w' => e = .returned (.int .u32 ((2^n - 1 : Nat) : Int)) ∧ w = w' := by
  go_enter Tryd.func33, Tryd.ntmps33
  go_wp2_with fail
  go_ret
  exact ⟨ret_int (below_val n hn), rfl⟩

/-- The error of a hypergraph or of a number of free variables. -/
def freeCode (n : Int) (es : List Nat) (f : Int) : Int := if checkCode n es = 0 then (if f < 0 ∨ n < f then 3 else 0) else checkCode n es
set_option maxHeartbeats 1000000 in
theorem checkFree_any (n : Int) (A : Option Addr) (es : List Nat) (len c : Nat) (f : Int) (w : World) (hr : Es w w.heap.size A len es) :
    Calls Tryd.prog 26 #[.agg #[.int .i64 n, .slice A len c], .int .i64 f] w fun e w' => e = .returned (.int .i64 (freeCode n es f)) ∧ Below w.heap.size w w' := by
  have HR := Lib.hid hr; clear hr
  have HW := Lib.hid (al w (.cells #[.int .i64 n, .slice A len c] 24))
  have HG := Lib.hid (GB.made w 24 (.int .i64 n) (.slice A len c))
  go_enter Tryd.func26, Tryd.ntmps26
  go_wp2_with fail
  refine (check_any n A es len c _ (HR.out.new HW.out)).mono ?_
  rintro e w1 ⟨rfl, hb⟩
  have HB := Lib.hid (bthen HW.out hb (by simp))
  have HG1 := Lib.hid (HG.out.new hb); clear hb
  have g0 := HG1.out.c0
  obtain ⟨cc, hcc⟩ : ∃ x, x = checkCode n es := ⟨_, rfl⟩
  have HC := Lib.hid (show freeCode n es f = if cc = 0 then (if f < 0 ∨ n < f then 3 else 0) else cc by rw [freeCode, hcc])
  rw [← hcc]; clear hcc
  by_cases h0 : cc = 0
  · have t0 : (cc != 0) = false := by simp [h0]
    by_cases h1 : f < 0
    · have t1 : decide (f < 0) = true := by simp [h1]
      have HF := Lib.hid (show freeCode n es f = 3 by rw [HC.out, if_pos h0, if_pos (.inl h1)]); clear h0 h1
      go_wp2_with fail
      go_ret
      exact ⟨ret_int HF.out.symm, HB.out⟩
    · have t1 : decide (f < 0) = false := by simp; omega
      by_cases h2 : n < f
      · have t2 : decide (f > n) = true := by simp [h2]
        have HF := Lib.hid (show freeCode n es f = 3 by rw [HC.out, if_pos h0, if_pos (.inr h2)]); clear h0 h1 h2
        go_wp2_with fail
        go_ret
        exact ⟨ret_int HF.out.symm, HB.out⟩
      · have t2 : decide (f > n) = false := by simp; omega
        have HF := Lib.hid (show freeCode n es f = 0 by rw [HC.out, if_pos h0, if_neg (by omega)]); clear h0 h1 h2
        go_wp2_with fail
        go_ret
        exact ⟨ret_int HF.out.symm, HB.out⟩
  · have t0 : (cc != 0) = true := by simp [h0]
    have HF := Lib.hid (show freeCode n es f = cc by rw [HC.out, if_neg h0]); clear h0
    go_wp2_with fail
    go_ret
    exact ⟨ret_int HF.out.symm, HB.out⟩
set_option maxHeartbeats 1000000 in
theorem wrong_any (n : Int) (A : Option Addr) (es : List Nat) (len c : Nat) (f : Int) (w : World) (hr : Es w w.heap.size A len es) :
    Calls Tryd.prog 13 #[.agg #[.int .i64 n, .slice A len c], .int .i64 f] w fun e w' => e = .returned (.int .i64 (freeCode n es f)) ∧ Below w.heap.size w w' := by
  have HR := Lib.hid hr; clear hr
  have HW := Lib.hid (al w (.cells #[.int .i64 n, .slice A len c] 24))
  have HG := Lib.hid (GB.made w 24 (.int .i64 n) (.slice A len c))
  go_enter Tryd.func13, Tryd.ntmps13
  go_wp2_with fail
  refine (check_any n A es len c _ (HR.out.new HW.out)).mono ?_
  rintro e w1 ⟨rfl, hb⟩
  have HB := Lib.hid (bthen HW.out hb (by simp))
  have HG1 := Lib.hid (HG.out.new hb); clear hb
  have g0 := HG1.out.c0
  obtain ⟨cc, hcc⟩ : ∃ x, x = checkCode n es := ⟨_, rfl⟩
  have HC := Lib.hid (show freeCode n es f = if cc = 0 then (if f < 0 ∨ n < f then 3 else 0) else cc by rw [freeCode, hcc])
  rw [← hcc]; clear hcc
  by_cases h0 : cc = 0
  · have t0 : (cc != 0) = false := by simp [h0]
    by_cases h1 : f < 0
    · have t1 : decide (f < 0) = true := by simp [h1]
      have HF := Lib.hid (show freeCode n es f = 3 by rw [HC.out, if_pos h0, if_pos (.inl h1)]); clear h0 h1
      go_wp2_with fail
      go_ret
      exact ⟨ret_int HF.out.symm, HB.out⟩
    · have t1 : decide (f < 0) = false := by simp; omega
      by_cases h2 : n < f
      · have t2 : decide (f > n) = true := by simp [h2]
        have HF := Lib.hid (show freeCode n es f = 3 by rw [HC.out, if_pos h0, if_pos (.inr h2)]); clear h0 h1 h2
        go_wp2_with fail
        go_ret
        exact ⟨ret_int HF.out.symm, HB.out⟩
      · have t2 : decide (f > n) = false := by simp; omega
        have HF := Lib.hid (show freeCode n es f = 0 by rw [HC.out, if_pos h0, if_neg (by omega)]); clear h0 h1 h2
        go_wp2_with fail
        go_ret
        exact ⟨ret_int HF.out.symm, HB.out⟩
  · have t0 : (cc != 0) = true := by simp [h0]
    have HF := Lib.hid (show freeCode n es f = cc by rw [HC.out, if_neg h0]); clear h0
    go_wp2_with fail
    go_ret
    exact ⟨ret_int HF.out.symm, HB.out⟩
def greatB (n : Int) (es : List Nat) : Bool := decide ((checkCode n es = 0 ∧ (6 < n ∨ 8 < es.length)) ∨ 70 < es.length)
set_option maxHeartbeats 2000000 in
theorem great_any (n : Int) (A : Option Addr) (es : List Nat) (len c : Nat) (w : World) (hr : Es w w.heap.size A len es) :
    Calls Tryd.prog 10 #[.agg #[.int .i64 n, .slice A len c]] w fun e w' => e = .returned (.bool (greatB n es)) ∧ Below w.heap.size w w' := by
  have hlen := hr.len
  have hle := hr.le
  subst hlen
  have HR := Lib.hid hr; clear hr
  have HW := Lib.hid (al w (.cells #[.int .i64 n, .slice A es.length c] 24))
  have HG := Lib.hid (GB.made w 24 (.int .i64 n) (.slice A es.length c))
  go_enter Tryd.func10, Tryd.ntmps10
  go_wp2_with fail
  refine (check_any n A es es.length c _ (HR.out.new HW.out)).mono ?_
  rintro e w1 ⟨rfl, hb⟩
  have HB := Lib.hid (bthen HW.out hb (by simp))
  have HG1 := Lib.hid (HG.out.new hb); clear hb
  have g0 := HG1.out.c0; have g1 := HG1.out.c1
  obtain ⟨cc, hcc⟩ : ∃ x, x = checkCode n es := ⟨_, rfl⟩
  have HC := Lib.hid (show greatB n es = decide ((cc = 0 ∧ (6 < n ∨ 8 < es.length)) ∨ 70 < es.length) by rw [greatB, hcc])
  rw [← hcc]; clear hcc
  have fin : ∀ b : Bool, (b = true ↔ ((cc = 0 ∧ (6 < n ∨ 8 < es.length)) ∨ 70 < es.length)) → (fun e w' => e = Ending.returned (.bool (greatB n es)) ∧ Below w.heap.size w w') (.returned (.bool b)) w1 := by
    intro b hb
    refine ⟨ret_bool ?_, HB.out⟩
    rw [HC.out, Bool.eq_iff_iff, hb, decide_eq_true_eq]
  have FIN := Lib.hid fin; clear fin
  by_cases h7 : 70 < es.length
  · have t7 : decide ((es.length : Int) > 70) = true := by simp; omega
    have t8 : decide ((es.length : Int) > 8) = true := by simp; omega
    have HF := Lib.hid (FIN.out true (by simp [h7]))
    by_cases h0 : cc = 0
    · have t0 : (cc == 0) = true := by simp [h0]
      by_cases h6 : 6 < n
      · have t6 : decide (n > 6) = true := by simp [h6]
        go_wp2_with fail
        go_ret
        exact HF.out
      · have t6 : decide (n > 6) = false := by simp; omega
        go_wp2_with fail
        go_ret
        exact HF.out
    · have t0 : (cc == 0) = false := by simp [h0]
      go_wp2_with fail
      go_ret
      exact HF.out
  · have t7 : decide ((es.length : Int) > 70) = false := by simp; omega
    by_cases h0 : cc = 0
    · have t0 : (cc == 0) = true := by simp [h0]
      by_cases h6 : 6 < n
      · have t6 : decide (n > 6) = true := by simp [h6]
        have HF := Lib.hid (FIN.out true (by simp [h0, h6]))
        go_wp2_with fail
        go_ret
        exact HF.out
      · have t6 : decide (n > 6) = false := by simp; omega
        by_cases h8 : 8 < es.length
        · have t8 : decide ((es.length : Int) > 8) = true := by simp; omega
          have HF := Lib.hid (FIN.out true (by simp [h0, h8]))
          go_wp2_with fail
          go_ret
          exact HF.out
        · have t8 : decide ((es.length : Int) > 8) = false := by simp; omega
          have HF := Lib.hid (FIN.out false (by simp; omega))
          go_wp2_with fail
          go_ret
          exact HF.out
    · have t0 : (cc == 0) = false := by simp [h0]
      have HF := Lib.hid (FIN.out false (by simp [h0]; omega))
      go_wp2_with fail
      go_ret
      exact HF.out

set_option maxRecDepth 100000 in
set_option maxHeartbeats 2000000 in
theorem container_any (n : Int) (A : Option Addr) (es : List Nat) (len c k : Nat) (w : World) (hr : Es w w.heap.size A len es) (hk : k < len) :
    Calls Tryd.prog 42 #[.agg #[.int .i64 n, .slice A len c], .int .i64 k] w fun e w' => e = .returned (.int .i64 (contF es k : Nat)) ∧ Below w.heap.size w w' := by
  have hlen := hr.len
  have hle := hr.le
  subst hlen
  have HR := Lib.hid hr; clear hr
  have HW := Lib.hid (al w (.cells #[.int .i64 n, .slice A es.length c] 24))
  have HG := Lib.hid (GB.made w 24 (.int .i64 n) (.slice A es.length c))
  have HCL := Lib.hid (fun j (hj : j ≤ es.length) => (cont_inv (es := es) HR.out.2.2 hk j hj).1)
  go_enter Tryd.func42, Tryd.ntmps42
  have g1 := HG.out.c1; have gl := HG.out.lt
  go_wp2_with fail
  go_loop [5, 12] (fun bv iv => ∃ j : Nat, iv = .int .i64 j ∧ j ≤ es.length ∧ bv = .int .i64 (contTo es k j : Nat)) (fun _ iv => es.length - (intOf iv).toNat)
  case atStart => exact ⟨0, rfl, Nat.zero_le _, rfl⟩
  case round =>
    obtain ⟨j, rfl, hj, rfl⟩ := hrel
    by_cases hjl : j < es.length
    · have hbl := HCL.out j (by omega)
      have HST := Lib.hid (show contTo es k (j + 1) = contStep es (contTo es k j) j from rfl)
      generalize contTo es k j = b at *
      obtain ⟨ad, rfl, hb1, cj⟩ := (HR.out.new HW.out).at_ hjl
      obtain ⟨ad2, he, _, cb⟩ := (HR.out.new HW.out).at_ hbl
      injection he with he; subst he
      have hej := HR.out.lt hjl
      have heb := HR.out.lt hbl
      have hand := bits_andNot _ _ heb hej
      have i1 : (0 : Int) ≤ (b : Int) := by omega
      have i2 : (b : Int) < (es.length : Int) := by omega
      have i3 : (0 : Int) ≤ (j : Int) := by omega
      have i4 : (j : Int) < (es.length : Int) := by omega
      have HSE := Lib.hid (show contStep es b j = if (decide (andn (nth es b) (nth es j) = 0) && (decide (nth es j ≠ nth es b) || decide (j < b))) = true then j else b from rfl)
      rw [HSE.out] at HST
      clear HSE
      generalize nth es b = x at *
      generalize nth es j = y at *
      by_cases h1 : andn x y = 0
      · rw [h1] at hand HST
        by_cases h2 : y = x
        · have t2 : ((y : Int) != (x : Int)) = false := by simp [h2]
          by_cases h3 : j < b
          · have t3 : decide (j < b) = true := by simp [h3]
            have HN := Lib.hid (show contTo es k (j + 1) = j by rw [HST.out, if_pos (by rw [t3]; simp)]); clear h1 h2 h3
            go_wp2_with fail
            exact ⟨⟨j + 1, by go_num, by omega, by rw [HN.out]⟩, by simp [intOf]; omega⟩
          · have t3 : decide (j < b) = false := by simp; omega
            have HN := Lib.hid (show contTo es k (j + 1) = b by rw [HST.out, t3, if_neg (by rw [h2]; simp)]); clear h1 h2 h3
            go_wp2_with fail
            exact ⟨⟨j + 1, by go_num, by omega, by rw [HN.out]⟩, by simp [intOf]; omega⟩
        · have t2 : ((y : Int) != (x : Int)) = true := by simp; omega
          have HN := Lib.hid (show contTo es k (j + 1) = j by rw [HST.out, if_pos (by simp [h2])]); clear h1 h2
          go_wp2_with fail
          exact ⟨⟨j + 1, by go_num, by omega, by rw [HN.out]⟩, by simp [intOf]; omega⟩
      · have t1 : (((andn x y : Nat) : Int) == 0) = false := by simp; omega
        have HN := Lib.hid (show contTo es k (j + 1) = b by rw [HST.out, if_neg (by simp [h1])])
        generalize andn x y = z at *
        go_wp2_with fail
        exact ⟨⟨j + 1, by go_num, by omega, by rw [HN.out]⟩, by simp [intOf]; omega⟩
    · obtain rfl : j = es.length := by omega
      go_wp2_with fail
      go_ret
      exact ⟨rfl, HW.out⟩
end Go.Proofs.YtjofdlafblpclaaDoor
