/-
  Contract of slices.Compare at int.
-/
import Derived.Test.YtkiahnffepbgpaaRefI
import Derived.Test.YtkiahnffepbgpaaAcy
namespace Go.Proofs.Ytkiahnffepbgpaa
open Go.RowKit

theorem isnan_any (x : Int) (w : World) : Calls Try.prog 59 #[.int .i64 x] w fun e w' => e = .returned (.bool false) ∧ w' = w := by
  go_enter Try.func59, Try.ntmps59
  go_wp2_with fail
  go_ret
  first | exact ⟨rfl, rfl⟩ | simp
/-- How two numbers compare. -/
def cmpI (x y : Int) : Int := if x < y then -1 else if y < x then 1 else 0
set_option maxHeartbeats 1000000 in
theorem cmp_any (x y : Int) (w : World) : Calls Try.prog 56 #[.int .i64 x, .int .i64 y] w fun e w' => e = .returned (.int .i64 (cmpI x y)) ∧ w' = w := by
  by_cases h1 : x < y
  · have e1 : cmpI x y = -1 := by simp [cmpI, h1]
    rw [e1]
    have t1 : decide (x < y) = true := by simp [h1]
    go_enter Try.func56, Try.ntmps56
    go_wp2_with (go_at_call 59; (first | with_reducible refine (isnan_any x _).mono ?_ | with_reducible refine (isnan_any y _).mono ?_); rintro e w' ⟨rfl, rfl⟩)
    go_ret
    first | exact ⟨rfl, rfl⟩ | simp
  · have t1 : decide (x < y) = false := by simp; omega
    by_cases h2 : y < x
    · have e1 : cmpI x y = 1 := by simp [cmpI, h1, h2]
      rw [e1]
      have t2 : decide (x > y) = true := by simp [h2]
      go_enter Try.func56, Try.ntmps56
      go_wp2_with (go_at_call 59; (first | with_reducible refine (isnan_any x _).mono ?_ | with_reducible refine (isnan_any y _).mono ?_); rintro e w' ⟨rfl, rfl⟩)
      go_ret
      first | exact ⟨rfl, rfl⟩ | simp
    · have e1 : cmpI x y = 0 := by simp [cmpI, h1, h2]
      rw [e1]
      have t2 : decide (x > y) = false := by simp; omega
      go_enter Try.func56, Try.ntmps56
      go_wp2_with (go_at_call 59; (first | with_reducible refine (isnan_any x _).mono ?_ | with_reducible refine (isnan_any y _).mono ?_); rintro e w' ⟨rfl, rfl⟩)
      go_ret
      first | exact ⟨rfl, rfl⟩ | simp
end Go.Proofs.Ytkiahnffepbgpaa
namespace Go.Proofs.Ytkiahnffepbgpaa
open Go.RowKit

/-- How two lists compare. -/
def cmpL : List Int → List Int → Int
  | [], [] => 0
  | [], _ :: _ => -1
  | _ :: _, [] => 1
  | x :: xs, y :: ys => if x < y then -1 else if y < x then 1 else cmpL xs ys
theorem drop_inth {l : List Int} {k : Nat} (h : k < l.length) : l.drop k = inth l k :: l.drop (k + 1) := by
  rw [inth_eq h]; exact List.drop_eq_getElem_cons h
theorem cmpL_step {xs ys : List Int} {k : Nat} (h1 : k < xs.length) (h2 : k < ys.length) : cmpL (xs.drop k) (ys.drop k) = if cmpI (inth xs k) (inth ys k) = 0 then cmpL (xs.drop (k + 1)) (ys.drop (k + 1)) else cmpI (inth xs k) (inth ys k) := by
  rw [drop_inth h1, drop_inth h2]
  unfold cmpI
  rw [cmpL]
  by_cases ha : inth xs k < inth ys k
  · simp [ha]
  · by_cases hb : inth ys k < inth xs k
    · simp [ha, hb]
    · simp [ha, hb]
theorem cmpL_long {xs ys : List Int} {k : Nat} (h1 : k < xs.length) (h2 : ys.length ≤ k) : cmpL (xs.drop k) (ys.drop k) = 1 := by
  rw [drop_inth h1, List.drop_of_length_le h2]; rfl
theorem cmpL_short {xs ys : List Int} {k : Nat} (h1 : xs.length ≤ k) (h2 : k < ys.length) : cmpL (xs.drop k) (ys.drop k) = -1 := by
  rw [drop_inth h2, List.drop_of_length_le h1]; rfl
theorem cmpL_both {xs ys : List Int} {k : Nat} (h1 : xs.length ≤ k) (h2 : ys.length ≤ k) : cmpL (xs.drop k) (ys.drop k) = 0 := by
  rw [List.drop_of_length_le h1, List.drop_of_length_le h2]; rfl

set_option maxHeartbeats 2000000 in
theorem compare_int (A B : Option Addr) (xs ys : List Int) (n m c d : Nat) (w : World) (hx : Xs w w.heap.size A n xs) (hy : Xs w w.heap.size B m ys) :
    Calls Try.prog 43 #[.slice A n c, .slice B m d] w fun e w' => e = .returned (.int .i64 (cmpL xs ys)) ∧ w' = w := by
  have hlx := hx.le
  have hly := hy.le
  have HLX := Lib.hid hx.len; have HLY := Lib.hid hy.len
  have HX := Lib.hid hx; clear hx
  have HY := Lib.hid hy; clear hy
  go_enter Try.func43, Try.ntmps43
  go_wp2_with fail
  go_loop [11] (fun i => ∃ k : Nat, k ≤ n ∧ k ≤ m ∧ i = .int .i64 k ∧ Hid (cmpL xs ys = cmpL (xs.drop k) (ys.drop k))) (fun i => n - (intOf i).toNat)
  case atStart => exact ⟨0, Nat.zero_le _, Nat.zero_le _, rfl, Lib.hid rfl⟩
  case round =>
    obtain ⟨k, hk, hkm, rfl, HI⟩ := hrel
    by_cases hlt : k < n
    · obtain ⟨ad, rfl, hb1, hc⟩ := HX.out.at_ hlt
      by_cases hltm : k < m
      · obtain ⟨ad2, rfl, hb2, hc2⟩ := HY.out.at_ hltm
        have HST := Lib.hid (cmpL_step (xs := xs) (ys := ys) (k := k) (by have := HLX.out; omega) (by have := HLY.out; omega))
        by_cases hz : cmpI (inth xs k) (inth ys k) = 0
        · have HC := Lib.hid (fun W => cmp_any (inth xs k) (inth ys k) W)
          rw [hz] at HC
          have HZ := Lib.hid hz; clear hz
          go_wp2_with (go_at_call 56; refine (HC.out _).mono ?_; rintro e w' ⟨rfl, rfl⟩)
          exact ⟨⟨k + 1, by omega, by omega, by go_num, Lib.hid (by rw [HI.out, HST.out, if_pos HZ.out])⟩, by simp [intOf]; omega⟩
        · have HC := Lib.hid (fun W => cmp_any (inth xs k) (inth ys k) W)
          have HZ := Lib.hid hz
          generalize hq : cmpI (inth xs k) (inth ys k) = q at *
          have tq : (q != 0) = true := by simpa using hz
          clear hz hq
          go_wp2_with (go_at_call 56; refine (HC.out _).mono ?_; rintro e w' ⟨rfl, rfl⟩)
          go_ret
          exact ⟨ret_int (by rw [HI.out, HST.out, if_neg HZ.out]), rfl⟩
      · have e := cmpL_long (xs := xs) (ys := ys) (k := k) (by have := HLX.out; omega) (by have := HLY.out; omega)
        have HE := Lib.hid e; clear e
        go_wp2_with fail
        go_ret
        exact ⟨ret_int (by rw [HI.out, HE.out]), rfl⟩
    · by_cases hltm : n < m
      · have HE := Lib.hid (cmpL_short (xs := xs) (ys := ys) (k := k) (by have := HLX.out; omega) (by have := HLY.out; omega))
        go_wp2_with fail
        go_ret
        exact ⟨ret_int (by rw [HI.out, HE.out]), rfl⟩
      · have HE := Lib.hid (cmpL_both (xs := xs) (ys := ys) (k := k) (by have := HLX.out; omega) (by have := HLY.out; omega))
        go_wp2_with fail
        go_ret
        exact ⟨ret_int (by rw [HI.out, HE.out]), rfl⟩
end Go.Proofs.Ytkiahnffepbgpaa
