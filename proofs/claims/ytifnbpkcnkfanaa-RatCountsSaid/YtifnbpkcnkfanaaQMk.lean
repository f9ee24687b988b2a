/-
  within and is of the laws of layer 5.
-/
import Derived.Test.YtifnbpkcnkfanaaQRef
namespace Go.Proofs.Ytifnbpkcnkfanaa
open Go.RowKit

def Win (z : Int) : Prop := -1048576 ≤ z ∧ z ≤ 1048576
instance (z : Int) : Decidable (Win z) := inferInstanceAs (Decidable (_ ∧ _))
def winB (a b c d : Int) : Bool := decide (Win a ∧ Win b ∧ Win c ∧ Win d)
/-- The four numbers. -/
def four (a b c d : Int) (i : Nat) : Int := if i = 0 then a else if i = 1 then b else if i = 2 then c else d
def A4 (w : World) (g : Nat) (a b c d : Int) : Prop := Blk w g 22 #[.int .i64 a, .int .i64 b, .int .i64 c, .int .i64 d]
section
variable {w w' : World} {g : Nat} {a b c d : Int}
theorem A4.cell (h : A4 w g a b c d) {i : Nat} (hi : i < 4) : w.cell? ⟨g, i, none⟩ = some (.int .i64 (four a b c d i)) := by
  have : i = 0 ∨ i = 1 ∨ i = 2 ∨ i = 3 := by omega
  unfold A4 at h
  rcases this with rfl | rfl | rfl | rfl <;> (rw [Blk.cell h]; rfl)
theorem A4.c0 (h : A4 w g a b c d) : w.cell? ⟨g, 0, none⟩ = some (.int .i64 a) := h.cell (i := 0) (by omega)
theorem A4.c1 (h : A4 w g a b c d) : w.cell? ⟨g, 1, none⟩ = some (.int .i64 b) := h.cell (i := 1) (by omega)
theorem A4.c2 (h : A4 w g a b c d) : w.cell? ⟨g, 2, none⟩ = some (.int .i64 c) := h.cell (i := 2) (by omega)
theorem A4.c3 (h : A4 w g a b c d) : w.cell? ⟨g, 3, none⟩ = some (.int .i64 d) := h.cell (i := 3) (by omega)
theorem A4.new (h : A4 w g a b c d) (hb : Below w.heap.size w w') : A4 w' g a b c d := Blk.below h hb (Blk.lt h)
theorem A4.lt (h : A4 w g a b c d) : g < w.heap.size := Blk.lt h
theorem four_all (P : Int → Prop) : (∀ i, i < 4 → P (four a b c d i)) ↔ P a ∧ P b ∧ P c ∧ P d := by
  constructor
  · intro h; exact ⟨h 0 (by omega), h 1 (by omega), h 2 (by omega), h 3 (by omega)⟩
  · rintro ⟨h0, h1, h2, h3⟩ i hi
    have : i = 0 ∨ i = 1 ∨ i = 2 ∨ i = 3 := by omega
    rcases this with rfl | rfl | rfl | rfl
    · exact h0
    · exact h1
    · exact h2
    · exact h3

set_option maxHeartbeats 2000000 in
theorem within_any : Calls Try.prog 10 #[.agg #[.int .i64 a, .int .i64 b, .int .i64 c, .int .i64 d]] w fun e w' => e = .returned (.bool (winB a b c d)) ∧ Below w.heap.size w w' := by
  have HA : Hid (A4 (w.alloc (.cells #[.int .i64 a, .int .i64 b, .int .i64 c, .int .i64 d] 22)) w.heap.size a b c d) := Lib.hid (Blk.new w _ _)
  go_enter Try.func10, Try.ntmps10
  go_wp2_with fail
  go_loop [3] (fun iv => ∃ i : Nat, i ≤ 4 ∧ iv = .int .i64 i ∧ Hid (∀ j, j < i → Win (four a b c d j))) (fun iv => 4 - (intOf iv).toNat)
  case atStart => exact ⟨0, by omega, rfl, Lib.hid (fun j hj => by omega)⟩
  case round =>
    obtain ⟨i, hi, rfl, HJ⟩ := hrel
    by_cases hlt : i < 4
    · have hcell := HA.out.cell hlt
      obtain ⟨z, hz⟩ : ∃ z, z = four a b c d i := ⟨_, rfl⟩
      rw [← hz] at hcell
      have HZ := Lib.hid hz; clear hz
      have i1 : (0 : Int) ≤ (i : Int) := by omega
      have i2 : (i : Int) < 4 := by omega
      by_cases h1 : 1048576 < z
      · have t1 : decide ((1048576 : Int) < z) = true := by simp; omega
        go_wp2_with fail
        go_ret
        have hno : ¬ (Win a ∧ Win b ∧ Win c ∧ Win d) := fun h => by
          have := (four_all Win).2 h i hlt
          rw [← HZ.out] at this
          have := this.2; omega
        exact ⟨by rw [show winB a b c d = false from decide_eq_false hno]; rfl, al w _⟩
      · have t1 : decide ((1048576 : Int) < z) = false := by simp; omega
        by_cases h2 : z < -1048576
        · have t2 : decide (z < -1048576) = true := by simp; omega
          go_wp2_with fail
          go_ret
          have hno : ¬ (Win a ∧ Win b ∧ Win c ∧ Win d) := fun h => by
            have := (four_all Win).2 h i hlt
            rw [← HZ.out] at this
            have := this.1; omega
          exact ⟨by rw [show winB a b c d = false from decide_eq_false hno]; rfl, al w _⟩
        · have t2 : decide (z < -1048576) = false := by simp; omega
          go_wp2_with fail
          refine ⟨⟨i + 1, by omega, by go_num, Lib.hid (fun j hj => ?_)⟩, by simp [intOf]; omega⟩
          by_cases hji : j = i
          · subst hji; rw [← HZ.out]; exact ⟨by omega, by omega⟩
          · exact HJ.out j (by omega)
    · obtain rfl : i = 4 := by omega
      go_wp2_with fail
      go_ret
      have hyes := (four_all Win).1 HJ.out
      exact ⟨by rw [show winB a b c d = true from decide_eq_true hyes]; rfl, al w _⟩
end

set_option maxRecDepth 100000 in
set_option maxHeartbeats 4000000 in
theorem lis_any {w : World} {s : Bool} {A B : Option Addr} {n c m d b : Nat} {x : Rat} (h : Rn w s A n c B m d b x) (h1 : x.num.natAbs ≤ 9223372036854775807) (h2 : x.den ≤ 9223372036854775807) :
    Calls Try.prog 13 #[.agg #[.bool s, .slice A n c, .slice B m d], .agg #[.int .i64 x.num, .int .i64 (x.den : Int)]] w fun e w' => e = .returned (.bool true) ∧ Below w.heap.size w w' := by
  have HS := Lib.hid h.1
  have HA := Lib.hid h; clear h
  go_enter Try.func13, Try.ntmps13
  go_upto_region 1 with (fail)
  obtain ⟨X, hX⟩ : ∃ X : Array Value, X = #[.bool s, .slice A n c, .slice B m d] := ⟨_, rfl⟩
  obtain ⟨Y, hY⟩ : ∃ Y : Array Value, Y = #[.int .i64 x.num, .int .i64 (x.den : Int)] := ⟨_, rfl⟩
  have hW : Below w.heap.size w ((w.alloc (.cells X 29)).alloc (.cells Y 35)) := (al w _).alloc (by simp) _
  have h2' : Blk ((w.alloc (.cells X 29)).alloc (.cells Y 35)) w.heap.size 29 X := (Blk.new w _ _).alloc _
  have h3 : Blk ((w.alloc (.cells X 29)).alloc (.cells Y 35)) (w.heap.size + 1) 35 Y := by
    have := (Blk.new (w.alloc (.cells X 29)) 35 Y)
    simpa using this
  rw [hX, hY] at hW h2' h3
  clear hX hY
  generalize (w.alloc (.cells #[.bool s, .slice A n c, .slice B m d] 29)).alloc (.cells #[.int .i64 x.num, .int .i64 (x.den : Int)] 35) = w0 at hW h2' h3 ⊢
  clear X Y
  replace HA := Lib.hid (HA.out.new hW)
  have HW := Lib.hid hW; clear hW
  have T2 : Hid (TB w0 w.heap.size 29 (.bool s) (.slice A n c) (.slice B m d)) := Lib.hid h2'
  have T3 : Hid (GB w0 (w.heap.size + 1) 35 (.int .i64 x.num) (.int .i64 (x.den : Int))) := Lib.hid h3
  clear h2' h3
  have a0 := T2.out.c0; have a1 := T2.out.c1; have a2 := T2.out.c2
  go_wp2_with fail
  refine (normal_any HA.out).mono ?_
  rintro e w1 ⟨rfl, hb⟩
  replace HA := Lib.hid (HA.out.new hb)
  replace T2 := Lib.hid (T2.out.new hb); replace T3 := Lib.hid (T3.out.new hb)
  replace HW := Lib.hid (bthen HW.out hb HW.out.size)
  clear hb a0 a1 a2
  have a0 := T2.out.c0; have a1 := T2.out.c1; have a2 := T2.out.c2; have b0 := T3.out.c0; have b1 := T3.out.c1
  have hz := HS.out
  have hN : x.num = (if s = true then -(x.num.natAbs : Int) else (x.num.natAbs : Int)) := by
    rw [hz]
    by_cases h : x.num < 0
    · rw [if_pos (by simpa using h)]; omega
    · rw [if_neg (by simpa using h)]; omega
  have ts : (s == decide (x.num < 0)) = true := by rw [hz]; simp
  have hu1 := (u64_n HA.out.2.1.1)
  have hu2 := (u64_n HA.out.2.2.1)
  have hd0 := x.den_nz
  have hneg : s = true → x.num < 0 := fun h => by rw [hz] at h; simpa using h
  have hpos : s = false → 0 ≤ x.num := fun h => by rw [hz] at h; simpa using h
  clear HS hz HA T2 T3
  generalize x.num.natAbs = k at *
  generalize x.den = q at *
  generalize x.num = z at *
  have HU1 := Lib.hid hu1; have HU2 := Lib.hid hu2; clear hu1 hu2
  have HF := Lib.hid (And.intro hN (And.intro hneg (And.intro hpos ts))); clear hN hneg hpos ts
  go_wp2_with fail
  refine HU1.out.mono ?_
  rintro e w2 ⟨hu1, -, rfl⟩
  obtain rfl := hu1 (by omega)
  clear hu1
  go_wp2_with fail
  refine HU2.out.mono ?_
  rintro e w2 ⟨hu1, -, rfl⟩
  obtain rfl := hu1 (by omega)
  clear hu1
  obtain ⟨hN, hneg, hpos, ts⟩ := HF.out
  clear HF HU1 HU2
  cases s
  · have hz0 := hpos rfl
    simp only [Bool.false_eq_true, if_false] at hN
    subst hN
    have tz : decide ((k : Int) < 0) = false := by simp
    clear hneg hpos
    go_wp2_with fail
    go_ret
    exact ⟨rfl, HW.out⟩
  · have hz0 := hneg rfl
    simp only [if_true] at hN
    have tz : decide (z < 0) = true := by simp [hz0]
    have e1 : -z = (k : Int) := by omega
    clear hneg hpos hN
    go_wp2_with fail
    go_ret
    exact ⟨rfl, HW.out⟩
end Go.Proofs.Ytifnbpkcnkfanaa
