/-
  same, great of the laws of layer 5.
-/
import Derived.Test.YtifnbpkcnkfanaaQZero
namespace Go.Proofs.Ytifnbpkcnkfanaa
open Go.RowKit

theorem normal_any {w : World} {s : Bool} {A B : Option Addr} {n c m d b : Nat} {x : Rat} (h : Rn w s A n c B m d b x) : Calls Try.prog 38 #[.agg #[.bool s, .slice A n c, .slice B m d]] w fun e w' => e = .returned (.bool true) ∧ Below w.heap.size w w' := by
  by_cases hn : n = 0
  · subst hn; exact normal_zero h
  · exact normal_pos h hn
theorem cmpN_self' (n : Nat) : cmpN n n = 0 := by simp [cmpN]
theorem cmpN_ne {a b : Nat} (h : a ≠ b) : (cmpN a b == 0) = false := by
  unfold cmpN
  split
  · rfl
  · rw [if_pos (by omega)]; rfl

set_option maxRecDepth 100000 in
set_option maxHeartbeats 4000000 in
theorem same_true {w : World} {s : Bool} {A B : Option Addr} {n c m d b : Nat} {x : Rat} (h : Rn w s A n c B m d b x) {s' : Bool} {A' B' : Option Addr} {n' c' m' d' b' : Nat} {y : Rat} (h' : Rn w s' A' n' c' B' m' d' b' y) (hxy : x = y) : Calls Try.prog 21 #[.agg #[.bool s, .slice A n c, .slice B m d], .agg #[.bool s', .slice A' n' c', .slice B' m' d']] w fun e w' => e = .returned (.bool true) ∧ Below w.heap.size w w' := by
  subst hxy
  have HA := Lib.hid h; have HB := Lib.hid h'; clear h h'
  have ts : (s == s') = true := by rw [HA.out.1, HB.out.1]; simp
  go_enter Try.func21, Try.ntmps21
  go_upto_region 1 with (fail)
  obtain ⟨X, hX⟩ : ∃ X : Array Value, X = #[.bool s, .slice A n c, .slice B m d] := ⟨_, rfl⟩
  obtain ⟨Y, hY⟩ : ∃ Y : Array Value, Y = #[.bool s', .slice A' n' c', .slice B' m' d'] := ⟨_, rfl⟩
  have hW : Below w.heap.size w ((w.alloc (.cells X 29)).alloc (.cells Y 29)) := (al w _).alloc (by simp) _
  have h2 : Blk ((w.alloc (.cells X 29)).alloc (.cells Y 29)) w.heap.size 29 X := (Blk.new w _ _).alloc _
  have h3 : Blk ((w.alloc (.cells X 29)).alloc (.cells Y 29)) (w.heap.size + 1) 29 Y := by
    have := (Blk.new (w.alloc (.cells X 29)) 29 Y)
    simpa using this
  rw [hX, hY] at hW h2 h3
  clear hX hY
  generalize (w.alloc (.cells #[.bool s, .slice A n c, .slice B m d] 29)).alloc (.cells #[.bool s', .slice A' n' c', .slice B' m' d'] 29) = w0 at hW h2 h3 ⊢
  clear X Y
  replace HA := Lib.hid (HA.out.new hW); replace HB := Lib.hid (HB.out.new hW)
  have HW := Lib.hid hW; clear hW
  have T2 : Hid (TB w0 w.heap.size 29 (.bool s) (.slice A n c) (.slice B m d)) := Lib.hid h2
  have T3 : Hid (TB w0 (w.heap.size + 1) 29 (.bool s') (.slice A' n' c') (.slice B' m' d')) := Lib.hid h3
  clear h2 h3
  have a0 := T2.out.c0; have a1 := T2.out.c1; have a2 := T2.out.c2; have b0 := T3.out.c0; have b1 := T3.out.c1; have b2 := T3.out.c2
  go_wp2_with fail
  refine (cmp_n HA.out.2.1.1 HB.out.2.1.1).mono ?_
  rintro e w1 ⟨rfl, hb⟩
  rw [cmpN_self']
  replace HA := Lib.hid (HA.out.new hb); replace HB := Lib.hid (HB.out.new hb)
  replace T2 := Lib.hid (T2.out.new hb); replace T3 := Lib.hid (T3.out.new hb)
  replace HW := Lib.hid (bthen HW.out hb HW.out.size)
  clear hb a0 a1 a2 b0 b1 b2
  have a0 := T2.out.c0; have a1 := T2.out.c1; have a2 := T2.out.c2; have b0 := T3.out.c0; have b1 := T3.out.c1; have b2 := T3.out.c2
  go_wp2_with fail
  refine (cmp_n HA.out.2.2.1 HB.out.2.2.1).mono ?_
  rintro e w1 ⟨rfl, hb⟩
  rw [cmpN_self']
  replace HA := Lib.hid (HA.out.new hb); replace HB := Lib.hid (HB.out.new hb)
  replace T2 := Lib.hid (T2.out.new hb); replace T3 := Lib.hid (T3.out.new hb)
  replace HW := Lib.hid (bthen HW.out hb HW.out.size)
  clear hb a0 a1 a2 b0 b1 b2
  have a0 := T2.out.c0; have a1 := T2.out.c1; have a2 := T2.out.c2; have b0 := T3.out.c0; have b1 := T3.out.c1; have b2 := T3.out.c2
  go_wp2_with fail
  refine (normal_any HA.out).mono ?_
  rintro e w1 ⟨rfl, hb⟩
  replace HA := Lib.hid (HA.out.new hb); replace HB := Lib.hid (HB.out.new hb)
  replace T2 := Lib.hid (T2.out.new hb); replace T3 := Lib.hid (T3.out.new hb)
  replace HW := Lib.hid (bthen HW.out hb HW.out.size)
  clear hb a0 a1 a2 b0 b1 b2
  have a0 := T2.out.c0; have a1 := T2.out.c1; have a2 := T2.out.c2; have b0 := T3.out.c0; have b1 := T3.out.c1; have b2 := T3.out.c2
  go_wp2_with fail
  refine (normal_any HB.out).mono ?_
  rintro e w1 ⟨rfl, hb⟩
  replace HA := Lib.hid (HA.out.new hb); replace HB := Lib.hid (HB.out.new hb)
  replace T2 := Lib.hid (T2.out.new hb); replace T3 := Lib.hid (T3.out.new hb)
  replace HW := Lib.hid (bthen HW.out hb HW.out.size)
  clear hb a0 a1 a2 b0 b1 b2
  have a0 := T2.out.c0; have a1 := T2.out.c1; have a2 := T2.out.c2; have b0 := T3.out.c0; have b1 := T3.out.c1; have b2 := T3.out.c2
  go_wp2_with fail
  go_ret
  exact ⟨rfl, HW.out⟩

set_option maxRecDepth 100000 in
set_option maxHeartbeats 4000000 in
theorem same_f1 {w : World} {s : Bool} {A B : Option Addr} {n c m d b : Nat} {x : Rat} (h : Rn w s A n c B m d b x) {s' : Bool} {A' B' : Option Addr} {n' c' m' d' b' : Nat} {y : Rat} (h' : Rn w s' A' n' c' B' m' d' b' y) (hs : s ≠ s') : Calls Try.prog 21 #[.agg #[.bool s, .slice A n c, .slice B m d], .agg #[.bool s', .slice A' n' c', .slice B' m' d']] w fun e w' => e = .returned (.bool false) ∧ Below w.heap.size w w' := by
  have HA := Lib.hid h; have HB := Lib.hid h'; clear h h'
  have ts : (s == s') = false := by simp [hs]
  clear hs
  go_enter Try.func21, Try.ntmps21
  go_upto_region 1 with (fail)
  obtain ⟨X, hX⟩ : ∃ X : Array Value, X = #[.bool s, .slice A n c, .slice B m d] := ⟨_, rfl⟩
  obtain ⟨Y, hY⟩ : ∃ Y : Array Value, Y = #[.bool s', .slice A' n' c', .slice B' m' d'] := ⟨_, rfl⟩
  have hW : Below w.heap.size w ((w.alloc (.cells X 29)).alloc (.cells Y 29)) := (al w _).alloc (by simp) _
  have h2 : Blk ((w.alloc (.cells X 29)).alloc (.cells Y 29)) w.heap.size 29 X := (Blk.new w _ _).alloc _
  have h3 : Blk ((w.alloc (.cells X 29)).alloc (.cells Y 29)) (w.heap.size + 1) 29 Y := by
    have := (Blk.new (w.alloc (.cells X 29)) 29 Y)
    simpa using this
  rw [hX, hY] at hW h2 h3
  clear hX hY
  generalize (w.alloc (.cells #[.bool s, .slice A n c, .slice B m d] 29)).alloc (.cells #[.bool s', .slice A' n' c', .slice B' m' d'] 29) = w0 at hW h2 h3 ⊢
  clear X Y
  replace HA := Lib.hid (HA.out.new hW); replace HB := Lib.hid (HB.out.new hW)
  have HW := Lib.hid hW; clear hW
  have T2 : Hid (TB w0 w.heap.size 29 (.bool s) (.slice A n c) (.slice B m d)) := Lib.hid h2
  have T3 : Hid (TB w0 (w.heap.size + 1) 29 (.bool s') (.slice A' n' c') (.slice B' m' d')) := Lib.hid h3
  clear h2 h3
  have a0 := T2.out.c0; have a1 := T2.out.c1; have a2 := T2.out.c2; have b0 := T3.out.c0; have b1 := T3.out.c1; have b2 := T3.out.c2
  go_wp2_with fail
  go_ret
  exact ⟨rfl, HW.out⟩

set_option maxRecDepth 100000 in
set_option maxHeartbeats 4000000 in
theorem same_f2 {w : World} {s : Bool} {A B : Option Addr} {n c m d b : Nat} {x : Rat} (h : Rn w s A n c B m d b x) {s' : Bool} {A' B' : Option Addr} {n' c' m' d' b' : Nat} {y : Rat} (h' : Rn w s' A' n' c' B' m' d' b' y) (hs : s = s') (hn : x.num.natAbs ≠ y.num.natAbs) : Calls Try.prog 21 #[.agg #[.bool s, .slice A n c, .slice B m d], .agg #[.bool s', .slice A' n' c', .slice B' m' d']] w fun e w' => e = .returned (.bool false) ∧ Below w.heap.size w w' := by
  have HA := Lib.hid h; have HB := Lib.hid h'; clear h h'
  have ts : (s == s') = true := by simp [hs]
  clear hs
  have tn := cmpN_ne hn; clear hn
  go_enter Try.func21, Try.ntmps21
  go_upto_region 1 with (fail)
  obtain ⟨X, hX⟩ : ∃ X : Array Value, X = #[.bool s, .slice A n c, .slice B m d] := ⟨_, rfl⟩
  obtain ⟨Y, hY⟩ : ∃ Y : Array Value, Y = #[.bool s', .slice A' n' c', .slice B' m' d'] := ⟨_, rfl⟩
  have hW : Below w.heap.size w ((w.alloc (.cells X 29)).alloc (.cells Y 29)) := (al w _).alloc (by simp) _
  have h2 : Blk ((w.alloc (.cells X 29)).alloc (.cells Y 29)) w.heap.size 29 X := (Blk.new w _ _).alloc _
  have h3 : Blk ((w.alloc (.cells X 29)).alloc (.cells Y 29)) (w.heap.size + 1) 29 Y := by
    have := (Blk.new (w.alloc (.cells X 29)) 29 Y)
    simpa using this
  rw [hX, hY] at hW h2 h3
  clear hX hY
  generalize (w.alloc (.cells #[.bool s, .slice A n c, .slice B m d] 29)).alloc (.cells #[.bool s', .slice A' n' c', .slice B' m' d'] 29) = w0 at hW h2 h3 ⊢
  clear X Y
  replace HA := Lib.hid (HA.out.new hW); replace HB := Lib.hid (HB.out.new hW)
  have HW := Lib.hid hW; clear hW
  have T2 : Hid (TB w0 w.heap.size 29 (.bool s) (.slice A n c) (.slice B m d)) := Lib.hid h2
  have T3 : Hid (TB w0 (w.heap.size + 1) 29 (.bool s') (.slice A' n' c') (.slice B' m' d')) := Lib.hid h3
  clear h2 h3
  have a0 := T2.out.c0; have a1 := T2.out.c1; have a2 := T2.out.c2; have b0 := T3.out.c0; have b1 := T3.out.c1; have b2 := T3.out.c2
  go_wp2_with fail
  refine (cmp_n HA.out.2.1.1 HB.out.2.1.1).mono ?_
  rintro e w1 ⟨rfl, hb⟩
  generalize cmpN x.num.natAbs y.num.natAbs = z at *
  replace HA := Lib.hid (HA.out.new hb); replace HB := Lib.hid (HB.out.new hb)
  replace T2 := Lib.hid (T2.out.new hb); replace T3 := Lib.hid (T3.out.new hb)
  replace HW := Lib.hid (bthen HW.out hb HW.out.size)
  clear hb a0 a1 a2 b0 b1 b2
  have a0 := T2.out.c0; have a1 := T2.out.c1; have a2 := T2.out.c2; have b0 := T3.out.c0; have b1 := T3.out.c1; have b2 := T3.out.c2
  go_wp2_with fail
  go_ret
  exact ⟨rfl, HW.out⟩

set_option maxRecDepth 100000 in
set_option maxHeartbeats 4000000 in
theorem same_f3 {w : World} {s : Bool} {A B : Option Addr} {n c m d b : Nat} {x : Rat} (h : Rn w s A n c B m d b x) {s' : Bool} {A' B' : Option Addr} {n' c' m' d' b' : Nat} {y : Rat} (h' : Rn w s' A' n' c' B' m' d' b' y) (hs : s = s') (hn : x.num.natAbs = y.num.natAbs) (hd : x.den ≠ y.den) : Calls Try.prog 21 #[.agg #[.bool s, .slice A n c, .slice B m d], .agg #[.bool s', .slice A' n' c', .slice B' m' d']] w fun e w' => e = .returned (.bool false) ∧ Below w.heap.size w w' := by
  have HA := Lib.hid h; have HB := Lib.hid h'; clear h h'
  have ts : (s == s') = true := by simp [hs]
  clear hs
  have tn := cmpN_ne hd; clear hd
  have HN := Lib.hid hn; clear hn
  go_enter Try.func21, Try.ntmps21
  go_upto_region 1 with (fail)
  obtain ⟨X, hX⟩ : ∃ X : Array Value, X = #[.bool s, .slice A n c, .slice B m d] := ⟨_, rfl⟩
  obtain ⟨Y, hY⟩ : ∃ Y : Array Value, Y = #[.bool s', .slice A' n' c', .slice B' m' d'] := ⟨_, rfl⟩
  have hW : Below w.heap.size w ((w.alloc (.cells X 29)).alloc (.cells Y 29)) := (al w _).alloc (by simp) _
  have h2 : Blk ((w.alloc (.cells X 29)).alloc (.cells Y 29)) w.heap.size 29 X := (Blk.new w _ _).alloc _
  have h3 : Blk ((w.alloc (.cells X 29)).alloc (.cells Y 29)) (w.heap.size + 1) 29 Y := by
    have := (Blk.new (w.alloc (.cells X 29)) 29 Y)
    simpa using this
  rw [hX, hY] at hW h2 h3
  clear hX hY
  generalize (w.alloc (.cells #[.bool s, .slice A n c, .slice B m d] 29)).alloc (.cells #[.bool s', .slice A' n' c', .slice B' m' d'] 29) = w0 at hW h2 h3 ⊢
  clear X Y
  replace HA := Lib.hid (HA.out.new hW); replace HB := Lib.hid (HB.out.new hW)
  have HW := Lib.hid hW; clear hW
  have T2 : Hid (TB w0 w.heap.size 29 (.bool s) (.slice A n c) (.slice B m d)) := Lib.hid h2
  have T3 : Hid (TB w0 (w.heap.size + 1) 29 (.bool s') (.slice A' n' c') (.slice B' m' d')) := Lib.hid h3
  clear h2 h3
  have a0 := T2.out.c0; have a1 := T2.out.c1; have a2 := T2.out.c2; have b0 := T3.out.c0; have b1 := T3.out.c1; have b2 := T3.out.c2
  go_wp2_with fail
  refine (cmp_n HA.out.2.1.1 HB.out.2.1.1).mono ?_
  rintro e w1 ⟨rfl, hb⟩
  rw [HN.out, cmpN_self']
  replace HA := Lib.hid (HA.out.new hb); replace HB := Lib.hid (HB.out.new hb)
  replace T2 := Lib.hid (T2.out.new hb); replace T3 := Lib.hid (T3.out.new hb)
  replace HW := Lib.hid (bthen HW.out hb HW.out.size)
  clear hb a0 a1 a2 b0 b1 b2
  have a0 := T2.out.c0; have a1 := T2.out.c1; have a2 := T2.out.c2; have b0 := T3.out.c0; have b1 := T3.out.c1; have b2 := T3.out.c2
  go_wp2_with fail
  refine (cmp_n HA.out.2.2.1 HB.out.2.2.1).mono ?_
  rintro e w1 ⟨rfl, hb⟩
  generalize cmpN x.den y.den = z at *
  replace HA := Lib.hid (HA.out.new hb); replace HB := Lib.hid (HB.out.new hb)
  replace T2 := Lib.hid (T2.out.new hb); replace T3 := Lib.hid (T3.out.new hb)
  replace HW := Lib.hid (bthen HW.out hb HW.out.size)
  clear hb a0 a1 a2 b0 b1 b2
  have a0 := T2.out.c0; have a1 := T2.out.c1; have a2 := T2.out.c2; have b0 := T3.out.c0; have b1 := T3.out.c1; have b2 := T3.out.c2
  go_wp2_with fail
  go_ret
  exact ⟨rfl, HW.out⟩

theorem same_false {w : World} {s : Bool} {A B : Option Addr} {n c m d b : Nat} {x : Rat} (h : Rn w s A n c B m d b x) {s' : Bool} {A' B' : Option Addr} {n' c' m' d' b' : Nat} {y : Rat} (h' : Rn w s' A' n' c' B' m' d' b' y) (hxy : x ≠ y) : Calls Try.prog 21 #[.agg #[.bool s, .slice A n c, .slice B m d], .agg #[.bool s', .slice A' n' c', .slice B' m' d']] w fun e w' => e = .returned (.bool false) ∧ Below w.heap.size w w' := by
  by_cases hs : s = s'
  · by_cases hn : x.num.natAbs = y.num.natAbs
    · by_cases hd : x.den = y.den
      · exfalso
        apply hxy
        rw [← qv_self x, ← qv_self y, hn, hd, ← h.1, ← h'.1, hs]
      · exact same_f3 h h' hs hn hd
    · exact same_f2 h h' hs hn
  · exact same_f1 h h' hs
end Go.Proofs.Ytifnbpkcnkfanaa
