/-
  The walk of TrioPermutes.
-/
import Derived.Test.YtdagdamliggfmaaAwake
import Derived.Test.YtdagdamliggfmaaRefPerm
namespace Go.Proofs.Ytdagdamliggfmaa
open Go.RowKit

set_option maxHeartbeats 2000000 in
theorem permutes_far (n : Int) (A : Option Addr) (len c : Nat) (Ap : Option Addr) (np cp : Nat) (w : World) (h1 : len ≤ 9223372036854775807) (h2 : np ≤ 9223372036854775807) (hfar : 70 < len ∨ 40 < np) :
    Calls Try.prog 3 #[.agg #[.int .i64 n, .slice A len c], .slice Ap np cp] w fun e w' => e = .returned (.bool true) ∧ Below w.heap.size w w' := by
  by_cases h3 : 70 < len
  · clear hfar
    go_enter Try.func3, Try.ntmps3
    go_wp2_with fail
    refine (awake_any _).mono ?_
    rintro e w1 ⟨rfl, hb⟩
    have HB := Lib.hid (bthen (al _ _) hb (by simp)); clear hb
    go_wp2_with fail
    go_ret
    exact ⟨rfl, HB.out⟩
  · have h4 : 40 < np := by omega
    clear hfar
    go_enter Try.func3, Try.ntmps3
    go_wp2_with fail
    refine (awake_any _).mono ?_
    rintro e w1 ⟨rfl, hb⟩
    have HB := Lib.hid (bthen (al _ _) hb (by simp)); clear hb
    go_wp2_with fail
    go_ret
    exact ⟨rfl, HB.out⟩

set_option maxHeartbeats 2000000 in
theorem permutes_bad1 (n : Int) (A : Option Addr) (es : List Nat) (len c : Nat) (Ap : Option Addr) (np cp : Nat) (w : World) (hr : Es w w.heap.size A len es) (h1 : len ≤ 70) (h2 : np ≤ 40) (hbad : (checkCode n es == 0) = false) :
    Calls Try.prog 3 #[.agg #[.int .i64 n, .slice A len c], .slice Ap np cp] w fun e w' => e = .returned (.bool true) ∧ Below w.heap.size w w' := by
  have hbad2 : (checkCode n es != 0) = true := by simpa using hbad
  have HR := Lib.hid hr; clear hr
  go_enter Try.func3, Try.ntmps3
  go_wp2_with fail
  refine (permute_bad1 n A es len c Ap np cp _ (HR.out.new (al _ _)) hbad2).mono ?_
  rintro e w1 ⟨rfl, hb⟩
  have hG : GB w1 w.heap.size 24 (.int .i64 n) (.slice A len c) := GB.new (GB.made _ _ _ _) hb
  have hB := bthen (al w _) hb (by simp)
  have c0 := hG.c0; have c1 := hG.c1; have hl := hG.lt
  have HG := Lib.hid hG; clear hG hb
  have HB := Lib.hid hB; clear hB
  go_wp2_with fail
  refine (of_any n A len c _).mono ?_
  rintro e w2 ⟨rfl, hb⟩
  have hX : GB w2 w1.heap.size 24 (.int .i64 0) (.slice none 0 0) := GB.new (GB.made _ _ _ _) hb
  have hB := bthen HB.out (bthen (al w1 _) hb (by simp)) HB.out.size
  clear HB hb HG c0 c1 hl
  have HX := Lib.hid hX; clear hX
  have HB := Lib.hid hB; clear hB
  go_wp2_with fail
  refine (rcheck_any n A es len c _ (HR.out.new HB.out)).mono ?_
  rintro e w3 ⟨rfl, hb⟩
  have hB := bthen HB.out hb HB.out.size
  have hX := HX.out.new hb
  clear HB HX hb
  have HB := Lib.hid hB; clear hB
  have HX := Lib.hid hX; clear hX
  go_wp2_with fail
  refine (awake_any _).mono ?_
  rintro e w4 ⟨rfl, hb⟩
  have hB := bthen HB.out hb HB.out.size
  have hX := HX.out.new hb
  have c0 := hX.c0; have c1 := hX.c1
  clear HB HX hb hX
  have HB := Lib.hid hB; clear hB
  go_wp2_with fail
  go_ret
  exact ⟨rfl, HB.out⟩

set_option maxHeartbeats 2000000 in
theorem permutes_bad2 (n : Nat) (A : Option Addr) (es : List Nat) (len c : Nat) (Ap : Option Addr) (p : List Int) (np cp : Nat) (w : World) (hr : Es w w.heap.size A len es) (hp : Xs w w.heap.size Ap np p) (h1 : len ≤ 70) (h2 : np ≤ 40) (hgood : checkCode n es = 0) (hperm : permB p 0 n = false) :
    Calls Try.prog 3 #[.agg #[.int .i64 n, .slice A len c], .slice Ap np cp] w fun e w' => e = .returned (.bool true) ∧ Below w.heap.size w w' := by
  obtain ⟨_, hn, _, _⟩ := checkCode_zero hgood
  have HR := Lib.hid hr; clear hr
  have HP := Lib.hid hp; clear hp
  have HQ := Lib.hid hgood; clear hgood
  have HM := Lib.hid hperm; clear hperm
  go_enter Try.func3, Try.ntmps3
  go_wp2_with fail
  refine (permute_bad2 n A es len c Ap p np cp _ (HR.out.new (al _ _)) (HP.out.new (al _ _)) HQ.out HM.out).mono ?_
  rintro e w1 ⟨rfl, hb⟩
  have hG : GB w1 w.heap.size 24 (.int .i64 n) (.slice A len c) := GB.new (GB.made _ _ _ _) hb
  have hB := bthen (al w _) hb (by simp)
  have c0 := hG.c0; have c1 := hG.c1; have hl := hG.lt
  have HG := Lib.hid hG; clear hG hb
  have HB := Lib.hid hB; clear hB
  go_wp2_with fail
  refine (of_any n A len c _).mono ?_
  rintro e w2 ⟨rfl, hb⟩
  have hX : GB w2 w1.heap.size 24 (.int .i64 0) (.slice none 0 0) := GB.new (GB.made _ _ _ _) hb
  have hG := HG.out.new (bthen (al w1 _) hb (by simp))
  have hB := bthen HB.out (bthen (al w1 _) hb (by simp)) HB.out.size
  clear HB hb HG c0 c1 hl
  have HX := Lib.hid hX; clear hX
  have HG := Lib.hid hG; clear hG
  have HB := Lib.hid hB; clear hB
  go_wp2_with fail
  refine (rcheck_any n A es len c _ (HR.out.new HB.out)).mono ?_
  rintro e w3 ⟨rfl, hb⟩
  rw [HQ.out]
  have hB := bthen HB.out hb HB.out.size
  have hX := HX.out.new hb
  have hG := HG.out.new hb
  have c0 := hG.c0
  clear HB HX hb HG
  have HB := Lib.hid hB; clear hB
  have HX := Lib.hid hX; clear hX hG
  go_wp2_with fail
  refine (perm_any Ap p np cp 0 n _ (HP.out.new HB.out) (by omega) (by omega) (by omega) (by omega)).mono ?_
  rintro e w4 ⟨rfl, hb⟩
  rw [HM.out]
  have hB := bthen HB.out hb HB.out.size
  have hX := HX.out.new hb
  clear HB HX hb c0
  have HB := Lib.hid hB; clear hB
  have HX := Lib.hid hX; clear hX
  go_wp2_with fail
  refine (awake_any _).mono ?_
  rintro e w5 ⟨rfl, hb⟩
  have hB := bthen HB.out hb HB.out.size
  have hX := HX.out.new hb
  have c0 := hX.c0; have c1 := hX.c1
  clear HB HX hb hX
  have HB := Lib.hid hB; clear hB
  go_wp2_with fail
  go_ret
  exact ⟨rfl, HB.out⟩

theorem fld1 (x y : Value) (W : World) : (Instr.field 31 (.agg #[x, y]) 1).run Try.prog W = .ok y W := by kernel_rfl

set_option maxHeartbeats 2000000 in
theorem permutes_ok (n : Nat) (A : Option Addr) (es : List Nat) (len c : Nat) (Ap : Option Addr) (p : List Int) (np cp : Nat) (w : World) (hr : Es w w.heap.size A len es) (hp : Xs w w.heap.size Ap np p) (h1 : len ≤ 70) (h2 : np ≤ 40) (hgood : checkCode n es = 0) (hperm : permB p 0 n = true) :
    Calls Try.prog 3 #[.agg #[.int .i64 n, .slice A len c], .slice Ap np cp] w fun e w' => e = .returned (.bool true) ∧ Below w.heap.size w w' := by
  obtain ⟨_, hn, hl64, _⟩ := checkCode_zero hgood
  have hlen := hr.len
  have hplen := hp.len
  obtain ⟨hpl, hprg, _⟩ := of_decide_eq_true hperm
  have hl : len ≤ 64 := by omega
  have hnp : np ≤ 32 := by omega
  have HPOS := Lib.hid (show ∀ x ∈ p, 0 ≤ x from fun x hx => (hprg x hx).1)
  clear hprg hlen hplen hpl hl64
  have HR := Lib.hid hr; clear hr
  have HP := Lib.hid hp; clear hp
  have HQ := Lib.hid hgood; clear hgood
  have HM := Lib.hid hperm; clear hperm
  go_enter Try.func3, Try.ntmps3
  go_wp2_with fail
  refine (permute_ok n A es len c Ap p np cp _ (HR.out.new (al _ _)) (HP.out.new (al _ _)) HQ.out HM.out).mono ?_
  rintro e w1 ⟨g, c', rfl, hY, hb⟩
  have hG : GB w1 w.heap.size 24 (.int .i64 n) (.slice A len c) := GB.new (GB.made _ _ _ _) hb
  have hB := bthen (al w _) hb (by simp)
  have c0 := hG.c0; have c1 := hG.c1; have hl := hG.lt
  have HG := Lib.hid hG; clear hG hb
  have HB := Lib.hid hB; clear hB
  have HY := Lib.hid hY; clear hY
  go_wp2_with fail
  refine (of_any n A len c _).mono ?_
  rintro e w2 ⟨rfl, hb⟩
  have hX : GB w2 w1.heap.size 24 (.int .i64 n) (.slice (some ⟨g, 0, none⟩) len c') := GB.new (GB.made _ _ _ _) hb
  have hG := HG.out.new (bthen (al w1 _) hb (by simp))
  have hY := HY.out.new (bthen (al w1 _) hb (by simp))
  have hB := bthen HB.out (bthen (al w1 _) hb (by simp)) HB.out.size
  clear HB hb HG c0 c1 hl HY
  have HX := Lib.hid hX; clear hX
  have HG := Lib.hid hG; clear hG
  have HB := Lib.hid hB; clear hB
  have HY := Lib.hid hY; clear hY
  go_wp2_with fail
  refine (rcheck_any n A es len c _ (HR.out.new HB.out)).mono ?_
  rintro e w3 ⟨rfl, hb⟩
  rw [HQ.out]
  have hB := bthen HB.out hb HB.out.size
  have hX := HX.out.new hb
  have hG := HG.out.new hb
  have hY := HY.out.new hb
  have c0 := hG.c0
  clear HB HX hb HG HY
  have HB := Lib.hid hB; clear hB
  have HX := Lib.hid hX; clear hX
  have HG := Lib.hid hG; clear hG
  have HY := Lib.hid hY; clear hY
  go_wp2_with fail
  refine (perm_any Ap p np cp 0 n _ (HP.out.new HB.out) (by omega) (by omega) (by omega) (by omega)).mono ?_
  rintro e w4 ⟨rfl, hb⟩
  rw [HM.out]
  have hB := bthen HB.out hb HB.out.size
  have hX := HX.out.new hb
  have hG := HG.out.new hb
  have hY := HY.out.new hb
  clear HB HX hb HG HY c0
  have c0 := hG.c0; have c1 := hG.c1; have x0 := hX.c0; have x1 := hX.c1
  have hl1 := hG.lt; have hl2 := hX.lt
  have HB := Lib.hid hB; clear hB
  have HX := Lib.hid hX; clear hX
  have HG := Lib.hid hG; clear hG
  have HY := Lib.hid hY; clear hY
  have hfd := fld1
  go_wp2_with fail
  go_region_held3 (fun w' => (∀ p : Addr, p.block < w4.heap.size → w'.cell? p = w4.cell? p) ∧ Below w4.heap.size w4 w')
    ((refine olds ?_; first | exact Below.refl _ _ | exact Below.drew (Below.refl _ _) | exact Hid.out ‹_›))
    (first
      | (go_at_call 9; refine (awake_any _).mono ?_; rintro e w5 ⟨rfl, hb⟩; have HB5 := Lib.hid (bthen (And.right ‹_ ∧ Below w4.heap.size w4 _›) hb (Below.size (And.right ‹_ ∧ Below w4.heap.size w4 _›))); clear hb)
      | (go_at_call 12; refine (of_any n A len c _).mono ?_; rintro e w6 ⟨rfl, hb⟩; have HB6 := Lib.hid (bthen (And.right ‹_ ∧ Below w4.heap.size w4 _›) hb (Below.size (And.right ‹_ ∧ Below w4.heap.size w4 _›))); clear hb)
      | (go_at_call 15; refine (rpermute_any n A es len c Ap p np cp _ (HR.out.new (bthen HB.out (And.right ‹_ ∧ Below w4.heap.size w4 _›) HB.out.size)) (HP.out.new (bthen HB.out (And.right ‹_ ∧ Below w4.heap.size w4 _›) HB.out.size)) (by omega) (by omega) HPOS.out).mono ?_; rintro e w7 ⟨A', c2, rfl, hZ, hb⟩; have HB7 := Lib.hid (bthen (And.right ‹_ ∧ Below w4.heap.size w4 _›) hb (Below.size (And.right ‹_ ∧ Below w4.heap.size w4 _›))); have HZ := Lib.hid hZ; clear hb hZ)
      | (go_at_call 14; refine (equal_u32 _ _ (es.map (ren p)) (es.map (ren p)) len len _ _ _ (HY.out.new (And.right ‹_ ∧ Below w4.heap.size w4 _›)) HZ.out).mono ?_; rintro e w8 ⟨rfl, hb⟩; have HB8 := Lib.hid (bthen (And.right ‹_ ∧ Below w4.heap.size w4 _›) hb (Below.size (And.right ‹_ ∧ Below w4.heap.size w4 _›))); clear hb; rw [show (es.map (ren p) == es.map (ren p)) = true from by simp]))
  go_wp2_with fail
  go_ret
  exact ⟨rfl, bthen HB.out HB8.out HB.out.size⟩

theorem trioPermutes_walk (n : Int) (A : Option Addr) (es : List Nat) (len c : Nat) (Ap : Option Addr) (p : List Int) (np cp : Nat) (w : World) (hr : Es w w.heap.size A len es) (_ : -9223372036854775808 ≤ n ∧ n ≤ 9223372036854775807) (_ : len ≤ c) (hp : Xs w w.heap.size Ap np p) (_ : np ≤ cp) :
    Calls Try.prog 3 #[.agg #[.int .i64 n, .slice A len c], .slice Ap np cp] w fun e w' => e = .returned (.bool true) ∧ Below w.heap.size w w' := by
  by_cases h1 : 70 < len ∨ 40 < np
  · exact permutes_far n A len c Ap np cp w hr.le hp.le h1
  · by_cases h2 : checkCode n es = 0
    · obtain ⟨h3, _, _, _⟩ := checkCode_zero h2
      obtain ⟨n, rfl⟩ := Int.eq_ofNat_of_zero_le h3
      cases h4 : permB p 0 n with
      | true => exact permutes_ok n A es len c Ap p np cp w hr hp (by omega) (by omega) h2 h4
      | false => exact permutes_bad2 n A es len c Ap p np cp w hr hp (by omega) (by omega) h2 h4
    · exact permutes_bad1 n A es len c Ap np cp w hr (by omega) (by omega) (by simpa using h2)

end Go.Proofs.Ytdagdamliggfmaa
