/-
  The walk of law31.ConnexChecks.
-/
import Derived.Test.YtjofdlafblpclaaDoorAwk31
import Derived.Test.YtjofdlafblpclaaDoorLawCDec
import Derived.Test.YtjofdlafblpclaaDoorRA31
namespace Go.Proofs.YtjofdlafblpclaaDoor
open Go.RowKit
set_option linter.unusedSimpArgs false
set_option linter.unusedVariables false

set_option maxRecDepth 100000 in
set_option maxHeartbeats 8000000 in
theorem connexChecks_walk (n : Int) (A : Option Addr) (es : List Nat) (len c : Nat) (f : Int) (B : Option Addr) (xs : List Int) (m d : Nat) (w : World) (hG0 : GTab w) (hr : Es w w.heap.size A len es) (_ : -9223372036854775808 ≤ n ∧ n ≤ 9223372036854775807) (_ : len ≤ c) (_ : -9223372036854775808 ≤ f ∧ f ≤ 9223372036854775807) (hx : Xs w w.heap.size B m xs) (_ : m ≤ d) :
    Calls Tryd.prog 5 #[.agg #[.int .i64 n, .slice A len c], .int .i64 f, .slice B m d] w fun e w' => e = .returned (.bool true) ∧ Below w.heap.size w w' := by
  have hm9 := hx.le
  have HML := Lib.hid hx.len
  have HX := Lib.hid hx; clear hx
  have HLEN := Lib.hid hr.len
  have HR := Lib.hid hr; clear hr
  have HGT := Lib.hid hG0; clear hG0
  have HG := Lib.hid (GB.made w 24 (.int .i64 n) (.slice A len c))
  have HB := Lib.hid (al w (.cells #[.int .i64 n, .slice A len c] 24))
  cases hgr : greatB n es with
  | true =>
    have HQ := Lib.hid hgr; clear hgr
    go_enter Tryd.func5, Tryd.ntmps5
    have g0 := HG.out.c0; have g1 := HG.out.c1; have glt := HG.out.lt
    go_wp2_with fail
    refine (great_any n A es len c _ (HR.out.new HB.out)).mono ?_
    rintro e wx ⟨rfl, hb⟩
    rw [HQ.out]
    replace HG := Lib.hid (HG.out.new hb); replace HB := Lib.hid (bthen HB.out hb HB.out.size)
    clear hb g0 g1 glt
    have g0 := HG.out.c0; have g1 := HG.out.c1; have glt := HG.out.lt
    go_wp2_with fail
    refine (awake31_any _ (HGT.out.new HB.out)).mono ?_
    rintro e wx ⟨rfl, hb⟩
    replace HG := Lib.hid (HG.out.new hb); replace HB := Lib.hid (bthen HB.out hb HB.out.size)
    clear hb g0 g1 glt
    have g0 := HG.out.c0; have g1 := HG.out.c1; have glt := HG.out.lt
    go_wp2_with fail
    go_ret
    exact ⟨rfl, HB.out⟩
  | false =>
    have HQ := Lib.hid hgr
    by_cases hm10 : 10 < m
    · have t10 : decide ((m : Int) > 10) = true := by simp; omega
      clear hgr
      go_enter Tryd.func5, Tryd.ntmps5
      have g0 := HG.out.c0; have g1 := HG.out.c1; have glt := HG.out.lt
      go_wp2_with fail
      refine (great_any n A es len c _ (HR.out.new HB.out)).mono ?_
      rintro e wx ⟨rfl, hb⟩
      rw [HQ.out]
      replace HG := Lib.hid (HG.out.new hb); replace HB := Lib.hid (bthen HB.out hb HB.out.size)
      clear hb g0 g1 glt
      have g0 := HG.out.c0; have g1 := HG.out.c1; have glt := HG.out.lt
      go_wp2_with fail
      refine (awake31_any _ (HGT.out.new HB.out)).mono ?_
      rintro e wx ⟨rfl, hb⟩
      replace HG := Lib.hid (HG.out.new hb); replace HB := Lib.hid (bthen HB.out hb HB.out.size)
      clear hb g0 g1 glt
      have g0 := HG.out.c0; have g1 := HG.out.c1; have glt := HG.out.lt
      go_wp2_with fail
      go_ret
      exact ⟨rfl, HB.out⟩
    have t10 : decide ((m : Int) > 10) = false := by simp; omega
    by_cases hfc : freeCode n es f = 0
    · obtain ⟨hcc, hf0, hfn⟩ := free_zero hfc
      obtain ⟨hn6, hl8⟩ := great_false hgr hcc
      clear hgr
      obtain ⟨h0, hn32, _, hes⟩ := checkCode_zero hcc
      obtain ⟨n, rfl⟩ := Int.eq_ofNat_of_zero_le h0
      obtain ⟨f, rfl⟩ := Int.eq_ofNat_of_zero_le hf0
      have hes' : ∀ e ∈ es, e < 2 ^ n := by simpa using hes
      have hfn' : f ≤ n := by omega
      have hn' : n ≤ 32 := by omega
      have HES := Lib.hid hes'; have HC := Lib.hid hcc; have HFC := Lib.hid hfc
      have HL8 := Lib.hid hl8
      have HCX := Lib.hid (code_ok hn' (by rw [List.length_append, List.length_singleton]; omega) (bound_snoc hfn' hes'))
      have hl9 : len ≤ 8 := by rw [HLEN.out]; exact hl8
      clear hes hes' hcc hfc hf0 hfn h0 hn32 hl8
      go_enter Tryd.func5, Tryd.ntmps5
      have g0 := HG.out.c0; have g1 := HG.out.c1; have glt := HG.out.lt
      go_wp2_with fail
      refine (great_any n A es len c _ (HR.out.new HB.out)).mono ?_
      rintro e wx ⟨rfl, hb⟩
      rw [HQ.out]
      replace HG := Lib.hid (HG.out.new hb); replace HB := Lib.hid (bthen HB.out hb HB.out.size)
      clear hb g0 g1 glt
      have g0 := HG.out.c0; have g1 := HG.out.c1; have glt := HG.out.lt
      go_wp2_with fail
      refine (wrong_any n A es len c f _ (HR.out.new HB.out)).mono ?_
      rintro e wx ⟨rfl, hb⟩
      rw [HFC.out]
      replace HG := Lib.hid (HG.out.new hb); replace HB := Lib.hid (bthen HB.out hb HB.out.size)
      clear hb g0 g1 glt
      have g0 := HG.out.c0; have g1 := HG.out.c1; have glt := HG.out.lt
      go_wp2_with fail
      have HX1 := Lib.hid (HX.out.new HB.out)
      go_loop [7, 24] (fun bv iv => ∃ k : Nat, iv = .int .i64 k ∧ k ≤ m ∧ bv = .bool (rangeTo n xs k)) (fun _ iv => m - (intOf iv).toNat)
      case atStart => exact ⟨0, rfl, Nat.zero_le _, rfl⟩
      case round =>
        obtain ⟨k, rfl, hk, rfl⟩ := hrel
        by_cases hkm : k < m
        · obtain ⟨ad, rfl, hb1, hcell⟩ := HX1.out.at_ hkm
          have hbd := HX1.out.lt hkm
          have HNX := Lib.hid (rangeTo_succ n xs k)
          generalize rangeTo (n : Int) xs k = b0 at *
          generalize inth xs k = x at *
          cases b0 with
          | false =>
            go_wp2_with fail
            exact ⟨⟨k + 1, by go_num, by omega, by rw [HNX.out]; rfl⟩, by simp [intOf]; omega⟩
          | true =>
            by_cases h0 : 0 ≤ x
            · have t1 : decide (x ≥ 0) = true := by simp; omega
              by_cases h1 : x < n
              · have t2 : decide (x < (n : Int)) = true := by simp; omega
                have HN := Lib.hid (show rangeTo n xs (k + 1) = true by rw [HNX.out, decide_eq_true h0, decide_eq_true h1]; rfl)
                go_wp2_with fail
                exact ⟨⟨k + 1, by go_num, by omega, by rw [HN.out]⟩, by simp [intOf]; omega⟩
              · have t2 : decide (x < (n : Int)) = false := by simp; omega
                have HN := Lib.hid (show rangeTo n xs (k + 1) = false by rw [HNX.out, decide_eq_false h1]; simp)
                go_wp2_with fail
                exact ⟨⟨k + 1, by go_num, by omega, by rw [HN.out]⟩, by simp [intOf]; omega⟩
            · have t1 : decide (x ≥ 0) = false := by simp; omega
              have HN := Lib.hid (show rangeTo n xs (k + 1) = false by rw [HNX.out, decide_eq_false h0]; simp)
              go_wp2_with fail
              exact ⟨⟨k + 1, by go_num, by omega, by rw [HN.out]⟩, by simp [intOf]; omega⟩
        · obtain rfl : k = m := by omega
          have HRG := Lib.hid (show rangeTo n xs k = rangeTo n xs xs.length by rw [← HML.out])
          cases hrg : rangeTo (n : Int) xs k with
          | true =>
            have HCK := Lib.hid (chk_is (f := f) hn' HES.out (by rw [← HRG.out]; exact hrg))
            have HRT := Lib.hid (show rangeTo n xs xs.length = true by rw [← HRG.out]; exact hrg)
            clear hrg
            go_wp2_with fail
            refine (is31_any n f A es len c B xs k d _ (HR.out.new HB.out) (HX.out.new HB.out) HRT.out hn').mono ?_
            rintro e wx ⟨rfl, hb⟩
            replace HG := Lib.hid (HG.out.new hb); replace HB := Lib.hid (bthen HB.out hb HB.out.size)
            clear hb g0 g1 glt
            have g0 := HG.out.c0; have g1 := HG.out.c1; have glt := HG.out.lt
            go_wp2_with fail
            refine (chkp_ok n A es len c f B xs k d _ (HR.out.new HB.out) HC.out hfn' (HX.out.new HB.out)).mono ?_
            rintro e wx ⟨rfl, hb⟩
            rw [HCK.out]
            generalize isB es f xs = bb at *
            have tt : (bb == bb) = true := by simp
            replace HG := Lib.hid (HG.out.new hb); replace HB := Lib.hid (bthen HB.out hb HB.out.size)
            clear hb g0 g1 glt
            have g0 := HG.out.c0; have g1 := HG.out.c1; have glt := HG.out.lt
            go_wp2_with fail
            refine (awake31_any _ (HGT.out.new HB.out)).mono ?_
            rintro e wx ⟨rfl, hb⟩
            replace HG := Lib.hid (HG.out.new hb); replace HB := Lib.hid (bthen HB.out hb HB.out.size)
            clear hb g0 g1 glt
            have g0 := HG.out.c0; have g1 := HG.out.c1; have glt := HG.out.lt
            go_wp2_with fail
            go_ret
            exact ⟨rfl, HB.out⟩
          | false =>
            have HCK := Lib.hid (show chkW (adjRow n es) n f xs = false by rw [chkW, okTo_range (by rw [← HRG.out]; exact hrg)]; simp)
            clear hrg
            go_wp2_with fail
            refine (chkp_ok n A es len c f B xs k d _ (HR.out.new HB.out) HC.out hfn' (HX.out.new HB.out)).mono ?_
            rintro e wx ⟨rfl, hb⟩
            rw [HCK.out]
            replace HG := Lib.hid (HG.out.new hb); replace HB := Lib.hid (bthen HB.out hb HB.out.size)
            clear hb g0 g1 glt
            have g0 := HG.out.c0; have g1 := HG.out.c1; have glt := HG.out.lt
            go_wp2_with fail
            refine (awake31_any _ (HGT.out.new HB.out)).mono ?_
            rintro e wx ⟨rfl, hb⟩
            replace HG := Lib.hid (HG.out.new hb); replace HB := Lib.hid (bthen HB.out hb HB.out.size)
            clear hb g0 g1 glt
            have g0 := HG.out.c0; have g1 := HG.out.c1; have glt := HG.out.lt
            go_wp2_with fail
            go_ret
            exact ⟨rfl, HB.out⟩
    · have t0 : (freeCode n es f == 0) = false := by simp [hfc]
      have HFC := Lib.hid hfc; clear hfc hgr
      go_enter Tryd.func5, Tryd.ntmps5
      have g0 := HG.out.c0; have g1 := HG.out.c1; have glt := HG.out.lt
      go_wp2_with fail
      refine (great_any n A es len c _ (HR.out.new HB.out)).mono ?_
      rintro e wx ⟨rfl, hb⟩
      rw [HQ.out]
      replace HG := Lib.hid (HG.out.new hb); replace HB := Lib.hid (bthen HB.out hb HB.out.size)
      clear hb g0 g1 glt
      have g0 := HG.out.c0; have g1 := HG.out.c1; have glt := HG.out.lt
      go_wp2_with fail
      refine (wrong_any n A es len c f _ (HR.out.new HB.out)).mono ?_
      rintro e wx ⟨rfl, hb⟩
      replace HG := Lib.hid (HG.out.new hb); replace HB := Lib.hid (bthen HB.out hb HB.out.size)
      clear hb g0 g1 glt
      have g0 := HG.out.c0; have g1 := HG.out.c1; have glt := HG.out.lt
      go_wp2_with fail
      have HX1 := Lib.hid (HX.out.new HB.out)
      go_loop [7, 24] (fun bv iv => ∃ k : Nat, iv = .int .i64 k ∧ k ≤ m ∧ bv = .bool false) (fun _ iv => m - (intOf iv).toNat)
      case atStart => exact ⟨0, rfl, Nat.zero_le _, rfl⟩
      case round =>
        obtain ⟨k, rfl, hk, rfl⟩ := hrel
        by_cases hkm : k < m
        · obtain ⟨ad, rfl, hb1, hcell⟩ := HX1.out.at_ hkm
          have hbd := HX1.out.lt hkm
          generalize inth xs k = x at *
          go_wp2_with fail
          exact ⟨⟨k + 1, by go_num, by omega, rfl⟩, by simp [intOf]; omega⟩
        · obtain rfl : k = m := by omega
          go_wp2_with fail
          refine (chkp_bad n A es len c f B k d _ (HR.out.new HB.out) HFC.out).mono ?_
          rintro e wx ⟨rfl, hb⟩
          replace HG := Lib.hid (HG.out.new hb); replace HB := Lib.hid (bthen HB.out hb HB.out.size)
          clear hb g0 g1 glt
          have g0 := HG.out.c0; have g1 := HG.out.c1; have glt := HG.out.lt
          go_wp2_with fail
          refine (awake31_any _ (HGT.out.new HB.out)).mono ?_
          rintro e wx ⟨rfl, hb⟩
          replace HG := Lib.hid (HG.out.new hb); replace HB := Lib.hid (bthen HB.out hb HB.out.size)
          clear hb g0 g1 glt
          have g0 := HG.out.c0; have g1 := HG.out.c1; have glt := HG.out.lt
          go_wp2_with fail
          go_ret
          exact ⟨rfl, HB.out⟩
end Go.Proofs.YtjofdlafblpclaaDoor
