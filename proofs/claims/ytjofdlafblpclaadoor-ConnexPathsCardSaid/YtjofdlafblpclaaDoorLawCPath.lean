/-
  The walk of law31.ConnexPaths.
-/
import Derived.Test.YtjofdlafblpclaaDoorAwk31
import Derived.Test.YtjofdlafblpclaaDoorLawCDec
import Derived.Test.YtjofdlafblpclaaDoorRE31
namespace Go.Proofs.YtjofdlafblpclaaDoor
open Go.RowKit
set_option linter.unusedSimpArgs false
set_option linter.unusedVariables false

set_option maxRecDepth 100000 in
set_option maxHeartbeats 8000000 in
theorem connexPaths_walk (n : Int) (A : Option Addr) (es : List Nat) (len c : Nat) (f : Int) (w : World) (hG0 : GTab w) (hr : Es w w.heap.size A len es) (_ : -9223372036854775808 ≤ n ∧ n ≤ 9223372036854775807) (_ : len ≤ c) (_ : -9223372036854775808 ≤ f ∧ f ≤ 9223372036854775807) :
    Calls Tryd.prog 4 #[.agg #[.int .i64 n, .slice A len c], .int .i64 f] w fun e w' => e = .returned (.bool true) ∧ Below w.heap.size w w' := by
  have HLEN := Lib.hid hr.len
  have HR := Lib.hid hr; clear hr
  have HGT := Lib.hid hG0; clear hG0
  have HG := Lib.hid (GB.made w 24 (.int .i64 n) (.slice A len c))
  have HB := Lib.hid (al w (.cells #[.int .i64 n, .slice A len c] 24))
  cases hgr : greatB n es with
  | true =>
    have HQ := Lib.hid hgr; clear hgr
    go_enter Tryd.func4, Tryd.ntmps4
    have g0 := HG.out.c0; have g1 := HG.out.c1; have glt := HG.out.lt
    go_wp2_with fail
    refine (great_any n A es len c _ (HR.out.new HB.out)).mono ?_
    rintro e wx ⟨rfl, hb⟩
    rw [HQ.out]
    replace HG := Lib.hid (HG.out.new hb); replace HB := Lib.hid (bthen HB.out hb HB.out.size)
    clear hb g0 g1 glt
    have g0 := HG.out.c0; have g1 := HG.out.c1; have glt := HG.out.lt
    go_wp2_with fail
    refine (awake31_any _ (HGT.out.new HB.out)).mono ?_
    rintro e wx ⟨rfl, hb⟩
    replace HG := Lib.hid (HG.out.new hb); replace HB := Lib.hid (bthen HB.out hb HB.out.size)
    clear hb g0 g1 glt
    have g0 := HG.out.c0; have g1 := HG.out.c1; have glt := HG.out.lt
    go_wp2_with fail
    go_ret
    exact ⟨rfl, HB.out⟩
  | false =>
    have HQ := Lib.hid hgr
    by_cases hfc : freeCode n es f = 0
    · obtain ⟨hcc, hf0, hfn⟩ := free_zero hfc
      obtain ⟨hn6, hl8⟩ := great_false hgr hcc
      clear hgr
      obtain ⟨h0, hn32, _, hes⟩ := checkCode_zero hcc
      obtain ⟨n, rfl⟩ := Int.eq_ofNat_of_zero_le h0
      obtain ⟨f, rfl⟩ := Int.eq_ofNat_of_zero_le hf0
      have hes' : ∀ e ∈ es, e < 2 ^ n := by simpa using hes
      have hfn' : f ≤ n := by omega
      have hn' : n ≤ 32 := by omega
      have HES := Lib.hid hes'; have HC := Lib.hid hcc; have HFC := Lib.hid hfc
      have HL8 := Lib.hid hl8
      have HCX := Lib.hid (code_ok hn' (by rw [List.length_append, List.length_singleton]; omega) (bound_snoc hfn' hes'))
      have hl9 : len ≤ 8 := by rw [HLEN.out]; exact hl8
      clear hes hes' hcc hfc hf0 hfn h0 hn32 hl8
      have HPR := Lib.hid (path_ref (f := f) hn' HES.out hfn')
      have HPB := Lib.hid (path_best (f := f) hn' HES.out hfn')
      have HRR := Lib.hid (fun W hr => rpath_any n f A es len c hn' HES.out W hr)
      cases hp : pathF n es f with
      | none =>
        rw [hp] at HPR
        have HP := Lib.hid hp; clear hp HPB
        go_enter Tryd.func4, Tryd.ntmps4
        have g0 := HG.out.c0; have g1 := HG.out.c1; have glt := HG.out.lt
        go_wp2_with fail
        refine (great_any n A es len c _ (HR.out.new HB.out)).mono ?_
        rintro e wx ⟨rfl, hb⟩
        rw [HQ.out]
        replace HG := Lib.hid (HG.out.new hb); replace HB := Lib.hid (bthen HB.out hb HB.out.size)
        clear hb g0 g1 glt
        have g0 := HG.out.c0; have g1 := HG.out.c1; have glt := HG.out.lt
        go_wp2_with fail
        refine (path_ok n A es len c f _ (HR.out.new HB.out) HC.out hfn' (HGT.out.new HB.out)).mono ?_
        rintro e wx ⟨v9, rfl, _, hn9, hb⟩
        obtain rfl := hn9 HP.out
        rw [HP.out]
        clear hn9
        replace HG := Lib.hid (HG.out.new hb); replace HB := Lib.hid (bthen HB.out hb HB.out.size)
        clear hb g0 g1 glt
        have g0 := HG.out.c0; have g1 := HG.out.c1; have glt := HG.out.lt
        go_wp2_with fail
        refine (wrong_any n A es len c f _ (HR.out.new HB.out)).mono ?_
        rintro e wx ⟨rfl, hb⟩
        rw [HFC.out]
        replace HG := Lib.hid (HG.out.new hb); replace HB := Lib.hid (bthen HB.out hb HB.out.size)
        clear hb g0 g1 glt
        have g0 := HG.out.c0; have g1 := HG.out.c1; have glt := HG.out.lt
        go_wp2_with fail
        have HQR := Lib.hid (HRR.out _ (HR.out.new HB.out)); rw [HPR.out] at HQR
        refine (HQR.out).mono ?_
        rintro e wx ⟨rfl, hb⟩
        clear HQR
        replace HG := Lib.hid (HG.out.new hb); replace HB := Lib.hid (bthen HB.out hb HB.out.size)
        clear hb g0 g1 glt
        have g0 := HG.out.c0; have g1 := HG.out.c1; have glt := HG.out.lt
        go_wp2_with fail
        refine (equal_int none none [] [] 0 0 0 0 _ ⟨Reads.none_, ⟨rfl, by simp⟩, by intro x hx; simp at hx⟩ ⟨Reads.none_, ⟨rfl, by simp⟩, by intro x hx; simp at hx⟩).mono ?_
        rintro e wx ⟨rfl, hb⟩
        rw [show (([] : List Int) == []) = true from by decide]
        replace HG := Lib.hid (HG.out.new hb); replace HB := Lib.hid (bthen HB.out hb HB.out.size)
        clear hb g0 g1 glt
        have g0 := HG.out.c0; have g1 := HG.out.c1; have glt := HG.out.lt
        go_wp2_with fail
        refine (awake31_any _ (HGT.out.new HB.out)).mono ?_
        rintro e wx ⟨rfl, hb⟩
        replace HG := Lib.hid (HG.out.new hb); replace HB := Lib.hid (bthen HB.out hb HB.out.size)
        clear hb g0 g1 glt
        have g0 := HG.out.c0; have g1 := HG.out.c1; have glt := HG.out.lt
        go_wp2_with fail
        go_ret
        exact ⟨rfl, HB.out⟩
      | some l =>
        rw [hp] at HPR HPB
        have HP := Lib.hid hp; clear hp
        have hF := HPB.out.1
        have HLT := Lib.hid hF.lt
        have hl3 := hF.len
        have HCK := Lib.hid (show chkW (adjRow n es) n f (ints l) = true by rw [chk_is hn' HES.out (range_ints hF.lt)]; exact (isB_iff hn' HES.out hF.lt).2 hF)
        have HMM := Lib.hid (show ∀ x ∈ l, x < n from fun x hx => by obtain ⟨j, hj, rfl⟩ := mem_nth31 hx; exact HLT.out j hj)
        have t9 : decide ((l.length : Int) > 0) = true := decide_eq_true (by omega)
        have t8 : decide (0 < l.length) = true := decide_eq_true (by omega)
        have t7 : 0 < l.length := by omega
        clear HPB hF
        go_enter Tryd.func4, Tryd.ntmps4
        have g0 := HG.out.c0; have g1 := HG.out.c1; have glt := HG.out.lt
        go_wp2_with fail
        refine (great_any n A es len c _ (HR.out.new HB.out)).mono ?_
        rintro e wx ⟨rfl, hb⟩
        rw [HQ.out]
        replace HG := Lib.hid (HG.out.new hb); replace HB := Lib.hid (bthen HB.out hb HB.out.size)
        clear hb g0 g1 glt
        have g0 := HG.out.c0; have g1 := HG.out.c1; have glt := HG.out.lt
        go_wp2_with fail
        refine (path_ok n A es len c f _ (HR.out.new HB.out) HC.out hfn' (HGT.out.new HB.out)).mono ?_
        rintro e wx ⟨v9, rfl, hown9, _, hb⟩
        rw [HP.out] at hown9 ⊢
        obtain ⟨A9, c9, rfl⟩ := own_form hown9
        have HX9 := Lib.hid (show Xs wx wx.heap.size A9 l.length (ints l) from Xs.of_own9 hn' HMM.out hown9)
        clear hown9
        simp only [Option.getD_some, Option.isSome_some]
        replace HG := Lib.hid (HG.out.new hb); replace HB := Lib.hid (bthen HB.out hb HB.out.size)
        clear hb g0 g1 glt
        have g0 := HG.out.c0; have g1 := HG.out.c1; have glt := HG.out.lt
        go_wp2_with fail
        refine (wrong_any n A es len c f _ (HR.out.new HB.out)).mono ?_
        rintro e wx ⟨rfl, hb⟩
        rw [HFC.out]
        replace HX9 := Lib.hid (HX9.out.new hb)
        replace HG := Lib.hid (HG.out.new hb); replace HB := Lib.hid (bthen HB.out hb HB.out.size)
        clear hb g0 g1 glt
        have g0 := HG.out.c0; have g1 := HG.out.c1; have glt := HG.out.lt
        go_wp2_with fail
        have HQR := Lib.hid (HRR.out _ (HR.out.new HB.out)); rw [HPR.out] at HQR
        refine (HQR.out).mono ?_
        rintro e wx ⟨⟨A8, c8, rfl, hx8, _⟩, hb⟩
        clear HQR
        replace HX9 := Lib.hid (HX9.out.new hb)
        have HX8 := Lib.hid hx8; clear hx8
        replace HG := Lib.hid (HG.out.new hb); replace HB := Lib.hid (bthen HB.out hb HB.out.size)
        clear hb g0 g1 glt
        have g0 := HG.out.c0; have g1 := HG.out.c1; have glt := HG.out.lt
        go_wp2_with fail
        refine (equal_int A9 A8 (ints l) (ints l) l.length l.length c9 c8 _ HX9.out HX8.out).mono ?_
        rintro e wx ⟨rfl, hb⟩
        rw [show ((ints l) == (ints l)) = true from by simp]
        replace HX9 := Lib.hid (HX9.out.new hb)
        replace HG := Lib.hid (HG.out.new hb); replace HB := Lib.hid (bthen HB.out hb HB.out.size)
        clear hb g0 g1 glt
        have g0 := HG.out.c0; have g1 := HG.out.c1; have glt := HG.out.lt
        go_wp2_with fail
        refine (chkp_ok n A es len c f A9 (ints l) l.length c9 _ (HR.out.new HB.out) HC.out hfn' HX9.out).mono ?_
        rintro e wx ⟨rfl, hb⟩
        rw [HCK.out]
        replace HG := Lib.hid (HG.out.new hb); replace HB := Lib.hid (bthen HB.out hb HB.out.size)
        clear hb g0 g1 glt
        have g0 := HG.out.c0; have g1 := HG.out.c1; have glt := HG.out.lt
        go_wp2_with fail
        refine (awake31_any _ (HGT.out.new HB.out)).mono ?_
        rintro e wx ⟨rfl, hb⟩
        replace HG := Lib.hid (HG.out.new hb); replace HB := Lib.hid (bthen HB.out hb HB.out.size)
        clear hb g0 g1 glt
        have g0 := HG.out.c0; have g1 := HG.out.c1; have glt := HG.out.lt
        go_wp2_with fail
        go_ret
        exact ⟨rfl, HB.out⟩
    · have t0 : (freeCode n es f != 0) = true := by simp [hfc]
      have HFC := Lib.hid hfc; clear hfc hgr
      go_enter Tryd.func4, Tryd.ntmps4
      have g0 := HG.out.c0; have g1 := HG.out.c1; have glt := HG.out.lt
      go_wp2_with fail
      refine (great_any n A es len c _ (HR.out.new HB.out)).mono ?_
      rintro e wx ⟨rfl, hb⟩
      rw [HQ.out]
      replace HG := Lib.hid (HG.out.new hb); replace HB := Lib.hid (bthen HB.out hb HB.out.size)
      clear hb g0 g1 glt
      have g0 := HG.out.c0; have g1 := HG.out.c1; have glt := HG.out.lt
      go_wp2_with fail
      refine (path_bad n A es len c f _ (HR.out.new HB.out) HFC.out).mono ?_
      rintro e wx ⟨v9, rfl, _, hn9, hb⟩
      obtain rfl := hn9 rfl
      clear hn9
      simp only [Option.isSome_none]
      replace HG := Lib.hid (HG.out.new hb); replace HB := Lib.hid (bthen HB.out hb HB.out.size)
      clear hb g0 g1 glt
      have g0 := HG.out.c0; have g1 := HG.out.c1; have glt := HG.out.lt
      go_wp2_with fail
      refine (wrong_any n A es len c f _ (HR.out.new HB.out)).mono ?_
      rintro e wx ⟨rfl, hb⟩
      replace HG := Lib.hid (HG.out.new hb); replace HB := Lib.hid (bthen HB.out hb HB.out.size)
      clear hb g0 g1 glt
      have g0 := HG.out.c0; have g1 := HG.out.c1; have glt := HG.out.lt
      go_wp2_with fail
      refine (awake31_any _ (HGT.out.new HB.out)).mono ?_
      rintro e wx ⟨rfl, hb⟩
      replace HG := Lib.hid (HG.out.new hb); replace HB := Lib.hid (bthen HB.out hb HB.out.size)
      clear hb g0 g1 glt
      have g0 := HG.out.c0; have g1 := HG.out.c1; have glt := HG.out.lt
      go_wp2_with fail
      go_ret
      exact ⟨rfl, HB.out⟩
end Go.Proofs.YtjofdlafblpclaaDoor
