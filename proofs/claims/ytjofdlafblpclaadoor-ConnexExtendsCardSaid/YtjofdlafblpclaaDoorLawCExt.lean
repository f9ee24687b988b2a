/-
  The walk of law31.ConnexExtends.
-/
import Derived.Test.YtjofdlafblpclaaDoorAwk31
import Derived.Test.YtjofdlafblpclaaDoorLawCDec
import Derived.Test.YtjofdlafblpclaaDoorCxG
namespace Go.Proofs.YtjofdlafblpclaaDoor
open Go.RowKit
set_option linter.unusedSimpArgs false
set_option linter.unusedVariables false

set_option maxRecDepth 100000 in
set_option maxHeartbeats 8000000 in
theorem connexExtends_walk (n : Int) (A : Option Addr) (es : List Nat) (len c : Nat) (f : Int) (w : World) (hG0 : GTab w) (hr : Es w w.heap.size A len es) (_ : -9223372036854775808 ≤ n ∧ n ≤ 9223372036854775807) (_ : len ≤ c) (_ : -9223372036854775808 ≤ f ∧ f ≤ 9223372036854775807) :
    Calls Tryd.prog 6 #[.agg #[.int .i64 n, .slice A len c], .int .i64 f] w fun e w' => e = .returned (.bool true) ∧ Below w.heap.size w w' := by
  have HLEN := Lib.hid hr.len
  have HR := Lib.hid hr; clear hr
  have HGT := Lib.hid hG0; clear hG0
  have HG := Lib.hid (GB.made w 24 (.int .i64 n) (.slice A len c))
  have HB := Lib.hid (al w (.cells #[.int .i64 n, .slice A len c] 24))
  cases hgr : greatB n es with
  | true =>
    have HQ := Lib.hid hgr; clear hgr
    go_enter Tryd.func6, Tryd.ntmps6
    have g0 := HG.out.c0; have g1 := HG.out.c1; have glt := HG.out.lt
    go_wp2_with fail
    refine (great_any n A es len c _ (HR.out.new HB.out)).mono ?_
    rintro e wx ⟨rfl, hb⟩
    rw [HQ.out]
    replace HG := Lib.hid (HG.out.new hb); replace HB := Lib.hid (bthen HB.out hb HB.out.size)
    clear hb g0 g1 glt
    have g0 := HG.out.c0; have g1 := HG.out.c1; have glt := HG.out.lt
    go_wp2_with fail
    refine (awake31_any _ (HGT.out.new HB.out)).mono ?_
    rintro e wx ⟨rfl, hb⟩
    replace HG := Lib.hid (HG.out.new hb); replace HB := Lib.hid (bthen HB.out hb HB.out.size)
    clear hb g0 g1 glt
    have g0 := HG.out.c0; have g1 := HG.out.c1; have glt := HG.out.lt
    go_wp2_with fail
    go_ret
    exact ⟨rfl, HB.out⟩
  | false =>
    have HQ := Lib.hid hgr
    by_cases hfc : freeCode n es f = 0
    · obtain ⟨hcc, hf0, hfn⟩ := free_zero hfc
      obtain ⟨hn6, hl8⟩ := great_false hgr hcc
      clear hgr
      obtain ⟨h0, hn32, _, hes⟩ := checkCode_zero hcc
      obtain ⟨n, rfl⟩ := Int.eq_ofNat_of_zero_le h0
      obtain ⟨f, rfl⟩ := Int.eq_ofNat_of_zero_le hf0
      have hes' : ∀ e ∈ es, e < 2 ^ n := by simpa using hes
      have hfn' : f ≤ n := by omega
      have hn' : n ≤ 32 := by omega
      have HES := Lib.hid hes'; have HC := Lib.hid hcc; have HFC := Lib.hid hfc
      have HL8 := Lib.hid hl8
      have HCX := Lib.hid (code_ok hn' (by rw [List.length_append, List.length_singleton]; omega) (bound_snoc hfn' hes'))
      have hl9 : len ≤ 8 := by rw [HLEN.out]; exact hl8
      clear hes hes' hcc hfc hf0 hfn h0 hn32 hl8
      have HFU := Lib.hid (free_full hn' HES.out hfn')
      have HPA := Lib.hid (path_full hn' HES.out hfn')
      have HAG := Lib.hid (free_again hn' HES.out hfn')
      have HCN := Lib.hid (code_ok hn' (by rw [List.length_append, List.length_singleton]; have := HL8.out; omega) (bound_snoc (Nat.le_refl n) HES.out))
      go_enter Tryd.func6, Tryd.ntmps6
      have g0 := HG.out.c0; have g1 := HG.out.c1; have glt := HG.out.lt
      go_wp2_with fail
      refine (great_any n A es len c _ (HR.out.new HB.out)).mono ?_
      rintro e wx ⟨rfl, hb⟩
      rw [HQ.out]
      replace HG := Lib.hid (HG.out.new hb); replace HB := Lib.hid (bthen HB.out hb HB.out.size)
      clear hb g0 g1 glt
      have g0 := HG.out.c0; have g1 := HG.out.c1; have glt := HG.out.lt
      go_wp2_with fail
      refine (wrong_any n A es len c f _ (HR.out.new HB.out)).mono ?_
      rintro e wx ⟨rfl, hb⟩
      rw [HFC.out]
      replace HG := Lib.hid (HG.out.new hb); replace HB := Lib.hid (bthen HB.out hb HB.out.size)
      clear hb g0 g1 glt
      have g0 := HG.out.c0; have g1 := HG.out.c1; have glt := HG.out.lt
      go_wp2_with fail
      refine (connex_ok n f A es len c _ (HR.out.new HB.out) HC.out hfn' (by omega)).mono ?_
      rintro e wx ⟨bq, hb0, rfl, hb⟩
      have HBQ := Lib.hid hb0; clear hb0
      replace HG := Lib.hid (HG.out.new hb); replace HB := Lib.hid (bthen HB.out hb HB.out.size)
      clear hb g0 g1 glt
      have g0 := HG.out.c0; have g1 := HG.out.c1; have glt := HG.out.lt
      go_wp2_with fail
      refine (lext_any n f A es len c _ (HR.out.new HB.out) (by omega) (by omega)).mono ?_
      rintro e wx ⟨v3, rfl, hown, hb⟩
      obtain ⟨A3, c3, rfl, he3⟩ := Es.of_rowU hown (fun y hy => Nat.lt_of_lt_of_le (bound_snoc (by omega) HES.out y hy) (two_pow_le hn'))
      rw [show (es ++ [2 ^ f - 1] : List Nat).length = es.length + 1 by simp] at he3
      have HE3 := Lib.hid he3; clear he3 hown
      replace HG := Lib.hid (HG.out.new hb); replace HB := Lib.hid (bthen HB.out hb HB.out.size)
      clear hb g0 g1 glt
      have g0 := HG.out.c0; have g1 := HG.out.c1; have glt := HG.out.lt
      go_wp2_with fail
      refine (connex_ok n f A3 (es ++ [2 ^ f - 1]) _ c3 _ HE3.out HCX.out hfn' (by have := HL8.out; omega)).mono ?_
      rintro e wx ⟨bp, hb0, rfl, hb⟩
      have HBP := Lib.hid hb0; clear hb0 HE3
      replace HG := Lib.hid (HG.out.new hb); replace HB := Lib.hid (bthen HB.out hb HB.out.size)
      clear hb g0 g1 glt
      have g0 := HG.out.c0; have g1 := HG.out.c1; have glt := HG.out.lt
      go_wp2_with fail
      refine (lext_any n n A es len c _ (HR.out.new HB.out) (by omega) (by omega)).mono ?_
      rintro e wx ⟨v3, rfl, hown, hb⟩
      obtain ⟨A4, c4, rfl, he3⟩ := Es.of_rowU hown (fun y hy => Nat.lt_of_lt_of_le (bound_snoc (by omega) HES.out y hy) (two_pow_le hn'))
      rw [show (es ++ [2 ^ n - 1] : List Nat).length = es.length + 1 by simp] at he3
      have HE4 := Lib.hid he3; clear he3 hown
      replace HG := Lib.hid (HG.out.new hb); replace HB := Lib.hid (bthen HB.out hb HB.out.size)
      clear hb g0 g1 glt
      have g0 := HG.out.c0; have g1 := HG.out.c1; have glt := HG.out.lt
      go_wp2_with fail
      refine (connex_ok n f A4 (es ++ [2 ^ n - 1]) _ c4 _ HE4.out HCN.out hfn' (by have := HL8.out; omega)).mono ?_
      rintro e wx ⟨b, hb0, rfl, hb⟩
      obtain rfl : b = true := iff_true hb0 HFU.out
      clear hb0 HE4
      replace HG := Lib.hid (HG.out.new hb); replace HB := Lib.hid (bthen HB.out hb HB.out.size)
      clear hb g0 g1 glt
      have g0 := HG.out.c0; have g1 := HG.out.c1; have glt := HG.out.lt
      go_wp2_with fail
      refine (lext_any n n A es len c _ (HR.out.new HB.out) (by omega) (by omega)).mono ?_
      rintro e wx ⟨v3, rfl, hown, hb⟩
      obtain ⟨A5, c5, rfl, he3⟩ := Es.of_rowU hown (fun y hy => Nat.lt_of_lt_of_le (bound_snoc (by omega) HES.out y hy) (two_pow_le hn'))
      rw [show (es ++ [2 ^ n - 1] : List Nat).length = es.length + 1 by simp] at he3
      have HE5 := Lib.hid he3; clear he3 hown
      replace HG := Lib.hid (HG.out.new hb); replace HB := Lib.hid (bthen HB.out hb HB.out.size)
      clear hb g0 g1 glt
      have g0 := HG.out.c0; have g1 := HG.out.c1; have glt := HG.out.lt
      go_wp2_with fail
      refine (path_ok n A5 (es ++ [2 ^ n - 1]) _ c5 f _ HE5.out HCN.out hfn' (HGT.out.new HB.out)).mono ?_
      rintro e wx ⟨v9, rfl, _, hn9, hb⟩
      obtain rfl := hn9 HPA.out
      rw [HPA.out]
      clear HE5 hn9
      replace HG := Lib.hid (HG.out.new hb); replace HB := Lib.hid (bthen HB.out hb HB.out.size)
      clear hb g0 g1 glt
      have g0 := HG.out.c0; have g1 := HG.out.c1; have glt := HG.out.lt
      have key : bq = false ∨ bp = true := by
        cases hq : bq with
        | false => exact .inl rfl
        | true => exact .inr (HBP.out.2 (HAG.out (HBQ.out.1 hq)))
      clear HBP HBQ
      cases bq <;> cases bp <;> simp at key
      all_goals
        go_wp2_with fail
        refine (awake31_any _ (HGT.out.new HB.out)).mono ?_
        rintro e wx ⟨rfl, hb⟩
        replace HG := Lib.hid (HG.out.new hb); replace HB := Lib.hid (bthen HB.out hb HB.out.size)
        clear hb g0 g1 glt
        have g0 := HG.out.c0; have g1 := HG.out.c1; have glt := HG.out.lt
        go_wp2_with fail
        go_ret
        exact ⟨rfl, HB.out⟩
    · have t0 : (freeCode n es f != 0) = true := by simp [hfc]
      have HFC := Lib.hid hfc; clear hfc hgr
      go_enter Tryd.func6, Tryd.ntmps6
      have g0 := HG.out.c0; have g1 := HG.out.c1; have glt := HG.out.lt
      go_wp2_with fail
      refine (great_any n A es len c _ (HR.out.new HB.out)).mono ?_
      rintro e wx ⟨rfl, hb⟩
      rw [HQ.out]
      replace HG := Lib.hid (HG.out.new hb); replace HB := Lib.hid (bthen HB.out hb HB.out.size)
      clear hb g0 g1 glt
      have g0 := HG.out.c0; have g1 := HG.out.c1; have glt := HG.out.lt
      go_wp2_with fail
      refine (wrong_any n A es len c f _ (HR.out.new HB.out)).mono ?_
      rintro e wx ⟨rfl, hb⟩
      replace HG := Lib.hid (HG.out.new hb); replace HB := Lib.hid (bthen HB.out hb HB.out.size)
      clear hb g0 g1 glt
      have g0 := HG.out.c0; have g1 := HG.out.c1; have glt := HG.out.lt
      go_wp2_with fail
      refine (awake31_any _ (HGT.out.new HB.out)).mono ?_
      rintro e wx ⟨rfl, hb⟩
      replace HG := Lib.hid (HG.out.new hb); replace HB := Lib.hid (bthen HB.out hb HB.out.size)
      clear hb g0 g1 glt
      have g0 := HG.out.c0; have g1 := HG.out.c1; have glt := HG.out.lt
      go_wp2_with fail
      go_ret
      exact ⟨rfl, HB.out⟩
end Go.Proofs.YtjofdlafblpclaaDoor
