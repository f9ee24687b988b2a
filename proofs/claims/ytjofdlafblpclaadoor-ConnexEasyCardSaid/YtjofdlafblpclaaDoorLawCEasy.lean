/-
  The walk of law31.ConnexEasy.
-/
import Derived.Test.YtjofdlafblpclaaDoorAwk31
import Derived.Test.YtjofdlafblpclaaDoorLawCDec
import Derived.Test.YtjofdlafblpclaaDoorCxG
namespace Go.Proofs.YtjofdlafblpclaaDoor
open Go.RowKit
set_option linter.unusedSimpArgs false
set_option linter.unusedVariables false

theorem wrap_u32 (x : Int) (h0 : 0 ≤ x) (h1 : x < 4294967296) : IntKind.u32.wrap x = x := by
  simp only [IntKind.wrap, IntKind.signed, IntKind.bits]
  simp
  omega
theorem step_inside {ops : Array Oper} {o : Oper} {a : Act} {w : World} {K : Act → World → Prop} {Q : Exit → Act → World → Prop} {E : Prop} (hgd : o.guard = none) (x y : Operand) (ts : Array TypeId) (ho : o.op = .call { callee := .value (.func 21), args := #[x, y], argTypes := ts })
    (n set : Nat) (A : Option Addr) (es : List Nat) (len c : Nat) (hr : Es w w.heap.size A len es) (hcc : checkCode n es = 0) (hs : set < 2 ^ 32) (hx : a.eval x = .agg #[.int .i64 n, .slice A len c]) (hy : a.eval y = .int .u32 (set : Int))
    (h : ∀ w', Below w.heap.size w w' → K (a.put o.dst (.tuple #[.int .i64 (max (firstAt (holdsB set) es) 0), .bool (es.any (holdsB set))])) w') : if Region.wanted o (yielded ops a.tmps) = true then Oper.wp Tryd.prog o a w K Q else E := by
  have hw : Region.wanted o (yielded ops a.tmps) = true := by simp [Region.wanted, hgd]
  rw [if_pos hw]
  refine wp_of_gives (K := fun v W => v = .tuple #[.int .i64 (max (firstAt (holdsB set) es) 0), .bool (es.any (holdsB set))] ∧ Below w.heap.size w W) (gives_call2 21 x y ts ho (by kernel_rfl) ?_) (by rintro v w' ⟨rfl, hw'⟩; exact h w' hw')
  rw [hx, hy]
  exact (inside_ok n set A es len c w hr hcc hs).mono (by rintro e w' ⟨rfl, hw'⟩; exact ⟨_, rfl, rfl, hw'⟩)
set_option maxRecDepth 100000 in
set_option maxHeartbeats 8000000 in
theorem connexEasy_walk (n : Int) (A : Option Addr) (es : List Nat) (len c : Nat) (f : Int) (w : World) (hG0 : GTab w) (hr : Es w w.heap.size A len es) (_ : -9223372036854775808 ≤ n ∧ n ≤ 9223372036854775807) (_ : len ≤ c) (_ : -9223372036854775808 ≤ f ∧ f ≤ 9223372036854775807) :
    Calls Tryd.prog 7 #[.agg #[.int .i64 n, .slice A len c], .int .i64 f] w fun e w' => e = .returned (.bool true) ∧ Below w.heap.size w w' := by
  have HLEN := Lib.hid hr.len
  have HR := Lib.hid hr; clear hr
  have HGT := Lib.hid hG0; clear hG0
  have HG := Lib.hid (GB.made w 24 (.int .i64 n) (.slice A len c))
  have HB := Lib.hid (al w (.cells #[.int .i64 n, .slice A len c] 24))
  cases hgr : greatB n es with
  | true =>
    have HQ := Lib.hid hgr; clear hgr
    go_enter Tryd.func7, Tryd.ntmps7
    have g0 := HG.out.c0; have g1 := HG.out.c1; have glt := HG.out.lt
    go_wp2_with fail
    refine (great_any n A es len c _ (HR.out.new HB.out)).mono ?_
    rintro e wx ⟨rfl, hb⟩
    rw [HQ.out]
    replace HG := Lib.hid (HG.out.new hb); replace HB := Lib.hid (bthen HB.out hb HB.out.size)
    clear hb g0 g1 glt
    have g0 := HG.out.c0; have g1 := HG.out.c1; have glt := HG.out.lt
    go_wp2_with fail
    refine (awake31_any _ (HGT.out.new HB.out)).mono ?_
    rintro e wx ⟨rfl, hb⟩
    replace HG := Lib.hid (HG.out.new hb); replace HB := Lib.hid (bthen HB.out hb HB.out.size)
    clear hb g0 g1 glt
    have g0 := HG.out.c0; have g1 := HG.out.c1; have glt := HG.out.lt
    go_wp2_with fail
    go_ret
    exact ⟨rfl, HB.out⟩
  | false =>
    have HQ := Lib.hid hgr
    by_cases hfc : freeCode n es f = 0
    · obtain ⟨hcc, hf0, hfn⟩ := free_zero hfc
      obtain ⟨hn6, hl8⟩ := great_false hgr hcc
      clear hgr
      obtain ⟨h0, hn32, _, hes⟩ := checkCode_zero hcc
      obtain ⟨n, rfl⟩ := Int.eq_ofNat_of_zero_le h0
      obtain ⟨f, rfl⟩ := Int.eq_ofNat_of_zero_le hf0
      have hes' : ∀ e ∈ es, e < 2 ^ n := by simpa using hes
      have hfn' : f ≤ n := by omega
      have hn' : n ≤ 32 := by omega
      have HES := Lib.hid hes'; have HC := Lib.hid hcc; have HFC := Lib.hid hfc
      have HL8 := Lib.hid hl8
      have HCX := Lib.hid (code_ok hn' (by rw [List.length_append, List.length_singleton]; omega) (bound_snoc hfn' hes'))
      have hl9 : len ≤ 8 := by rw [HLEN.out]; exact hl8
      clear hes hes' hcc hfc hf0 hfn h0 hn32 hl8
      by_cases hA : Acyc n es
      · have HI := Lib.hid (acyc_inside hn' HES.out hfn' hA)
        have HC0 := Lib.hid (show FreeCon n es 0 from ⟨hA, acyc_zero hn' HES.out hA⟩)
        have HCN := Lib.hid (show FreeCon n es n from ⟨hA, acyc_full hn' HES.out⟩)
        have HFR := Lib.hid (fun h => (show FreeCon n es f from ⟨hA, HI.out h⟩))
        have hfl := below_lt9 (f := f) (by omega)
        have e9 : IntKind.u32.wrap (IntKind.u32.wrap ((2 : Int) ^ f) - 1) = ((2 ^ f - 1 : Nat) : Int) := by
          have h1 := pow2_pos f
          have h3 : 2 ^ f ≤ 2 ^ 31 := two_pow_le (by omega)
          have h2 : ((2 : Int) ^ f) = ((2 ^ f : Nat) : Int) := by simp
          have h4 := wrap_u32 ((2 ^ f : Nat) : Int) (by omega) (by omega)
          rw [h2, h4, wrap_u32 _ (by omega) (by omega)]
          omega
        go_enter Tryd.func7, Tryd.ntmps7
        have g0 := HG.out.c0; have g1 := HG.out.c1; have glt := HG.out.lt
        go_wp2_with fail
        refine (great_any n A es len c _ (HR.out.new HB.out)).mono ?_
        rintro e wx ⟨rfl, hb⟩
        rw [HQ.out]
        replace HG := Lib.hid (HG.out.new hb); replace HB := Lib.hid (bthen HB.out hb HB.out.size)
        clear hb g0 g1 glt
        have g0 := HG.out.c0; have g1 := HG.out.c1; have glt := HG.out.lt
        go_wp2_with fail
        refine (wrong_any n A es len c f _ (HR.out.new HB.out)).mono ?_
        rintro e wx ⟨rfl, hb⟩
        rw [HFC.out]
        replace HG := Lib.hid (HG.out.new hb); replace HB := Lib.hid (bthen HB.out hb HB.out.size)
        clear hb g0 g1 glt
        have g0 := HG.out.c0; have g1 := HG.out.c1; have glt := HG.out.lt
        go_wp2_with fail
        refine (acyclic_ok n A es len c _ (HR.out.new HB.out) HC.out).mono ?_
        rintro e wx ⟨b, hb0, rfl, hb⟩
        obtain rfl : b = true := iff_true hb0 hA
        clear hb0
        replace HG := Lib.hid (HG.out.new hb); replace HB := Lib.hid (bthen HB.out hb HB.out.size)
        clear hb g0 g1 glt
        have g0 := HG.out.c0; have g1 := HG.out.c1; have glt := HG.out.lt
        go_wp2_with fail
        refine (connex_ok n 0 A es len c _ (HR.out.new HB.out) HC.out (Nat.zero_le _) (by omega)).mono ?_
        rintro e wx ⟨b, hb0, rfl, hb⟩
        obtain rfl : b = true := iff_true hb0 HC0.out
        clear hb0
        replace HG := Lib.hid (HG.out.new hb); replace HB := Lib.hid (bthen HB.out hb HB.out.size)
        clear hb g0 g1 glt
        have g0 := HG.out.c0; have g1 := HG.out.c1; have glt := HG.out.lt
        go_wp2_with fail
        refine (connex_ok n n A es len c _ (HR.out.new HB.out) HC.out (Nat.le_refl _) (by omega)).mono ?_
        rintro e wx ⟨b, hb0, rfl, hb⟩
        obtain rfl : b = true := iff_true hb0 HCN.out
        clear hb0
        replace HG := Lib.hid (HG.out.new hb); replace HB := Lib.hid (bthen HB.out hb HB.out.size)
        clear hb g0 g1 glt
        have g0 := HG.out.c0; have g1 := HG.out.c1; have glt := HG.out.lt
        go_wp2_with fail
        refine (connex_ok n f A es len c _ (HR.out.new HB.out) HC.out hfn' (by omega)).mono ?_
        rintro e wx ⟨bq, hb0, rfl, hb⟩
        have HBQ := Lib.hid hb0; clear hb0
        replace HG := Lib.hid (HG.out.new hb); replace HB := Lib.hid (bthen HB.out hb HB.out.size)
        clear hb g0 g1 glt
        have g0 := HG.out.c0; have g1 := HG.out.c1; have glt := HG.out.lt
        go_wp2_with fail
        have HLS := Lib.hid (HR.out.new HB.out)
        have HIN := Lib.hid (HBQ.out.2)
        obtain ⟨an, han⟩ : ∃ an, an = es.any (holdsB (2 ^ f - 1)) := ⟨_, rfl⟩
        have HAN := Lib.hid han; clear han
        have HBI := Lib.hid (show an = true → bq = true from fun h => HIN.out (HFR.out (by rw [← HAN.out]; exact h)))
        go_region_law (first | (refine step_inside rfl _ _ _ rfl n (2 ^ f - 1) A es len c (HLS.out.new (below_drewN (Below.refl _ _) 1)) HC.out hfl rfl (by first | rfl | exact congrArg (Value.int IntKind.u32) e9) ?_; intro w9 hb9; have hb : Below wx.heap.size wx w9 := Below.trans (below_drewN (Below.refl _ _) 1) hb9; rw [← HAN.out]))
        replace HG := Lib.hid (HG.out.new hb); replace HB := Lib.hid (bthen HB.out hb HB.out.size)
        clear hb hb9 g0 g1 glt
        clear HIN HAN HLS HBQ HFR HI
        have key : an = false ∨ bq = true := by
          cases han : an with
          | false => exact .inl rfl
          | true => exact .inr (HBI.out han)
        clear HBI
        cases an <;> cases bq <;> simp at key
        all_goals
          have g0 := HG.out.c0; have g1 := HG.out.c1; have glt := HG.out.lt
          go_wp2_with fail
          refine (awake31_any _ (HGT.out.new HB.out)).mono ?_
          rintro e wx ⟨rfl, hb⟩
          replace HG := Lib.hid (HG.out.new hb); replace HB := Lib.hid (bthen HB.out hb HB.out.size)
          clear hb g0 g1 glt
          have g0 := HG.out.c0; have g1 := HG.out.c1; have glt := HG.out.lt
          go_wp2_with fail
          go_ret
          exact ⟨rfl, HB.out⟩
      · skip
        go_enter Tryd.func7, Tryd.ntmps7
        have g0 := HG.out.c0; have g1 := HG.out.c1; have glt := HG.out.lt
        go_wp2_with fail
        refine (great_any n A es len c _ (HR.out.new HB.out)).mono ?_
        rintro e wx ⟨rfl, hb⟩
        rw [HQ.out]
        replace HG := Lib.hid (HG.out.new hb); replace HB := Lib.hid (bthen HB.out hb HB.out.size)
        clear hb g0 g1 glt
        have g0 := HG.out.c0; have g1 := HG.out.c1; have glt := HG.out.lt
        go_wp2_with fail
        refine (wrong_any n A es len c f _ (HR.out.new HB.out)).mono ?_
        rintro e wx ⟨rfl, hb⟩
        rw [HFC.out]
        replace HG := Lib.hid (HG.out.new hb); replace HB := Lib.hid (bthen HB.out hb HB.out.size)
        clear hb g0 g1 glt
        have g0 := HG.out.c0; have g1 := HG.out.c1; have glt := HG.out.lt
        go_wp2_with fail
        refine (acyclic_ok n A es len c _ (HR.out.new HB.out) HC.out).mono ?_
        rintro e wx ⟨b, hb0, rfl, hb⟩
        obtain rfl : b = false := iff_false hb0 hA
        clear hb0
        replace HG := Lib.hid (HG.out.new hb); replace HB := Lib.hid (bthen HB.out hb HB.out.size)
        clear hb g0 g1 glt
        have g0 := HG.out.c0; have g1 := HG.out.c1; have glt := HG.out.lt
        go_wp2_with fail
        refine (awake31_any _ (HGT.out.new HB.out)).mono ?_
        rintro e wx ⟨rfl, hb⟩
        replace HG := Lib.hid (HG.out.new hb); replace HB := Lib.hid (bthen HB.out hb HB.out.size)
        clear hb g0 g1 glt
        have g0 := HG.out.c0; have g1 := HG.out.c1; have glt := HG.out.lt
        go_wp2_with fail
        go_ret
        exact ⟨rfl, HB.out⟩
    · have t0 : (freeCode n es f != 0) = true := by simp [hfc]
      have HFC := Lib.hid hfc; clear hfc hgr
      go_enter Tryd.func7, Tryd.ntmps7
      have g0 := HG.out.c0; have g1 := HG.out.c1; have glt := HG.out.lt
      go_wp2_with fail
      refine (great_any n A es len c _ (HR.out.new HB.out)).mono ?_
      rintro e wx ⟨rfl, hb⟩
      rw [HQ.out]
      replace HG := Lib.hid (HG.out.new hb); replace HB := Lib.hid (bthen HB.out hb HB.out.size)
      clear hb g0 g1 glt
      have g0 := HG.out.c0; have g1 := HG.out.c1; have glt := HG.out.lt
      go_wp2_with fail
      refine (wrong_any n A es len c f _ (HR.out.new HB.out)).mono ?_
      rintro e wx ⟨rfl, hb⟩
      replace HG := Lib.hid (HG.out.new hb); replace HB := Lib.hid (bthen HB.out hb HB.out.size)
      clear hb g0 g1 glt
      have g0 := HG.out.c0; have g1 := HG.out.c1; have glt := HG.out.lt
      go_wp2_with fail
      refine (awake31_any _ (HGT.out.new HB.out)).mono ?_
      rintro e wx ⟨rfl, hb⟩
      replace HG := Lib.hid (HG.out.new hb); replace HB := Lib.hid (bthen HB.out hb HB.out.size)
      clear hb g0 g1 glt
      have g0 := HG.out.c0; have g1 := HG.out.c1; have glt := HG.out.lt
      go_wp2_with fail
      go_ret
      exact ⟨rfl, HB.out⟩
end Go.Proofs.YtjofdlafblpclaaDoor
