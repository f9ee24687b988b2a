/-
  Contract of connex.CheckPath.
-/
import Derived.Test.YtjofdlafblpclaaDoorChkP
import Derived.Test.YtjofdlafblpclaaDoorCxQ
import Derived.Test.YtjofdlafblpclaaDoorObsP
namespace Go.Proofs.YtjofdlafblpclaaDoor
open Go.RowKit
set_option linter.unusedSimpArgs false
set_option linter.unusedVariables false

def stepAt (R : List Nat) (l : List Int) (i m : Nat) : Bool := (List.range m).all fun j => linkL R l i j == decide (j + 1 = i)
def endAt (f : Nat) (l : List Int) (i : Nat) : Bool := decide (i = 0 ∨ i + 1 = l.length) == decide (inth l i < f)
def wayTo (R : List Nat) (f : Nat) (l : List Int) (k : Nat) : Bool := (List.range k).all fun i => endAt f l i && stepAt R l i i
/-- connex.CheckPath of correct arguments. -/
def chkW (R : List Nat) (n f : Nat) (l : List Int) : Bool := decide (3 ≤ l.length) && (okTo n l l.length && wayTo R f l l.length)
theorem bit_one9 (e v : Nat) (he : e < 2 ^ 32) : (bits .and .u32 ((e : Int) / 2 ^ v) 1 == 1) = e.testBit v := by
  rw [bits_and_one e v he]
  cases e.testBit v <;> rfl
theorem stepAt_succ (R : List Nat) (l : List Int) (i m : Nat) : stepAt R l i (m + 1) = (stepAt R l i m && (linkL R l i m == decide (m + 1 = i))) := all_range_succ _ _
theorem wayTo_succ (R : List Nat) (f : Nat) (l : List Int) (i : Nat) : wayTo R f l (i + 1) = (wayTo R f l i && (endAt f l i && stepAt R l i i)) := all_range_succ _ _
theorem way_bad {R : List Nat} {n f : Nat} {l : List Int} {i : Nat} (hi : i < l.length) (h : (endAt f l i && stepAt R l i i) = false) : chkW R n f l = false := by
  have : wayTo R f l l.length = false := by
    cases h2 : wayTo R f l l.length with
    | false => rfl
    | true =>
      rw [wayTo, List.all_eq_true] at h2
      rw [h2 i (by simpa using hi)] at h; cases h
  rw [chkW, this]; simp
theorem step_bad {R : List Nat} {l : List Int} {i j : Nat} (hj : j < i) (h : (linkL R l i j == decide (j + 1 = i)) = false) : stepAt R l i i = false := by
  cases h2 : stepAt R l i i with
  | false => rfl
  | true =>
    rw [stepAt, List.all_eq_true] at h2
    rw [h2 j (by simpa using hj)] at h; cases h
theorem ret_bool9 {a b : Bool} (h : b = a) : Ending.returned (.bool a) = Ending.returned (.bool b) := by rw [h]
set_option maxRecDepth 100000 in
set_option maxHeartbeats 4000000 in
theorem chkp_bad (n : Int) (A : Option Addr) (es : List Nat) (len c : Nat) (f : Int) (B : Option Addr) (m d : Nat) (w : World) (hr : Es w w.heap.size A len es) (hc : freeCode n es f ≠ 0) :
    Calls Tryd.prog 19 #[.agg #[.int .i64 n, .slice A len c], .int .i64 f, .slice B m d] w fun e w' => e = .returned (.bool false) ∧ Below w.heap.size w w' := by
  have HR := Lib.hid hr; clear hr
  have HW := Lib.hid (al w (.cells #[.int .i64 n, .slice A len c] 24))
  have HG := Lib.hid (GB.made w 24 (.int .i64 n) (.slice A len c))
  have t0 : (freeCode n es f != 0) = true := by simp [hc]
  go_enter Tryd.func19, Tryd.ntmps19
  have g0 := HG.out.c0; have g1 := HG.out.c1; have lg := HG.out.lt
  go_wp2_with fail
  refine (checkFree_any n A es len c f _ (HR.out.new HW.out)).mono ?_
  rintro e w1 ⟨rfl, hb⟩
  have HB1 := Lib.hid (bthen HW.out hb (by simp))
  clear hb g0 g1 lg
  go_wp2_with fail
  go_ret
  exact ⟨rfl, HB1.out⟩
set_option maxRecDepth 100000 in
set_option maxHeartbeats 8000000 in
theorem chkp_ok (n : Nat) (A : Option Addr) (es : List Nat) (len c f : Nat) (B : Option Addr) (xs : List Int) (m d : Nat) (w : World) (hr : Es w w.heap.size A len es) (hcc : checkCode n es = 0) (hfn : f ≤ n) (hx : Xs w w.heap.size B m xs) :
    Calls Tryd.prog 19 #[.agg #[.int .i64 n, .slice A len c], .int .i64 f, .slice B m d] w fun e w' => e = .returned (.bool (chkW (adjRow n es) n f xs)) ∧ Below w.heap.size w w' := by
  obtain ⟨_, hn, hl64, hes⟩ := checkCode_zero hcc
  have hn' : n ≤ 32 := by omega
  have hfc : freeCode n es f = 0 := by unfold freeCode; rw [hcc]; simp; omega
  have HFC := Lib.hid hfc; clear hfc
  have hes' : ∀ e ∈ es, e < 2 ^ n := by simpa using hes
  have HES := Lib.hid hes'; clear hes hes' hl64 hn
  have HRL := Lib.hid (adjRow_lt9 hn' (es := es) HES.out)
  have hm9 := hx.le
  have HML := Lib.hid hx.len
  have HX := Lib.hid hx; clear hx
  have HR := Lib.hid hr; clear hr
  have HC := Lib.hid hcc; clear hcc
  have HG := Lib.hid (GB.made w 24 (.int .i64 n) (.slice A len c))
  have HW := Lib.hid (al w (.cells #[.int .i64 n, .slice A len c] 24))
  go_enter Tryd.func19, Tryd.ntmps19
  have g0 := HG.out.c0; have g1 := HG.out.c1; have lg := HG.out.lt
  go_wp2_with fail
  refine (checkFree_any n A es len c f _ (HR.out.new HW.out)).mono ?_
  rintro e w1 ⟨rfl, hb⟩
  rw [HFC.out]
  have HB1 := Lib.hid (bthen HW.out hb (by simp))
  have HG1 := Lib.hid (HG.out.new hb)
  clear hb HG HW g0 g1 lg
  have HX1 := Lib.hid (HX.out.new HB1.out)
  have g0 := HG1.out.c0; have g1 := HG1.out.c1; have lg := HG1.out.lt
  by_cases hm3 : m < 3
  · have t3 : decide ((m : Int) < 3) = true := by simp; omega
    have HF := Lib.hid (show chkW (adjRow n es) n f xs = false by
      rw [chkW, decide_eq_false (by have := HML.out; omega)]; rfl)
    go_wp2_with fail
    go_ret
    exact ⟨ret_bool9 HF.out, HB1.out⟩
  have t3 : decide ((m : Int) < 3) = false := by simp; omega
  go_wp2_with fail
  clear g1 t3
  go_loop [7, 27] (fun sv iv => ∃ k : Nat, iv = .int .i64 k ∧ k ≤ m ∧ sv = .int .u32 (setTo xs k : Nat) ∧ Hid (okTo n xs k = true)) (fun _ iv => m - (intOf iv).toNat)
  case atStart => exact ⟨0, rfl, Nat.zero_le _, rfl, Lib.hid rfl⟩
  case round =>
    obtain ⟨k, rfl, hk, rfl, HK⟩ := hrel
    by_cases hkm : k < m
    · obtain ⟨ad, rfl, hb1, hcell⟩ := HX1.out.at_ hkm
      have hbd := HX1.out.lt hkm
      have HOKA := Lib.hid (fun h0 h1 => okAt_iff (k := k) HK.out h0 h1)
      have HBAD := Lib.hid (fun (h : okAt n xs k = false) => show chkW (adjRow n es) n f xs = false by
        have : okTo n xs xs.length = false := by
          cases h2 : okTo n xs xs.length with
          | false => rfl
          | true =>
            rw [okTo, List.all_eq_true] at h2
            rw [h2 k (by simp; have := HML.out; omega)] at h; cases h
        rw [chkW, this]; simp)
      have HNX := Lib.hid (show okTo n xs (k + 1) = (okTo n xs k && okAt n xs k) from all_range_succ _ _)
      have HST := Lib.hid (show setTo xs (k + 1) = setTo xs k ||| 2 ^ (inth xs k).toNat from rfl)
      have hs32 : setTo xs k < 4294967296 := Nat.lt_of_lt_of_le (setTo_lt HK.out) (two_pow_le hn')
      have HAT := Lib.hid (show (inth xs k < 0 ∨ (n : Int) ≤ inth xs k) → okAt n xs k = false from fun h => by
        rw [okAt]
        rcases h with h | h
        · rw [decide_eq_false (by omega)]; rfl
        · by_cases h0 : 0 ≤ inth xs k
          · rw [decide_eq_true h0, decide_eq_false (by omega)]; rfl
          · rw [decide_eq_false h0]; rfl)
      generalize inth xs k = x at *
      by_cases hx0 : x < 0
      · have t1 : decide (x < 0) = true := by simp [hx0]
        have HF := Lib.hid (HBAD.out (HAT.out (.inl hx0)))
        go_wp2_with fail
        go_ret
        exact ⟨ret_bool9 HF.out, HB1.out⟩
      · have t1 : decide (x < 0) = false := by simp; omega
        obtain ⟨y, rfl⟩ := Int.eq_ofNat_of_zero_le (show 0 ≤ x by omega)
        by_cases hyn : y < n
        · have t2 : decide ((y : Int) ≥ (n : Int)) = false := by simp; omega
          have hoa := HOKA.out (by omega) (by omega)
          rw [Int.toNat_natCast] at hoa
          have hbit := bit_one9 (setTo xs k) y hs32
          have i1 : (0 : Int) ≤ (y : Int) := by omega
          have i2 : (y : Int) < 32 := by omega
          cases hb : (setTo xs k).testBit y with
          | true =>
            rw [hb] at hbit hoa
            have HF := Lib.hid (HBAD.out (by rw [hoa]; rfl)); clear hb hoa
            go_wp2_with fail
            go_ret
            exact ⟨ret_bool9 HF.out, HB1.out⟩
          | false =>
            rw [hb] at hbit hoa
            have HN := Lib.hid (show okTo n xs (k + 1) = true by rw [HNX.out, HK.out, hoa]; rfl); clear hb hoa
            have hst := HST.out
            rw [Int.toNat_natCast] at hst
            have HST2 := Lib.hid hst; clear hst
            have hpy : 2 ^ y < 4294967296 := pow2_lt32 (by omega)
            have eor := bits_or (setTo xs k) (2 ^ y) hs32 hpy
            rw [← shl_mod y (by omega)] at eor
            generalize setTo xs k = sk at *
            go_wp2_with fail
            exact ⟨⟨k + 1, by go_num, by omega, by rw [HST2.out], HN⟩, by simp [intOf]; omega⟩
        · have t2 : decide ((y : Int) ≥ (n : Int)) = true := by simp; omega
          have HF := Lib.hid (HBAD.out (HAT.out (.inr (by omega))))
          go_wp2_with fail
          go_ret
          exact ⟨ret_bool9 HF.out, HB1.out⟩
    · obtain rfl : m = k := by omega
      clear g0 lg
      have g0 := HG1.out.c0; have g1 := HG1.out.c1; have lg := HG1.out.lt
      go_wp2_with fail
      refine (cxadj_any n A es len c _ (HR.out.new HB1.out) HC.out).mono ?_
      rintro e w2 ⟨rfl, hb⟩
      have HB2 := Lib.hid (bthen HB1.out hb HB1.out.size)
      have HG2 := Lib.hid (HG1.out.new hb); clear hb HG1 HB1 g0 g1 lg HX1
      have hZ := Blk.new w2 58 (urow (zer 32))
      have hA2 := al w2 (.cells (urow (zer 32)) 58)
      go_upto_region 12 with (refine wpList_store_blk rfl 58 (.tmp 10) (.tmp 52) rfl w2.heap.size _ _ (urow (adjRow n es)) hZ rfl rfl (by rw [size_urow, size_urow, adjRow_length, zer_length]) (arr_size (adjRow n es) (adjRow_length n es)) (one_urow (adjRow n es)) ?_; intro w3 hR3 hg3 hs3)
      have hb3 : Below w2.heap.size w2 w3 := hA2.grown hg3 hA2.size (fun k hk => by cases hk; exact Nat.le_refl _)
      have HB3 := Lib.hid (bthen HB2.out hb3 HB2.out.size)
      have HR3 := Lib.hid hR3
      have HGW := Lib.hid (show w.heap.size ≤ w2.heap.size from HB2.out.size)
      generalize w2.heap.size = g3 at *
      clear hg3 hs3 hb3 hR3 hZ hA2 HG2 HB2
      have HKL := Lib.hid (show okTo n xs xs.length = true by rw [← HML.out]; exact HK.out)
      obtain ⟨R, hRe⟩ : ∃ R, R = adjRow n es := ⟨_, rfl⟩
      have HR32 := Lib.hid (show ∀ v, nth R v < 4294967296 by
        rw [hRe]; intro v
        exact nth_lt32 HRL.out v)
      have hRlen : R.length = 32 := by rw [hRe, adjRow_length]
      rw [← hRe] at HR3
      have HRE := Lib.hid hRe; clear hRe
      rw [← HRE.out]
      clear HK
      go_wp2_with fail
      go_loopw [55] (fun iv wr => ∃ (i : Nat), iv = .int .i64 i ∧ i ≤ m ∧ Hid (wayTo R f xs i = true ∧ Below w3.heap.size w3 wr)) (fun iv _ => m - (intOf iv).toNat)
      case atStart => exact ⟨0, rfl, Nat.zero_le _, Lib.hid ⟨rfl, Below.refl _ _⟩⟩
      case round =>
        obtain ⟨i, rfl, hi, HI⟩ := hrel
        by_cases him : i < m
        · obtain ⟨yi, hyi, hyin⟩ := ok_nat HKL.out (show i < xs.length by have := HML.out; omega)
          obtain ⟨ad, rfl, hb1, hcell⟩ := (HX.out.new (bthen HB3.out HI.out.2 HB3.out.size)).at_ him
          rw [hyi] at hcell
          have HYI := Lib.hid hyi; clear hyi
          have HEND := Lib.hid (show endAt f xs i = (decide (i = 0 ∨ i + 1 = m) == decide (yi < f)) by
            rw [endAt, HYI.out, HML.out]; congr 1; rw [Bool.eq_iff_iff]; simp)
          have HILT := Lib.hid (show i < xs.length by have := HML.out; omega)
          have t4 : decide ((yi : Int) < (f : Int)) = decide (yi < f) := by rw [Bool.eq_iff_iff]; simp
          have t1 : ((i : Int) == 0) = decide (i = 0) := by rw [Bool.eq_iff_iff]; simp
          have t3 : ((i : Int) == (m : Int) - 1) = decide (i + 1 = m) := by rw [Bool.eq_iff_iff]; simp; omega
          have HOR := Lib.hid (show decide (i = 0 ∨ i + 1 = m) = (decide (i = 0) || decide (i + 1 = m)) by rw [Bool.eq_iff_iff]; simp)
          rw [HOR.out] at HEND
          clear HOR
          generalize hd1 : decide (i = 0) = d1 at *
          generalize hd3 : decide (i + 1 = m) = d3 at *
          generalize hd4 : decide (yi < f) = d4 at *
          clear hd1 hd3
          by_cases he : (d1 || d3) = d4
          · have HEN := Lib.hid (show endAt f xs i = true by rw [HEND.out, he]; simp)
            obtain ⟨wo, rfl⟩ : ∃ wo : World, wo = wr := ⟨_, rfl⟩
            clear HEND
            cases d1 <;> cases d3 <;> cases d4 <;> simp at he
            all_goals
              go_wp2_with fail
              clear hcell t1 t3 t4 hd4 hb1
              go_loopw [75] (fun jv wr => ∃ (j : Nat), jv = .int .i64 j ∧ j ≤ i ∧ Hid (stepAt R xs i j = true ∧ Below w3.heap.size w3 wr)) (fun jv _ => i - (intOf jv).toNat)
              case atStart => exact ⟨0, rfl, Nat.zero_le _, Lib.hid ⟨rfl, HI.out.2⟩⟩
              case round =>
                obtain ⟨j, rfl, hj, HJ⟩ := hrel
                by_cases hji : j < i
                · obtain ⟨yj, hyj, hyjn⟩ := ok_nat HKL.out (show j < xs.length by have := HML.out; omega)
                  obtain ⟨ad', e', hb1', hcell⟩ := (HX.out.new (bthen HB3.out HJ.out.2 HB3.out.size)).at_ (show j < m by omega)
                  injection e' with e'
                  subst e'
                  rw [hyj] at hcell
                  have HYJ := Lib.hid hyj; clear hyj
                  have cr : wr.cell? ⟨g3, yi, none⟩ = some (.int .u32 (nth R yi : Int)) := by rw [(HR3.out.below HJ.out.2 HR3.out.lt).cell, urow_get (by omega)]
                  have hR32 := HR32.out yi
                  have HLK := Lib.hid (show (nth R yi).testBit yj = linkL R xs i j by rw [linkL, HYI.out, HYJ.out]; rfl)
                  have hbit := bit_one9 (nth R yi) yj hR32
                  generalize (nth R yi).testBit yj = lb at *
                  have i1 : (0 : Int) ≤ (yi : Int) := by omega
                  have i2 : (yi : Int) < 32 := by omega
                  have i3 : (0 : Int) ≤ (yj : Int) := by omega
                  have i4 : (yj : Int) < 32 := by omega
                  have i5 : (0 : Int) ≤ (j : Int) := by omega
                  have i6 : (j : Int) < (m : Int) := by omega
                  have t1 : ((j : Int) == (i : Int) - 1) = decide (j + 1 = i) := by rw [Bool.eq_iff_iff]; simp; omega
                  have HBAD := Lib.hid (fun (h : (lb == decide (j + 1 = i)) = false) => show chkW (adjRow n es) n f xs = false from way_bad HILT.out (by rw [← HRE.out, step_bad hji (by rw [← HLK.out]; exact h)]; simp))
                  have HNX := Lib.hid (fun (h : (lb == decide (j + 1 = i)) = true) => show stepAt R xs i (j + 1) = true by rw [stepAt_succ, HJ.out.1, ← HLK.out, h]; rfl)
                  generalize hdd : decide (j + 1 = i) = d5 at *
                  clear hdd HLK
                  go_wp2_with fail
                  go_quiet (fail)
                  cases lb <;> cases d5
                  · have HN := Lib.hid (HNX.out rfl)
                    go_wp2_with fail
                    exact ⟨⟨j + 1, by go_num, by omega, Lib.hid ⟨HN.out, below_drewN HJ.out.2 _⟩⟩, by simp [intOf]; omega⟩
                  · have HF := Lib.hid (HBAD.out rfl)
                    go_wp2_with fail
                    go_ret
                    exact ⟨ret_bool9 HF.out, bthen HB3.out (below_drewN HJ.out.2 _) HB3.out.size⟩
                  · have HF := Lib.hid (HBAD.out rfl)
                    go_wp2_with fail
                    go_ret
                    exact ⟨ret_bool9 HF.out, bthen HB3.out (below_drewN HJ.out.2 _) HB3.out.size⟩
                  · have HN := Lib.hid (HNX.out rfl)
                    go_wp2_with fail
                    exact ⟨⟨j + 1, by go_num, by omega, Lib.hid ⟨HN.out, below_drewN HJ.out.2 _⟩⟩, by simp [intOf]; omega⟩
                · obtain rfl : j = i := by omega
                  have HW5 := Lib.hid (show wayTo R f xs (j + 1) = true by rw [wayTo_succ, HI.out.1, HEN.out, HJ.out.1]; rfl)
                  go_wp2_with fail
                  exact ⟨⟨j + 1, by go_num, by omega, Lib.hid ⟨HW5.out, HJ.out.2⟩⟩, by simp [intOf]; omega⟩
          · have HF := Lib.hid (show chkW (adjRow n es) n f xs = false from way_bad HILT.out (by rw [← HRE.out, HEND.out]; cases d1 <;> cases d3 <;> cases d4 <;> simp at he ⊢))
            cases d1 <;> cases d3 <;> cases d4 <;> simp at he
            all_goals
              go_wp2_with fail
              go_ret
              exact ⟨ret_bool9 HF.out, bthen HB3.out HI.out.2 HB3.out.size⟩
        · obtain rfl : m = i := by omega
          have HF := Lib.hid (show chkW (adjRow n es) n f xs = true by
            rw [← HRE.out, chkW, HKL.out, decide_eq_true (by have := HML.out; omega), ← HML.out, HI.out.1]; rfl)
          go_wp2_with fail
          go_ret
          exact ⟨ret_bool9 HF.out, bthen HB3.out HI.out.2 HB3.out.size⟩
end Go.Proofs.YtjofdlafblpclaaDoor
