/-
  Contract of hypergraph.CheckObstruction.
-/
import Derived.Test.YtkiahnffepbgpaaChkP
import Derived.Test.YtkiahnffepbgpaaAdj
import Derived.Test.YtkiahnffepbgpaaObsP
import Derived.Test.YtkiahnffepbgpaaDist
namespace Go.Proofs.Ytkiahnffepbgpaa
open Go.RowKit
set_option linter.unusedSimpArgs false
set_option linter.unusedVariables false

theorem nth_lt2' {R : List Nat} {n : Nat} (hR : ∀ x ∈ R, x < 2 ^ n) (k : Nat) : nth R k < 2 ^ n := by
  by_cases h : k < R.length
  · exact hR _ (nth_mem h)
  · have : nth R k = 0 := by simp only [nth, List.getD]; rw [List.getElem?_eq_none (by omega)]; rfl
    rw [this]; exact pow2_pos n
theorem adjRow_lt' {n : Nat} {es : List Nat} (hes : ∀ e ∈ es, e < 2 ^ n) : ∀ x ∈ adjRow n es, x < 2 ^ n := by
  intro x hx
  rw [adjRow, List.mem_map] at hx
  obtain ⟨v, _, rfl⟩ := hx
  split
  · have : ∀ (l : List Nat) (a : Nat), (∀ e ∈ l, e < 2 ^ n) → a < 2 ^ n → l.foldl (fun a e => if e.testBit v then a ||| andn e (2 ^ v) else a) a < 2 ^ n := by
      intro l
      induction l with
      | nil => intro a _ h; exact h
      | cons e l ih =>
        intro a hl ha
        rw [List.foldl_cons]
        refine ih _ (fun x hx => hl x (by simp [hx])) ?_
        split
        · exact Nat.or_lt_two_pow ha (Nat.lt_of_le_of_lt Nat.and_le_left (hl e (by simp)))
        · exact ha
    exact this es 0 hes (pow2_pos n)
  · exact pow2_pos n
set_option maxRecDepth 100000 in
set_option maxHeartbeats 8000000 in
theorem checkObs_any (n : Nat) (A : Option Addr) (es : List Nat) (len c : Nat) (B : Option Addr) (xs : List Int) (m d : Nat) (w : World) (hr : Es w w.heap.size A len es) (hcc : checkCode n es = 0) (hx : Xs w w.heap.size B m xs) :
    Calls Try.prog 22 #[.agg #[.int .i64 n, .slice A len c], .slice B m d] w fun e w' => e = .returned (.bool (chkB (adjRow n es) n es xs)) ∧ Below w.heap.size w w' := by
  obtain ⟨_, hn, hl64, hes⟩ := checkCode_zero hcc
  have hn' : n ≤ 32 := by omega
  have hes' : ∀ e ∈ es, e < 2 ^ n := by simpa using hes
  have HES := Lib.hid hes'; clear hes hes' hl64 hn
  have hm9 := hx.le
  have HML := Lib.hid hx.len
  have HX := Lib.hid hx; clear hx
  have HR := Lib.hid hr; clear hr
  have HC := Lib.hid hcc; clear hcc
  have HG := Lib.hid (GB.made w 24 (.int .i64 n) (.slice A len c))
  have HW := Lib.hid (al w (.cells #[.int .i64 n, .slice A len c] 24))
  go_enter Try.func22, Try.ntmps22
  go_wp2_with fail
  refine (check_any n A es len c _ (HR.out.new HW.out)).mono ?_
  rintro e w1 ⟨rfl, hb⟩
  rw [HC.out]
  have HB1 := Lib.hid (bthen HW.out hb (by simp))
  have HG1 := Lib.hid (HG.out.new hb)
  clear hb HG HW
  have HX1 := Lib.hid (HX.out.new HB1.out)
  have g0 := HG1.out.c0; have lg := HG1.out.lt
  go_wp2_with fail
  go_loop [5, 23] (fun sv iv => ∃ k : Nat, iv = .int .i64 k ∧ k ≤ m ∧ sv = .int .u32 (setTo xs k : Nat) ∧ Hid (okTo n xs k = true)) (fun _ iv => m - (intOf iv).toNat)
  case atStart => exact ⟨0, rfl, Nat.zero_le _, rfl, Lib.hid rfl⟩
  case round =>
    obtain ⟨k, rfl, hk, rfl, HK⟩ := hrel
    by_cases hkm : k < m
    · obtain ⟨ad, rfl, hb1, hcell⟩ := HX1.out.at_ hkm
      have hbd := HX1.out.lt hkm
      have HOKA := Lib.hid (fun h0 h1 => okAt_iff (k := k) HK.out h0 h1)
      have HBAD := Lib.hid (fun (h : okAt n xs k = false) => show chkB (adjRow n es) n es xs = false by
        have : okTo n xs xs.length = false := by
          cases h2 : okTo n xs xs.length with
          | false => rfl
          | true =>
            rw [okTo, List.all_eq_true] at h2
            rw [h2 k (by simp; have := HML.out; omega)] at h; cases h
        rw [chkB, this]; rfl)
      have HNX := Lib.hid (show okTo n xs (k + 1) = (okTo n xs k && okAt n xs k) from all_range_succ _ _)
      have HST := Lib.hid (show setTo xs (k + 1) = setTo xs k ||| 2 ^ (inth xs k).toNat from rfl)
      have hs32 : setTo xs k < 4294967296 := Nat.lt_of_lt_of_le (setTo_lt HK.out) (two_pow_le hn')
      have HAT := Lib.hid (show (inth xs k < 0 ∨ (n : Int) ≤ inth xs k) → okAt n xs k = false from fun h => by
        rw [okAt]
        rcases h with h | h
        · rw [decide_eq_false (by omega)]; rfl
        · by_cases h0 : 0 ≤ inth xs k
          · rw [decide_eq_true h0, decide_eq_false (by omega)]; rfl
          · rw [decide_eq_false h0]; rfl)
      generalize inth xs k = x at *
      by_cases hx0 : x < 0
      · have t1 : decide (x < 0) = true := by simp [hx0]
        have HF := Lib.hid (HBAD.out (HAT.out (.inl hx0)))
        go_wp2_with fail
        go_ret
        exact ⟨ret_bool HF.out.symm, HB1.out⟩
      · have t1 : decide (x < 0) = false := by simp; omega
        obtain ⟨y, rfl⟩ := Int.eq_ofNat_of_zero_le (show 0 ≤ x by omega)
        by_cases hyn : y < n
        · have t2 : decide ((y : Int) ≥ (n : Int)) = false := by simp; omega
          have hoa := HOKA.out (by omega) (by omega)
          rw [Int.toNat_natCast] at hoa
          have hbit := bit_one' (setTo xs k) y hs32
          have i1 : (0 : Int) ≤ (y : Int) := by omega
          have i2 : (y : Int) < 32 := by omega
          cases hb : (setTo xs k).testBit y with
          | true =>
            rw [hb] at hbit hoa
            have HF := Lib.hid (HBAD.out (by rw [hoa]; rfl)); clear hb hoa
            go_wp2_with fail
            go_ret
            exact ⟨ret_bool HF.out.symm, HB1.out⟩
          | false =>
            rw [hb] at hbit hoa
            have HN := Lib.hid (show okTo n xs (k + 1) = true by rw [HNX.out, HK.out, hoa]; rfl); clear hb hoa
            have hst := HST.out
            rw [Int.toNat_natCast] at hst
            have HST2 := Lib.hid hst; clear hst
            have hpy : 2 ^ y < 4294967296 := pow2_lt32 (by omega)
            have eor := bits_or (setTo xs k) (2 ^ y) hs32 hpy
            rw [← shl_mod y (by omega)] at eor
            generalize setTo xs k = sk at *
            go_wp2_with fail
            exact ⟨⟨k + 1, by go_num, by omega, by rw [HST2.out], HN⟩, by simp [intOf]; omega⟩
        · have t2 : decide ((y : Int) ≥ (n : Int)) = true := by simp; omega
          have HF := Lib.hid (HBAD.out (HAT.out (.inr (by omega))))
          go_wp2_with fail
          go_ret
          exact ⟨ret_bool HF.out.symm, HB1.out⟩
    · obtain rfl : m = k := by omega
      clear g0 lg
      have g0 := HG1.out.c0; have g1 := HG1.out.c1; have lg := HG1.out.lt
      go_wp2_with fail
      refine (adjacency_any n (by omega) A es len c _ (HR.out.new HB1.out)).mono ?_
      rintro e w2 ⟨rfl, hb⟩
      have HB2 := Lib.hid (bthen HB1.out hb HB1.out.size)
      have HG2 := Lib.hid (HG1.out.new hb); clear hb HG1 HB1 g0 g1 lg HX1
      have g0 := HG2.out.c0; have lg := HG2.out.lt
      have hZ := Blk.new w2 78 (urow (zer 32))
      have hA2 := al w2 (.cells (urow (zer 32)) 78)
      have LZ := Lib.hid lg
      clear g0 lg
      go_upto_region 12 with (refine wpList_store_blk rfl 78 (.tmp 8) (.tmp 48) rfl w2.heap.size _ _ (urow (adjRow n es)) hZ rfl rfl (by rw [size_urow, size_urow, adjRow_length, zer_length]) (arr_size (adjRow n es) (adjRow_length n es)) (one_urow (adjRow n es)) ?_; intro w3 hR3 hg3 hs3)
      have hb3 : Below w2.heap.size w2 w3 := hA2.grown hg3 hA2.size (fun k hk => by cases hk; exact Nat.le_refl _)
      have HG3 := Lib.hid (HG2.out.new hb3)
      have HB3 := Lib.hid (bthen HB2.out hb3 HB2.out.size)
      have HR3 := Lib.hid hR3
      have HGW := Lib.hid (show w.heap.size ≤ w2.heap.size from HB2.out.size)
      generalize w2.heap.size = g3 at *
      clear hg3 hs3 hb3 hR3 hZ hA2 HG2 HB2 LZ
      have HS := Lib.hid (show setTo xs m < 4294967296 from Nat.lt_of_lt_of_le (setTo_lt HK.out) (two_pow_le hn'))
      have HKL := Lib.hid (show okTo n xs xs.length = true by rw [← HML.out]; exact HK.out)
      have HSE := Lib.hid (show setTo xs m = setTo xs xs.length by rw [← HML.out])
      generalize setTo xs m = sx at *
      obtain ⟨R, hRe⟩ : ∃ R, R = adjRow n es := ⟨_, rfl⟩
      have HRL := Lib.hid (show ∀ v, nth R v < 4294967296 by
        rw [hRe]; intro v
        exact Nat.lt_of_lt_of_le (nth_lt2' (adjRow_lt' HES.out) v) (two_pow_le hn'))
      have hRlen : R.length = 32 := by rw [hRe, adjRow_length]
      rw [← hRe] at HR3
      have HRE := Lib.hid hRe; clear hRe
      have hk0 := Lib.hid (show cliTo R xs 0 = decide (3 ≤ m) by rw [cliTo, HML.out]; simp)
      have hk1 := Lib.hid (show cycTo R xs 0 = decide (4 ≤ m) by rw [cycTo, HML.out]; simp)
      have e3 : decide ((m : Int) ≥ 3) = decide (3 ≤ m) := by rw [Bool.eq_iff_iff]; simp; omega
      have e4 : decide ((m : Int) ≥ 4) = decide (4 ≤ m) := by rw [Bool.eq_iff_iff]; simp; omega
      go_wp2_with fail
      go_loopw [9, 10, 57] (fun cv yv iv wr => ∃ (i : Nat) (cb yb : Bool), iv = .int .i64 i ∧ i ≤ m ∧ cv = .bool cb ∧ yv = .bool yb ∧ Hid (cb = cliTo R xs i ∧ yb = cycTo R xs i ∧ Below w3.heap.size w3 wr)) (fun _ _ iv _ => m - (intOf iv).toNat)
      case atStart => exact ⟨0, decide (3 ≤ m), decide (4 ≤ m), rfl, Nat.zero_le _, by first | rfl | rw [e3], by first | rfl | rw [e4], Lib.hid ⟨hk0.out.symm, hk1.out.symm, Below.refl _ _⟩⟩
      case round =>
        obtain ⟨i, cb, yb, rfl, hi, rfl, rfl, HI⟩ := hrel
        by_cases him : i < m
        · obtain ⟨yi, hyi, hyin⟩ := ok_nat HKL.out (show i < xs.length by have := HML.out; omega)
          obtain ⟨ad, rfl, hb1, hcell⟩ := (HX.out.new (bthen HB3.out HI.out.2.2 HB3.out.size)).at_ him
          rw [hyi] at hcell
          have HYI := Lib.hid hyi; clear hyi
          go_wp2_with fail
          clear hcell
          obtain ⟨wo, rfl⟩ : ∃ wo : World, wo = wr := ⟨_, rfl⟩
          go_loopw [9, 10, 63] (fun cv yv jv wr => ∃ (j : Nat) (cb yb : Bool), jv = .int .i64 j ∧ j ≤ i ∧ cv = .bool cb ∧ yv = .bool yb ∧ Hid (cb = (cliTo R xs i && cliRow R xs i j) ∧ yb = (cycTo R xs i && cycRow R xs i j) ∧ Below w3.heap.size w3 wr)) (fun _ _ jv _ => i - (intOf jv).toNat)
          case atStart => exact ⟨0, cb, yb, rfl, Nat.zero_le _, rfl, rfl, Lib.hid ⟨by rw [HI.out.1, cliRow]; simp, by rw [HI.out.2.1, cycRow]; simp, HI.out.2.2⟩⟩
          case round =>
            obtain ⟨j, cb, yb, rfl, hj, rfl, rfl, HJ⟩ := hrel
            by_cases hji : j < i
            · obtain ⟨yj, hyj, hyjn⟩ := ok_nat HKL.out (show j < xs.length by have := HML.out; omega)
              obtain ⟨ad', e', hb1', hcell⟩ := (HX.out.new (bthen HB3.out HJ.out.2.2 HB3.out.size)).at_ (show j < m by omega)
              injection e' with e'
              subst e'
              rw [hyj] at hcell
              have HYJ := Lib.hid hyj; clear hyj
              have cr : wr.cell? ⟨g3, yi, none⟩ = some (.int .u32 (nth R yi : Int)) := by rw [(HR3.out.below HJ.out.2.2 HR3.out.lt).cell, urow_get (by omega)]
              have hR32 := HRL.out yi
              have HLK := Lib.hid (show (nth R yi).testBit yj = linkL R xs i j by rw [linkL, HYI.out, HYJ.out]; rfl)
              have hbit := bit_one' (nth R yi) yj hR32
              generalize (nth R yi).testBit yj = lb at *
              have i1 : (0 : Int) ≤ (yi : Int) := by omega
              have i2 : (yi : Int) < 32 := by omega
              have i3 : (0 : Int) ≤ (yj : Int) := by omega
              have i4 : (yj : Int) < 32 := by omega
              have i5 : (0 : Int) ≤ (j : Int) := by omega
              have i6 : (j : Int) < (m : Int) := by omega
              have HNB := Lib.hid (show nearL xs.length i j = (decide (j + 1 = i) || (decide (j = 0) && decide (i + 1 = m))) by rw [nearL, HML.out])
              have t3 : ((i : Int) == (m : Int) - 1) = decide (i + 1 = m) := by rw [Bool.eq_iff_iff]; simp; omega
              generalize hdd : decide (i + 1 = m) = d3 at *
              clear hdd
              by_cases h1 : j + 1 = i
              · have t1 : ((j : Int) == (i : Int) - 1) = true := by simp; omega
                have HN := Lib.hid (show true = nearL xs.length i j by rw [HNB.out, decide_eq_true h1]; rfl)
                clear h1
                cases cb <;> cases yb
                all_goals
                  go_wp2_with fail
                  go_quiet (fail)
                  go_wp2_with fail
                · exact ⟨⟨j + 1, false && lb, false && (lb == true), by go_num, by omega, by first | rfl | simp, by first | rfl | simp, Lib.hid ⟨cli_step HJ.out.1 HLK.out, cyc_step HJ.out.2.1 HLK.out HN.out, below_drewN HJ.out.2.2 _⟩⟩, by simp [intOf]; omega⟩
                · exact ⟨⟨j + 1, false && lb, true && (lb == true), by go_num, by omega, by first | rfl | simp, by first | rfl | simp, Lib.hid ⟨cli_step HJ.out.1 HLK.out, cyc_step HJ.out.2.1 HLK.out HN.out, below_drewN HJ.out.2.2 _⟩⟩, by simp [intOf]; omega⟩
                · exact ⟨⟨j + 1, true && lb, false && (lb == true), by go_num, by omega, by first | rfl | simp, by first | rfl | simp, Lib.hid ⟨cli_step HJ.out.1 HLK.out, cyc_step HJ.out.2.1 HLK.out HN.out, below_drewN HJ.out.2.2 _⟩⟩, by simp [intOf]; omega⟩
                · exact ⟨⟨j + 1, true && lb, true && (lb == true), by go_num, by omega, by first | rfl | simp, by first | rfl | simp, Lib.hid ⟨cli_step HJ.out.1 HLK.out, cyc_step HJ.out.2.1 HLK.out HN.out, below_drewN HJ.out.2.2 _⟩⟩, by simp [intOf]; omega⟩
              · by_cases h2 : j = 0
                · have t1 : ((j : Int) == (i : Int) - 1) = false := by simp; omega
                  have t2 : ((j : Int) == 0) = true := by simp; omega
                  have HN := Lib.hid (show d3 = nearL xs.length i j by rw [HNB.out, decide_eq_false h1, decide_eq_true h2]; simp)
                  clear h1 h2
                  cases cb <;> cases yb
                  all_goals
                    go_wp2_with fail
                    go_quiet (fail)
                    go_wp2_with fail
                  · exact ⟨⟨j + 1, false && lb, false && (lb == d3), by go_num, by omega, by first | rfl | simp, by first | rfl | simp, Lib.hid ⟨cli_step HJ.out.1 HLK.out, cyc_step HJ.out.2.1 HLK.out HN.out, below_drewN HJ.out.2.2 _⟩⟩, by simp [intOf]; omega⟩
                  · exact ⟨⟨j + 1, false && lb, true && (lb == d3), by go_num, by omega, by first | rfl | simp, by first | rfl | simp, Lib.hid ⟨cli_step HJ.out.1 HLK.out, cyc_step HJ.out.2.1 HLK.out HN.out, below_drewN HJ.out.2.2 _⟩⟩, by simp [intOf]; omega⟩
                  · exact ⟨⟨j + 1, true && lb, false && (lb == d3), by go_num, by omega, by first | rfl | simp, by first | rfl | simp, Lib.hid ⟨cli_step HJ.out.1 HLK.out, cyc_step HJ.out.2.1 HLK.out HN.out, below_drewN HJ.out.2.2 _⟩⟩, by simp [intOf]; omega⟩
                  · exact ⟨⟨j + 1, true && lb, true && (lb == d3), by go_num, by omega, by first | rfl | simp, by first | rfl | simp, Lib.hid ⟨cli_step HJ.out.1 HLK.out, cyc_step HJ.out.2.1 HLK.out HN.out, below_drewN HJ.out.2.2 _⟩⟩, by simp [intOf]; omega⟩
                · have t1 : ((j : Int) == (i : Int) - 1) = false := by simp; omega
                  have t2 : ((j : Int) == 0) = false := by simp; omega
                  have HN := Lib.hid (show false = nearL xs.length i j by rw [HNB.out, decide_eq_false h1, decide_eq_false h2]; simp)
                  clear h1 h2
                  cases cb <;> cases yb
                  all_goals
                    go_wp2_with fail
                    go_quiet (fail)
                    go_wp2_with fail
                  · exact ⟨⟨j + 1, false && lb, false && (lb == false), by go_num, by omega, by first | rfl | simp, by first | rfl | simp, Lib.hid ⟨cli_step HJ.out.1 HLK.out, cyc_step HJ.out.2.1 HLK.out HN.out, below_drewN HJ.out.2.2 _⟩⟩, by simp [intOf]; omega⟩
                  · exact ⟨⟨j + 1, false && lb, true && (lb == false), by go_num, by omega, by first | rfl | simp, by first | rfl | simp, Lib.hid ⟨cli_step HJ.out.1 HLK.out, cyc_step HJ.out.2.1 HLK.out HN.out, below_drewN HJ.out.2.2 _⟩⟩, by simp [intOf]; omega⟩
                  · exact ⟨⟨j + 1, true && lb, false && (lb == false), by go_num, by omega, by first | rfl | simp, by first | rfl | simp, Lib.hid ⟨cli_step HJ.out.1 HLK.out, cyc_step HJ.out.2.1 HLK.out HN.out, below_drewN HJ.out.2.2 _⟩⟩, by simp [intOf]; omega⟩
                  · exact ⟨⟨j + 1, true && lb, true && (lb == false), by go_num, by omega, by first | rfl | simp, by first | rfl | simp, Lib.hid ⟨cli_step HJ.out.1 HLK.out, cyc_step HJ.out.2.1 HLK.out HN.out, below_drewN HJ.out.2.2 _⟩⟩, by simp [intOf]; omega⟩
            · obtain rfl : j = i := by omega
              go_wp2_with fail
              exact ⟨⟨j + 1, cb, yb, by go_num, by omega, rfl, rfl, Lib.hid ⟨by rw [HJ.out.1, cliTo_succ], by rw [HJ.out.2.1, cycTo_succ], HJ.out.2.2⟩⟩, by simp [intOf]; omega⟩
        · obtain rfl : m = i := by omega
          have HB5 := Lib.hid (bthen HB3.out HI.out.2.2 HB3.out.size)
          have HG5 := Lib.hid (HG3.out.new HI.out.2.2)
          have g0 := HG5.out.c0; have g1 := HG5.out.c1; have lg := HG5.out.lt
          have HSB := HS.out
          cases cb with
          | true =>
            have HF := Lib.hid (show chkB (adjRow n es) n es xs = !es.any (holdsB sx) by
              rw [chkB, HKL.out, ← HRE.out, ← HML.out, ← HI.out.1, HML.out, ← HSE.out]; rfl)
            go_wp2_with fail
            refine (inside_ok n sx A es len c _ (HR.out.new HB5.out) HC.out HSB).mono ?_
            rintro e w6 ⟨rfl, hb⟩
            have HB6 := Lib.hid (bthen HB5.out hb HB5.out.size); clear hb g0 g1 lg
            generalize es.any (holdsB sx) = an at *
            go_wp2_with fail
            go_ret
            exact ⟨ret_bool HF.out.symm, HB6.out⟩
          | false =>
            have HF := Lib.hid (show chkB (adjRow n es) n es xs = yb by
              rw [chkB, HKL.out, ← HRE.out, ← HML.out, ← HI.out.1, ← HI.out.2.1]; rfl)
            go_wp2_with fail
            go_ret
            exact ⟨ret_bool HF.out.symm, HB5.out⟩
end Go.Proofs.Ytkiahnffepbgpaa
