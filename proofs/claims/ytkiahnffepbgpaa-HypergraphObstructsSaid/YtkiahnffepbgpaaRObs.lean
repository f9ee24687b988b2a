/-
  Contract of the reference's Obstructs. Printed by gen/robs.py.
-/
import Derived.Test.YtkiahnffepbgpaaRefI
import Derived.Test.YtkiahnffepbgpaaRAdj
import Derived.Test.YtkiahnffepbgpaaChkP
import Derived.Test.YtkiahnffepbgpaaAdj
import Derived.Test.YtkiahnffepbgpaaIdx
import Derived.Test.YtkiahnffepbgpaaObsP
import Derived.Test.YtkiahnffepbgpaaSrchP
import Derived.IntWalk
namespace Go.Proofs.Ytkiahnffepbgpaa
open Go.RowKit
set_option linter.unusedSimpArgs false
set_option linter.unusedVariables false

theorem add_or_bit {y v : Nat} (hy : y < 2 ^ 32) (hv : v < 32) (h : y.testBit v = false) : y + 2 ^ v = y ||| 2 ^ v := by
  have h2 : (2 : Nat) ^ v < 2 ^ 32 := Nat.pow_lt_pow_right (by decide) hv
  have key := BitVec.add_eq_or_of_and_eq_zero (BitVec.ofNat 64 y) (BitVec.ofNat 64 (2 ^ v)) (by
    apply BitVec.eq_of_toNat_eq
    simp only [BitVec.toNat_and, BitVec.toNat_ofNat]
    rw [Nat.mod_eq_of_lt (a := y) (by omega), Nat.mod_eq_of_lt (a := 2 ^ v) (by omega)]
    apply Nat.eq_of_testBit_eq
    intro i
    rw [Nat.testBit_and, Nat.testBit_two_pow]
    by_cases hi : v = i
    · subst hi; simp [h]
    · simp [hi])
  have := congrArg BitVec.toNat key
  simp only [BitVec.toNat_add, BitVec.toNat_or, BitVec.toNat_ofNat] at this
  rw [Nat.mod_eq_of_lt (a := y) (by omega), Nat.mod_eq_of_lt (a := 2 ^ v) (by omega), Nat.mod_eq_of_lt (by omega)] at this
  exact this
theorem adj_link {n : Nat} {es : List Nat} (hn : n ≤ 32) (hb : ∀ e ∈ es, e < 2 ^ n) {a b : Nat} (ha : a < n) : adjB es a b = (nth (adjRow n es) a).testBit b := by
  rw [nth_adjRow (by omega), if_pos ha, Bool.eq_iff_iff, adj_bit (lt32_of hn hb) (by omega)]
  unfold adjB
  rw [Bool.and_eq_true, decide_eq_true_eq, List.any_eq_true]
  simp only [Bool.and_eq_true]
  exact ⟨fun h => ⟨Ne.symm h.1, h.2⟩, fun h => ⟨Ne.symm h.1, h.2⟩⟩
theorem near_ref {len i j : Nat} (hj : j < i) (hi : i < len) (h4 : 4 ≤ len) : nearL len i j = (decide (j + 1 = i) || decide (i - j = len - 1)) := by
  unfold nearL
  rw [Bool.eq_iff_iff]
  simp
  omega

theorem firstAt_neg {p : Nat → Bool} {l : List Nat} : decide (firstAt p l < 0) = !l.any p := by
  unfold firstAt
  cases h : l.findIdx? p with
  | some i =>
    have h1 : l.any p = true := by
      rw [List.findIdx?_eq_some_iff_getElem] at h
      obtain ⟨hi, h2, _⟩ := h
      exact List.any_eq_true.2 ⟨_, List.getElem_mem hi, h2⟩
    rw [h1]; simp
  | none =>
    have h1 : l.any p = false := by
      rw [List.findIdx?_eq_none_iff] at h
      rw [List.any_eq_false]; intro x hx; rw [h x hx]; simp
    rw [h1]; rfl
theorem cyc_step2 {R : List Nat} {l : List Int} {i j : Nat} {yb lb nb : Bool} (h : yb = (cycTo R l i && cycRow R l i j)) (hl : lb = linkL R l i j) (hn : 4 ≤ l.length → nb = nearL l.length i j) : (yb && (lb == nb)) = (cycTo R l i && cycRow R l i (j + 1)) := by
  by_cases h4 : 4 ≤ l.length
  · exact cyc_step h hl (hn h4)
  · have hc : cycTo R l i = false := by rw [cycTo, decide_eq_false h4]; rfl
    rw [hc, Bool.false_and] at h ⊢
    rw [h]; rfl
theorem cli_step2 {R : List Nat} {l : List Int} {i j : Nat} {cb lb q : Bool} (h : cb = (q && (cliTo R l i && cliRow R l i j))) (hl : lb = linkL R l i j) : (cb && lb) = (q && (cliTo R l i && cliRow R l i (j + 1))) := by
  rw [h, Bool.and_assoc, cli_step rfl hl]
/-- A clique is no chordless cycle. -/
theorem cli_cyc {R : List Nat} {l : List Int} (h : cliTo R l l.length = true) : cycTo R l l.length = false := by
  rw [← Bool.not_eq_true]
  intro hc
  rw [cliTo, Bool.and_eq_true, List.all_eq_true] at h
  rw [cycTo, Bool.and_eq_true, decide_eq_true_eq, List.all_eq_true] at hc
  have h1 := h.2 2 (by rw [List.mem_range]; omega)
  have h2 := hc.2 2 (by rw [List.mem_range]; omega)
  rw [cliRow, List.all_eq_true] at h1
  rw [cycRow, List.all_eq_true] at h2
  have h3 := h1 0 (by simp)
  have h4 := h2 0 (by simp)
  rw [h3, beq_iff_eq] at h4
  have : nearL l.length 2 0 = false := by
    unfold nearL
    have := hc.1
    rw [Bool.or_eq_false_iff]
    simp; omega
  rw [this] at h4; cases h4
theorem chk_ref {n : Nat} {es : List Nat} {R : List Nat} {xs : List Int} {q cb yb : Bool} (hok : okTo n xs xs.length = true) (hq : q = !es.any (holdsB (setTo xs xs.length))) (hc : cb = (q && cliTo R xs xs.length)) (hy : yb = cycTo R xs xs.length) : (cb || yb) = chkB R n es xs := by
  rw [chkB, hok, Bool.true_and, hc, hy]
  cases h : cliTo R xs xs.length with
  | true => rw [cli_cyc h, if_pos rfl, hq]; simp
  | false => rw [if_neg (by simp)]; simp

set_option maxRecDepth 100000 in
set_option maxHeartbeats 8000000 in
theorem robstructs_any (n : Nat) (A : Option Addr) (es : List Nat) (len c : Nat) (B : Option Addr) (xs : List Int) (m d : Nat) (w : World) (hr : Es w w.heap.size A len es) (hcc : checkCode n es = 0) (hx : Xs w w.heap.size B m xs) :
    Calls Try.prog 23 #[.agg #[.int .i64 n, .slice A len c], .slice B m d] w fun e w' => e = .returned (.bool (chkB (adjRow n es) n es xs)) ∧ Below w.heap.size w w' := by
  obtain ⟨_, hn, hl64, hes⟩ := checkCode_zero hcc
  have hn' : n ≤ 32 := by omega
  have hes' : ∀ e ∈ es, e < 2 ^ n := by simpa using hes
  have HES := Lib.hid hes'; clear hes hes' hl64 hn
  have hm9 := hx.le
  have HML := Lib.hid hx.len
  have HX := Lib.hid hx; clear hx
  have HR := Lib.hid hr; clear hr
  have HC := Lib.hid hcc; clear hcc
  have HG := Lib.hid (GB.made w 26 (.int .i64 n) (.slice A len c))
  have HW := Lib.hid (al w (.cells #[.int .i64 n, .slice A len c] 26))
  go_enter Try.func23, Try.ntmps23
  go_wp2_with fail
  go_loopw [5, 6] (fun sv iv wr => ∃ k : Nat, iv = .int .i64 k ∧ k ≤ m ∧ sv = .int .u32 (setTo xs k : Nat) ∧ Hid (okTo n xs k = true ∧ Below w.heap.size w wr ∧ GB wr w.heap.size 26 (.int .i64 n) (.slice A len c))) (fun _ iv _ => m - (intOf iv).toNat)
  case atStart => exact ⟨0, rfl, Nat.zero_le _, rfl, Lib.hid ⟨rfl, HW.out, HG.out⟩⟩
  case round =>
    obtain ⟨k, rfl, hk, rfl, HK⟩ := hrel
    by_cases hkm : k < m
    · obtain ⟨ad, rfl, hb1, hcell⟩ := (HX.out.new HK.out.2.1).at_ hkm
      have hbd := HX.out.lt hkm
      have HOKA := Lib.hid (fun h0 h1 => okAt_iff (k := k) HK.out.1 h0 h1)
      have HBAD := Lib.hid (fun (h : okAt n xs k = false) => show chkB (adjRow n es) n es xs = false by
        have : okTo n xs xs.length = false := by
          cases h2 : okTo n xs xs.length with
          | false => rfl
          | true =>
            rw [okTo, List.all_eq_true] at h2
            rw [h2 k (by simp; have := HML.out; omega)] at h; cases h
        rw [chkB, this]; rfl)
      have HNX := Lib.hid (show okTo n xs (k + 1) = (okTo n xs k && okAt n xs k) from all_range_succ _ _)
      have HST := Lib.hid (show setTo xs (k + 1) = setTo xs k ||| 2 ^ (inth xs k).toNat from rfl)
      have hs32 : setTo xs k < 4294967296 := Nat.lt_of_lt_of_le (setTo_lt HK.out.1) (two_pow_le hn')
      have HAT := Lib.hid (show (inth xs k < 0 ∨ (n : Int) ≤ inth xs k) → okAt n xs k = false from fun h => by
        rw [okAt]
        rcases h with h | h
        · rw [decide_eq_false (by omega)]; rfl
        · by_cases h0 : 0 ≤ inth xs k
          · rw [decide_eq_true h0, decide_eq_false (by omega)]; rfl
          · rw [decide_eq_false h0]; rfl)
      have g0 := HK.out.2.2.c0; have lg := HK.out.2.2.lt
      have j1 : (0 : Int) ≤ (k : Int) := by omega
      have j2 : (k : Int) < (m : Int) := by omega
      generalize inth xs k = x at *
      by_cases hx0 : x < 0
      · have t1 : decide (x < 0) = true := by simp [hx0]
        have HF := Lib.hid (HBAD.out (HAT.out (.inl hx0)))
        go_wp2_with fail
        go_quiet (fail)
        go_wp2_with fail
        go_ret
        exact ⟨ret_bool HF.out.symm, below_drewN HK.out.2.1 _⟩
      · have t1 : decide (x < 0) = false := by simp; omega
        obtain ⟨y, rfl⟩ := Int.eq_ofNat_of_zero_le (show 0 ≤ x by omega)
        by_cases hyn : y < n
        · have t2 : decide (n ≤ y) = false := by simp; omega
          have hoa := HOKA.out (by omega) (by omega)
          rw [Int.toNat_natCast] at hoa
          cases hb : (setTo xs k).testBit y with
          | true =>
            rw [hb] at hoa
            have HF := Lib.hid (HBAD.out (by rw [hoa]; rfl)); clear hoa
            go_wp2_with fail
            go_quiet ((go_at_call 33; exact quiet_left (has_any (setTo xs k) y hs32 _)))
            go_wp2_with fail
            go_ret
            exact ⟨ret_bool HF.out.symm, below_drewN HK.out.2.1 _⟩
          | false =>
            rw [hb] at hoa
            have HN := Lib.hid (show okTo n xs (k + 1) = true by rw [HNX.out, HK.out.1, hoa]; rfl); clear hoa
            have hst := HST.out
            rw [Int.toNat_natCast] at hst
            have HST2 := Lib.hid hst; clear hst
            have hpy : 2 ^ y < 4294967296 := pow2_lt32 (by omega)
            have HAO := Lib.hid (add_or_bit hs32 (show y < 32 by omega) hb)
            have HOL := Lib.hid (show setTo xs k ||| 2 ^ y < 4294967296 from Nat.or_lt_two_pow (n := 32) hs32 hpy)
            go_wp2_with fail
            go_quiet ((go_at_call 33; exact quiet_left (has_any (setTo xs k) y hs32 _)))
            go_wp2_with fail
            refine ⟨⟨k + 1, by go_num, by omega, ?_, Lib.hid ⟨HN.out, below_drewN HK.out.2.1 _, HK.out.2.2.drewN _⟩⟩, by simp [intOf]; omega⟩
            have e1 := HAO.out; have e2 := HOL.out
            rw [HST2.out, ← e1]
            have e3 : ((2 : Int) ^ y) = ((2 ^ y : Nat) : Int) := by simp
            rw [e3]
            congr 1
            omega
        · have t2 : decide (n ≤ y) = true := by simp; omega
          have HF := Lib.hid (HBAD.out (HAT.out (.inr (by omega))))
          go_wp2_with fail
          go_quiet (fail)
          go_wp2_with fail
          go_ret
          exact ⟨ret_bool HF.out.symm, below_drewN HK.out.2.1 _⟩
    · obtain rfl : m = k := by omega
      have HS32 := Lib.hid (show setTo xs m < 4294967296 from Nat.lt_of_lt_of_le (setTo_lt HK.out.1) (two_pow_le hn'))
      have HKL := Lib.hid (show okTo n xs xs.length = true by rw [← HML.out]; exact HK.out.1)
      have HSE := Lib.hid (show setTo xs m = setTo xs xs.length by rw [← HML.out])
      have HB := Lib.hid HK.out.2.1
      have HGx := Lib.hid HK.out.2.2
      generalize setTo xs m = sx at *
      clear HK HG HW
      obtain ⟨R, hRe⟩ : ∃ R, R = adjRow n es := ⟨_, rfl⟩
      have HRE := Lib.hid hRe; clear hRe
      obtain ⟨q, hq⟩ : ∃ q, q = !es.any (holdsB sx) := ⟨_, rfl⟩
      have HQ := Lib.hid hq; clear hq
      have hdone : ∀ wz, Below w.heap.size w wz → ∀ (cb yb : Bool), cb = (q && cliTo R xs m) → yb = cycTo R xs m → (fun e w' => e = Ending.returned (.bool (chkB (adjRow n es) n es xs)) ∧ Below w.heap.size w w') (.returned (.bool (cb || yb))) wz := by
        intro wz hwz cb yb h1 h2
        rw [HML.out] at h1 h2
        exact ⟨by rw [chk_ref HKL.out (by rw [HQ.out, HSE.out]) h1 h2, HRE.out], hwz⟩
      have HDONE := Lib.hid hdone; clear hdone
      have hk0 := Lib.hid (show cliTo R xs 0 = decide (3 ≤ m) by rw [cliTo, HML.out]; simp)
      have hk1 := Lib.hid (show cycTo R xs 0 = decide (4 ≤ m) by rw [cycTo, HML.out]; simp)
      have g0 := HGx.out.c0; have g1 := HGx.out.c1; have lg := HGx.out.lt
      go_upto_region 8 with (fail)
      go_cut [7, 8] (fun cv yv wx => ∃ cb yb : Bool, cv = .bool cb ∧ yv = .bool yb ∧ Hid (cb = (q && cliTo R xs 0) ∧ yb = cycTo R xs 0 ∧ Below w.heap.size w wx ∧ GB wx w.heap.size 26 (.int .i64 n) (.slice A len c)))
      case first =>
        by_cases h3 : 3 ≤ m
        · have t3 : decide ((m : Int) ≥ 3) = true := by simp; omega
          have e4 : decide ((m : Int) ≥ 4) = decide (4 ≤ m) := by rw [Bool.eq_iff_iff]; simp; omega
          go_wp2_with fail
          refine (rinside_any n A es len c sx _ (HR.out.new HB.out) HS32.out).mono ?_
          rintro e w6 ⟨rfl, hb⟩
          have hfa : decide (firstAt (holdsB sx) es < 0) = q := by rw [HQ.out, firstAt_neg]
          generalize firstAt (holdsB sx) es = fa at *
          have HB6 := Lib.hid (bthen HB.out hb HB.out.size)
          have HG6 := Lib.hid (HGx.out.new hb); clear hb
          go_wp2_with fail
          go_meet
          exact ⟨q, decide (4 ≤ m), by first | rfl | rw [hfa], by first | rfl | rw [e4], Lib.hid ⟨by rw [hk0.out, decide_eq_true h3, Bool.and_true], hk1.out.symm, HB6.out, HG6.out⟩⟩
        · have t3 : decide ((m : Int) ≥ 3) = false := by simp; omega
          have e4 : decide ((m : Int) ≥ 4) = decide (4 ≤ m) := by rw [Bool.eq_iff_iff]; simp; omega
          go_wp2_with fail
          go_meet
          exact ⟨false, decide (4 ≤ m), by first | rfl | rw [t3], by first | rfl | rw [e4], Lib.hid ⟨by rw [hk0.out, decide_eq_false h3, Bool.and_false], hk1.out.symm, HB.out, HGx.out⟩⟩
      case rest =>
        obtain ⟨cb0, yb0, rfl, rfl, HI0⟩ := hcut
        clear HB HGx g0 g1 lg
        go_wp2_with fail
        go_loopw [7, 8, 9] (fun cv yv iv wr => ∃ (i : Nat) (cb yb : Bool), iv = .int .i64 i ∧ i ≤ m ∧ cv = .bool cb ∧ yv = .bool yb ∧ Hid (cb = (q && cliTo R xs i) ∧ yb = cycTo R xs i ∧ Below w.heap.size w wr ∧ GB wr w.heap.size 26 (.int .i64 n) (.slice A len c))) (fun _ _ iv _ => m - (intOf iv).toNat)
        case atStart => exact ⟨0, cb0, yb0, rfl, Nat.zero_le _, rfl, rfl, HI0⟩
        case round =>
          obtain ⟨i, cb, yb, rfl, hi, rfl, rfl, HI⟩ := hrel
          by_cases him : i < m
          · obtain ⟨yi, hyi, hyin⟩ := ok_nat HKL.out (show i < xs.length by have := HML.out; omega)
            have HYI := Lib.hid hyi; clear hyi
            go_wp2_with fail
            obtain ⟨wo, rfl⟩ : ∃ wo : World, wo = wr := ⟨_, rfl⟩
            go_loopw [7, 8, 10] (fun cv yv jv wr => ∃ (j : Nat) (cb yb : Bool), jv = .int .i64 j ∧ j ≤ i ∧ cv = .bool cb ∧ yv = .bool yb ∧ Hid (cb = (q && (cliTo R xs i && cliRow R xs i j)) ∧ yb = (cycTo R xs i && cycRow R xs i j) ∧ Below w.heap.size w wr ∧ GB wr w.heap.size 26 (.int .i64 n) (.slice A len c))) (fun _ _ jv _ => i - (intOf jv).toNat)
            case atStart => exact ⟨0, cb, yb, rfl, Nat.zero_le _, rfl, rfl, Lib.hid ⟨by rw [HI.out.1, cliRow]; simp, by rw [HI.out.2.1, cycRow]; simp, HI.out.2.2⟩⟩
            case round =>
              obtain ⟨j, cb, yb, rfl, hj, rfl, rfl, HJ⟩ := hrel
              by_cases hji : j < i
              · obtain ⟨yj, hyj, hyjn⟩ := ok_nat HKL.out (show j < xs.length by have := HML.out; omega)
                have HYJ := Lib.hid hyj; clear hyj
                obtain ⟨ad, rfl, _, _⟩ := HX.out.at_ him
                have CI : Hid (∀ W, Below w.heap.size w W → W.cell? (Addr.add ad i) = some (.int .i64 (yi : Int))) := Lib.hid fun W hW => by
                  obtain ⟨ad2, he, _, h⟩ := (HX.out.new hW).at_ him
                  injection he with he; subst he; rw [← HYI.out]; exact h
                have CJ : Hid (∀ W, Below w.heap.size w W → W.cell? (Addr.add ad j) = some (.int .i64 (yj : Int))) := Lib.hid fun W hW => by
                  obtain ⟨ad2, he, _, h⟩ := (HX.out.new hW).at_ (show j < m by omega)
                  injection he with he; subst he; rw [← HYJ.out]; exact h
                obtain ⟨lb, hlb⟩ : ∃ lb, lb = adjB es yi yj := ⟨_, rfl⟩
                have AD : Hid (∀ W, Below w.heap.size w W → Calls Try.prog 45 #[.agg #[.int .i64 n, .slice A len c], .int .i64 yi, .int .i64 yj] W fun e w' => e = .returned (.bool lb) ∧ Below W.heap.size W w') := Lib.hid fun W hW => by
                  rw [hlb]; exact adjacent_any n yi yj A es len c W (HR.out.new hW)
                have HLK := Lib.hid (show lb = linkL R xs i j by rw [hlb, adj_link hn' HES.out hyin, linkL, HYI.out, HYJ.out, HRE.out]; rfl)
                clear hlb
                have HB := Lib.hid HJ.out.2.2.1
                have HG := Lib.hid HJ.out.2.2.2
                obtain ⟨nb, hnb⟩ : ∃ nb, nb = (decide (j + 1 = i) || decide (i - j = m - 1)) := ⟨_, rfl⟩
                have HNB := Lib.hid (show 4 ≤ xs.length → nb = nearL xs.length i j from fun h4 => by rw [near_ref hji (by have := HML.out; omega) h4, hnb, HML.out])
                have HCB := Lib.hid (cli_step2 HJ.out.1 HLK.out)
                have HYB := Lib.hid (cyc_step2 HJ.out.2.1 HLK.out HNB.out)
                have HNBE := Lib.hid hnb; clear hnb HJ
                go_upto_region 15 with (fail)
                go_cut [11] (fun nv wx => nv = .bool nb ∧ wx = wr)
                case first =>
                  by_cases h1 : j + 1 = i
                  · have t1 : ((i : Int) - (j : Int) == 1) = true := by simp; omega
                    have t2 : nb = true := by rw [HNBE.out, decide_eq_true h1]; rfl
                    go_wp2_with fail
                    go_meet
                    exact ⟨by rw [t2], rfl⟩
                  · have t1 : ((i : Int) - (j : Int) == 1) = false := by simp; omega
                    have t2 : ((i : Int) - (j : Int) == (m : Int) - 1) = nb := by rw [HNBE.out, decide_eq_false h1, Bool.eq_iff_iff]; simp; omega
                    go_wp2_with fail
                    go_meet
                    exact ⟨by first | rfl | rw [t2], rfl⟩
                case rest =>
                  obtain ⟨rfl, rfl⟩ := hcut
                  go_upto_region 16 with (fail)
                  refine wp_region_each (kss := [[], [], [], [(1, 84), (2, 85)], [(3, 86)], [], [], [(5, 88), (6, 89)], [(7, 90)], [(0, 83), (4, 87), (8, 91)], [], [(9, 92), (10, 93)]]) [(2, .pointer (some ⟨w.heap.size, 0, none⟩)), (1, .slice (some ad) m d), (9, .int .i64 ((i : Int))), (10, .int .i64 ((j : Int))), (11, .bool nb)] [fun zz _ => zz = .agg #[.int .i64 ((n : Int)), .slice A len c], fun zz _ => zz = .slice (some ad) m d, fun zz _ => zz = .int .i64 ((i : Int)), fun zz _ => zz = .pointer (some (Addr.add ad i)), fun zz _ => zz = .int .i64 ((yi : Int)), fun zz _ => zz = .slice (some ad) m d, fun zz _ => zz = .int .i64 ((j : Int)), fun zz _ => zz = .pointer (some (Addr.add ad j)), fun zz _ => zz = .int .i64 ((yj : Int)), fun zz _ => zz = .bool lb, fun zz _ => zz = .bool nb, fun zz _ => zz = .bool (lb != nb)] (by kernel_rfl) (by kernel_rfl) ⟨rfl, rfl, rfl, rfl, rfl, trivial⟩ ?_ ?_ ?_
                  · exact ⟨fun _ _ _ h _ => h, fun _ _ _ h _ => h, fun _ _ _ h _ => h, fun _ _ _ h _ => h, fun _ _ _ h _ => h, fun _ _ _ h _ => h, fun _ _ _ h _ => h, fun _ _ _ h _ => h, fun _ _ _ h _ => h, fun _ _ _ h _ => h, fun _ _ _ h _ => h, fun _ _ _ h _ => h, trivial⟩
                  · refine ⟨?_, ?_, ?_, ?_, ?_, ?_, ?_, ?_, ?_, ?_, ?_, ?_, trivial⟩
                    · exact fun aa ww hb he hd => ob_plain rfl (load_rg rfl rfl he.1 (GB.new HG.out hb))
                    · exact fun aa ww hb he hd => ob_plain rfl (gives_move _ rfl ⟨he.2.1, Below.refl _ _⟩)
                    · exact fun aa ww hb he hd => ob_plain rfl (gives_move _ rfl ⟨he.2.2.1, Below.refl _ _⟩)
                    · exact fun aa ww hb he hd => ob_plain rfl (idx_xs (by omega) rfl hd.1 hd.2.1)
                    · exact fun aa ww hb he hd => ob_plain rfl (load_n rfl hd.1 (CI.out _ (bthen HB.out hb HB.out.size)))
                    · exact fun aa ww hb he hd => ob_plain rfl (gives_move _ rfl ⟨he.2.1, Below.refl _ _⟩)
                    · exact fun aa ww hb he hd => ob_plain rfl (gives_move _ rfl ⟨he.2.2.2.1, Below.refl _ _⟩)
                    · exact fun aa ww hb he hd => ob_plain rfl (idx_xs (by omega) rfl hd.1 hd.2.1)
                    · exact fun aa ww hb he hd => ob_plain rfl (load_n rfl hd.1 (CJ.out _ (bthen HB.out hb HB.out.size)))
                    · exact fun aa ww hb he hd => ob_plain rfl (gives_call3 _ _ _ _ _ rfl (by kernel_rfl) (by rw [show aa.eval (.tmp 83) = .agg #[.int .i64 ((n : Int)), .slice A len c] from hd.1, show aa.eval (.tmp 87) = .int .i64 ((yi : Int)) from hd.2.1, show aa.eval (.tmp 91) = .int .i64 ((yj : Int)) from hd.2.2.1]; exact rv_one (AD.out _ (bthen HB.out hb HB.out.size))))
                    · exact fun aa ww hb he hd => ob_plain rfl (gives_move _ rfl ⟨he.2.2.2.2.1, Below.refl _ _⟩)
                    · exact fun aa ww hb he hd => ob_plain rfl (gives_ne_bool lb nb _ _ _ _ rfl Try.underlying4 hd.1 hd.2.1 ⟨rfl, Below.refl _ _⟩)
                  intro vs w5 hb hR
                  have e94 : vs 11 = .bool (lb != nb) := hR 11 (by decide)
                  clear hR
                  simp only [putsL, Nat.zero_add, Nat.reduceAdd, List.take_succ_cons, List.take_zero, Act.put, List.setIfInBounds_toArray, List.set_cons_zero, List.set_cons_succ]
                  rw [e94]
                  clear e94
                  replace HG := Lib.hid (HG.out.new hb)
                  replace HB := Lib.hid (bthen HB.out hb HB.out.size)
                  clear hb
                  obtain ⟨ne, hne⟩ : ∃ ne, ne = (lb != nb) := ⟨_, rfl⟩
                  rw [← hne]
                  have HYB2 := Lib.hid (show (yb && !ne) = (cycTo R xs i && cycRow R xs i (j + 1)) by rw [← HYB.out, hne]; cases lb <;> cases nb <;> rfl)
                  clear hne
                  obtain ⟨nl, hnl⟩ : ∃ nl, nl = !lb := ⟨_, rfl⟩
                  have HCB2 := Lib.hid (show (cb && !nl) = (q && (cliTo R xs i && cliRow R xs i (j + 1))) by rw [← HCB.out, hnl]; simp)
                  cases ne
                  · go_upto_region 18 with (fail)
                    refine wp_region_each (kss := [[], [], [], [(1, 96), (2, 97)], [(3, 98)], [], [], [(5, 100), (6, 101)], [(7, 102)], [(0, 95), (4, 99), (8, 103)], [(9, 104)]]) [(2, .pointer (some ⟨w.heap.size, 0, none⟩)), (1, .slice (some ad) m d), (9, .int .i64 ((i : Int))), (10, .int .i64 ((j : Int)))] [fun zz _ => zz = .agg #[.int .i64 ((n : Int)), .slice A len c], fun zz _ => zz = .slice (some ad) m d, fun zz _ => zz = .int .i64 ((i : Int)), fun zz _ => zz = .pointer (some (Addr.add ad i)), fun zz _ => zz = .int .i64 ((yi : Int)), fun zz _ => zz = .slice (some ad) m d, fun zz _ => zz = .int .i64 ((j : Int)), fun zz _ => zz = .pointer (some (Addr.add ad j)), fun zz _ => zz = .int .i64 ((yj : Int)), fun zz _ => zz = .bool lb, fun zz _ => zz = .bool (!lb)] (by kernel_rfl) (by kernel_rfl) ⟨rfl, rfl, rfl, rfl, trivial⟩ ?_ ?_ ?_
                    · exact ⟨fun _ _ _ h _ => h, fun _ _ _ h _ => h, fun _ _ _ h _ => h, fun _ _ _ h _ => h, fun _ _ _ h _ => h, fun _ _ _ h _ => h, fun _ _ _ h _ => h, fun _ _ _ h _ => h, fun _ _ _ h _ => h, fun _ _ _ h _ => h, fun _ _ _ h _ => h, trivial⟩
                    · refine ⟨?_, ?_, ?_, ?_, ?_, ?_, ?_, ?_, ?_, ?_, ?_, trivial⟩
                      · exact fun aa ww hb he hd => ob_plain rfl (load_rg rfl rfl he.1 (GB.new HG.out hb))
                      · exact fun aa ww hb he hd => ob_plain rfl (gives_move _ rfl ⟨he.2.1, Below.refl _ _⟩)
                      · exact fun aa ww hb he hd => ob_plain rfl (gives_move _ rfl ⟨he.2.2.1, Below.refl _ _⟩)
                      · exact fun aa ww hb he hd => ob_plain rfl (idx_xs (by omega) rfl hd.1 hd.2.1)
                      · exact fun aa ww hb he hd => ob_plain rfl (load_n rfl hd.1 (CI.out _ (bthen HB.out hb HB.out.size)))
                      · exact fun aa ww hb he hd => ob_plain rfl (gives_move _ rfl ⟨he.2.1, Below.refl _ _⟩)
                      · exact fun aa ww hb he hd => ob_plain rfl (gives_move _ rfl ⟨he.2.2.2.1, Below.refl _ _⟩)
                      · exact fun aa ww hb he hd => ob_plain rfl (idx_xs (by omega) rfl hd.1 hd.2.1)
                      · exact fun aa ww hb he hd => ob_plain rfl (load_n rfl hd.1 (CJ.out _ (bthen HB.out hb HB.out.size)))
                      · exact fun aa ww hb he hd => ob_plain rfl (gives_call3 _ _ _ _ _ rfl (by kernel_rfl) (by rw [show aa.eval (.tmp 95) = .agg #[.int .i64 ((n : Int)), .slice A len c] from hd.1, show aa.eval (.tmp 99) = .int .i64 ((yi : Int)) from hd.2.1, show aa.eval (.tmp 103) = .int .i64 ((yj : Int)) from hd.2.2.1]; exact rv_one (AD.out _ (bthen HB.out hb HB.out.size))))
                      · exact fun aa ww hb he hd => ob_plain rfl (gives_not lb _ _ rfl hd.1 ⟨rfl, Below.refl _ _⟩)
                    intro vs w6 hb hR
                    have e105 : vs 10 = .bool (!lb) := hR 10 (by decide)
                    clear hR
                    simp only [putsL, Nat.zero_add, Nat.reduceAdd, List.take_succ_cons, List.take_zero, Act.put, List.setIfInBounds_toArray, List.set_cons_zero, List.set_cons_succ]
                    rw [e105]
                    clear e105
                    rw [← hnl]
                    clear hnl
                    replace HG := Lib.hid (HG.out.new hb)
                    replace HB := Lib.hid (bthen HB.out hb HB.out.size)
                    clear hb
                    cases nl
                    · go_wp2_with fail
                      exact ⟨⟨j + 1, _, _, by go_num, by omega, by first | rfl | (simp; done), by first | rfl | (simp; done), Lib.hid ⟨HCB2.out, HYB2.out, HB.out, HG.out⟩⟩, by simp [intOf]; omega⟩
                    · go_wp2_with fail
                      exact ⟨⟨j + 1, _, _, by go_num, by omega, by first | rfl | (simp; done), by first | rfl | (simp; done), Lib.hid ⟨HCB2.out, HYB2.out, HB.out, HG.out⟩⟩, by simp [intOf]; omega⟩
                  · go_upto_region 18 with (fail)
                    refine wp_region_each (kss := [[], [], [], [(1, 96), (2, 97)], [(3, 98)], [], [], [(5, 100), (6, 101)], [(7, 102)], [(0, 95), (4, 99), (8, 103)], [(9, 104)]]) [(2, .pointer (some ⟨w.heap.size, 0, none⟩)), (1, .slice (some ad) m d), (9, .int .i64 ((i : Int))), (10, .int .i64 ((j : Int)))] [fun zz _ => zz = .agg #[.int .i64 ((n : Int)), .slice A len c], fun zz _ => zz = .slice (some ad) m d, fun zz _ => zz = .int .i64 ((i : Int)), fun zz _ => zz = .pointer (some (Addr.add ad i)), fun zz _ => zz = .int .i64 ((yi : Int)), fun zz _ => zz = .slice (some ad) m d, fun zz _ => zz = .int .i64 ((j : Int)), fun zz _ => zz = .pointer (some (Addr.add ad j)), fun zz _ => zz = .int .i64 ((yj : Int)), fun zz _ => zz = .bool lb, fun zz _ => zz = .bool (!lb)] (by kernel_rfl) (by kernel_rfl) ⟨rfl, rfl, rfl, rfl, trivial⟩ ?_ ?_ ?_
                    · exact ⟨fun _ _ _ h _ => h, fun _ _ _ h _ => h, fun _ _ _ h _ => h, fun _ _ _ h _ => h, fun _ _ _ h _ => h, fun _ _ _ h _ => h, fun _ _ _ h _ => h, fun _ _ _ h _ => h, fun _ _ _ h _ => h, fun _ _ _ h _ => h, fun _ _ _ h _ => h, trivial⟩
                    · refine ⟨?_, ?_, ?_, ?_, ?_, ?_, ?_, ?_, ?_, ?_, ?_, trivial⟩
                      · exact fun aa ww hb he hd => ob_plain rfl (load_rg rfl rfl he.1 (GB.new HG.out hb))
                      · exact fun aa ww hb he hd => ob_plain rfl (gives_move _ rfl ⟨he.2.1, Below.refl _ _⟩)
                      · exact fun aa ww hb he hd => ob_plain rfl (gives_move _ rfl ⟨he.2.2.1, Below.refl _ _⟩)
                      · exact fun aa ww hb he hd => ob_plain rfl (idx_xs (by omega) rfl hd.1 hd.2.1)
                      · exact fun aa ww hb he hd => ob_plain rfl (load_n rfl hd.1 (CI.out _ (bthen HB.out hb HB.out.size)))
                      · exact fun aa ww hb he hd => ob_plain rfl (gives_move _ rfl ⟨he.2.1, Below.refl _ _⟩)
                      · exact fun aa ww hb he hd => ob_plain rfl (gives_move _ rfl ⟨he.2.2.2.1, Below.refl _ _⟩)
                      · exact fun aa ww hb he hd => ob_plain rfl (idx_xs (by omega) rfl hd.1 hd.2.1)
                      · exact fun aa ww hb he hd => ob_plain rfl (load_n rfl hd.1 (CJ.out _ (bthen HB.out hb HB.out.size)))
                      · exact fun aa ww hb he hd => ob_plain rfl (gives_call3 _ _ _ _ _ rfl (by kernel_rfl) (by rw [show aa.eval (.tmp 95) = .agg #[.int .i64 ((n : Int)), .slice A len c] from hd.1, show aa.eval (.tmp 99) = .int .i64 ((yi : Int)) from hd.2.1, show aa.eval (.tmp 103) = .int .i64 ((yj : Int)) from hd.2.2.1]; exact rv_one (AD.out _ (bthen HB.out hb HB.out.size))))
                      · exact fun aa ww hb he hd => ob_plain rfl (gives_not lb _ _ rfl hd.1 ⟨rfl, Below.refl _ _⟩)
                    intro vs w6 hb hR
                    have e105 : vs 10 = .bool (!lb) := hR 10 (by decide)
                    clear hR
                    simp only [putsL, Nat.zero_add, Nat.reduceAdd, List.take_succ_cons, List.take_zero, Act.put, List.setIfInBounds_toArray, List.set_cons_zero, List.set_cons_succ]
                    rw [e105]
                    clear e105
                    rw [← hnl]
                    clear hnl
                    replace HG := Lib.hid (HG.out.new hb)
                    replace HB := Lib.hid (bthen HB.out hb HB.out.size)
                    clear hb
                    cases nl
                    · go_wp2_with fail
                      exact ⟨⟨j + 1, _, _, by go_num, by omega, by first | rfl | (simp; done), by first | rfl | (simp; done), Lib.hid ⟨HCB2.out, HYB2.out, HB.out, HG.out⟩⟩, by simp [intOf]; omega⟩
                    · go_wp2_with fail
                      exact ⟨⟨j + 1, _, _, by go_num, by omega, by first | rfl | (simp; done), by first | rfl | (simp; done), Lib.hid ⟨HCB2.out, HYB2.out, HB.out, HG.out⟩⟩, by simp [intOf]; omega⟩
              · obtain rfl : j = i := by omega
                go_wp2_with fail
                exact ⟨⟨j + 1, cb, yb, by go_num, by omega, rfl, rfl, Lib.hid ⟨by rw [HJ.out.1, cliTo_succ], by rw [HJ.out.2.1, cycTo_succ], HJ.out.2.2⟩⟩, by simp [intOf]; omega⟩
          · obtain rfl : m = i := by omega
            have HF := Lib.hid (HDONE.out wr HI.out.2.2.1 cb yb HI.out.1 HI.out.2.1)
            cases cb <;> cases yb
            all_goals
              go_wp2_with fail
              go_ret
              exact HF.out
end Go.Proofs.Ytkiahnffepbgpaa
