/-
Contracts of the reference's least, column, zeros, Feasible and Dual. Printed by gen/srf.py.
Plain: an optimum of a problem in two variables lies at the crossing of two lines.
Lines of the reference's Best: bounds of the fractions, rows of lines, contract of minus.
Contract of the reference's lines. Regions printed by gen/sbl.py.
-/
import Derived.Test.YtamcibmjpmibdaaK13
import Derived.Test.YtamcibmjpmibdaaK15
import Derived.Test.YtamcibmjpmibdaaK11
namespace Go.Proofs.Ytamcibmjpmibdaa
open Go.RowKit
set_option linter.unusedVariables false
set_option linter.unusedSimpArgs false

section
variable {w : World} {n m k : Nat} {QC QA QB : Option Addr} {Qr : Nat → Option Addr} {ln qp : Nat → Nat} {A : Nat → Nat → Rat} {C B : Nat → Rat}
theorem RqW.flat (h : RqW w n m k QC QA QB Qr ln qp A C B) (hl : ∀ i, i < m → ln i = n) : RqW w n m k QC QA QB Qr (fun _ => n) qp A C B := by
  refine ⟨h.c, ?_, fun i hi => by rw [← hl i hi]; exact h.row i hi, h.b⟩
  have e : rwL Qr ln qp m = rwL Qr (fun _ => n) qp m := List.map_congr_left fun i hi => by rw [hl i (List.mem_range.1 hi)]
  rw [← e]; exact h.a
theorem RqW.cell {ad : Addr} (h : RqW w n m k QC (some ad) QB Qr ln qp A C B) {i : Nat} (hi : i < m) : w.cell? (ad.add i) = some (.slice (Qr i) (ln i) (qp i)) := by
  obtain ⟨ad', e, _, hc⟩ := h.at_ hi
  cases e
  exact hc
variable {o : Oper} {a : Act} {t : Tmp}
theorem idx_qrows {ad : Addr} {n c k : Nat} {y : Operand} (hk : k < n) (ho : o.op = .indexAddr 33 (.tmp t) y) (h : tv a t = .slice (some ad) n c) (h2 : a.eval y = .int .i64 (k : Int)) : gives Try.prog o a.eval w (fun v w' => v = .pointer (some (ad.add k)) ∧ Below w.heap.size w w') := by
  refine gives_val (.pointer (some (ad.add k))) ?_ ⟨rfl, Below.refl _ _⟩
  have i1 : (0 : Int) ≤ (k : Int) := by omega
  have i2 : (k : Int) < (n : Int) := by omega
  unfold execOp
  rw [ho]
  simp only [eval_tmp, h, h2]
  go_simp
end
set_option maxRecDepth 100000 in
set_option maxHeartbeats 8000000 in
theorem rleast_any (n c : Nat) (A : Option Addr) (f : Nat → Rat) (w : World) (hA : Reads w w.heap.size 2 A n (qsL f n)) (hS : ∀ i, i < n → Sm (f i)) (hn1 : n ≤ 1000000) :
    Calls Try.prog 83 #[.slice A n c] w (BRet (∀ i, i < n → 0 ≤ f i) w) := by
  have HA := Lib.hid hA; have HS := Lib.hid hS; clear hA hS
  go_enter Try.func83, Try.ntmps83
  go_wp2_with fail
  go_loopg [3] n (fun q iv wr => ∃ k : Nat, iv = .int .i64 k ∧ k + q = n ∧ Hid ((∀ i, i < k → 0 ≤ f i) ∧ Below w.heap.size w wr))
  case atStart => exact ⟨0, rfl, by omega, Lib.hid ⟨fun i hi => absurd hi (by omega), Below.refl _ _⟩⟩
  case round =>
    obtain ⟨k, rfl, hkn, HI⟩ := hrel
    have HP := Lib.hid HI.out.1
    have HB := Lib.hid HI.out.2
    clear HI
    by_cases hk : k < n
    · obtain ⟨ad, rfl, -⟩ := Reads.pr HA.out hk
      have i1 : ((k : Int) < (n : Int)) := by omega
      go_upto_region 4 with (fail)
      by_cases hp : 0 ≤ f k
      · have hs : decide (rcq (f k) 0 < 0) = false := rcq_ltd.trans (decide_eq_false (by grind))
        refine wp_region_each (kss := [[], [], [(0, 10), (1, 11)], [(2, 12)], [], [(3, 13), (4, 14)], [(5, 15)]]) [(0, .slice ((some ad)) n c), (3, .int .i64 ((k : Int)))] [EV (.slice ((some ad)) n c), EV (.int .i64 ((k : Int))), EV (.pointer (some (Addr.add ad (k * 2)))), EV (QL (f k)), EV (QL (0)), EV (.int .i64 (rcq (f k) 0)), EV (.bool false)] (by kernel_rfl) (by kernel_rfl) ⟨rfl, rfl, trivial⟩ ?_ ?_ ?_
        · exact ⟨eI, eI, eI, eI, eI, eI, eI, trivial⟩
        · refine ⟨?_, ?_, ?_, ?_, ?_, ?_, ?_, trivial⟩
          · exact fun _ _ _ he hd => ob_mv rfl rfl he.1
          · exact fun _ _ _ he hd => ob_mv rfl rfl he.2.1
          · exact fun aa ww hb he hd => ob_plain rfl (idx_qs (by omega) rfl hd.1 hd.2.1)
          · exact fun aa ww hb he hd => ob_plain rfl (load_qs rfl hd.1 (((HA.out.below HB.out).more HB.out.size).below hb) (by omega))
          · exact fun aa ww hb he hd => ob_plain rfl (gives_call0 _ _ rfl (by kernel_rfl) (rv_one (rzero_any _)))
          · exact fun aa ww hb he hd => ob_plain rfl (gives_call2 _ _ _ _ rfl (by kernel_rfl) (rcmp_v (x := f k) (y := 0) (HS.out k (by omega)) (⟨by decide, by decide⟩ : Sm 0) _ _ hd.1 hd.2.1 _))
          · exact fun aa ww hb he hd => ob_plain rfl (gives_lt_int (rcq (f k) 0) 0 .i64 _ _ _ _ rfl hd.1 rfl ⟨congrArg Value.bool (hs), Below.refl _ _⟩)
        intro vs w3 hb hR
        have e16 : vs 6 = .bool false := hR 6 (by decide)
        clear hR
        simp only [putsL, Nat.zero_add, Nat.reduceAdd, List.take_succ_cons, List.take_zero, Act.put, List.setIfInBounds_toArray, List.set_cons_zero, List.set_cons_succ]
        rw [e16]
        clear e16
        go_wp2_with fail
        go_roundg (gk - 1)
        case measure => omega
        case rel => exact ⟨k + 1, by go_num, by omega, Lib.hid ⟨fun i hi => by
          by_cases hik : i = k
          · rw [hik]; exact hp
          · exact HP.out i (by omega), bthen HB.out hb HB.out.size⟩⟩
      · have hs : decide (rcq (f k) 0 < 0) = true := rcq_ltd.trans (decide_eq_true (by grind))
        refine wp_region_each (kss := [[], [], [(0, 10), (1, 11)], [(2, 12)], [], [(3, 13), (4, 14)], [(5, 15)]]) [(0, .slice ((some ad)) n c), (3, .int .i64 ((k : Int)))] [EV (.slice ((some ad)) n c), EV (.int .i64 ((k : Int))), EV (.pointer (some (Addr.add ad (k * 2)))), EV (QL (f k)), EV (QL (0)), EV (.int .i64 (rcq (f k) 0)), EV (.bool true)] (by kernel_rfl) (by kernel_rfl) ⟨rfl, rfl, trivial⟩ ?_ ?_ ?_
        · exact ⟨eI, eI, eI, eI, eI, eI, eI, trivial⟩
        · refine ⟨?_, ?_, ?_, ?_, ?_, ?_, ?_, trivial⟩
          · exact fun _ _ _ he hd => ob_mv rfl rfl he.1
          · exact fun _ _ _ he hd => ob_mv rfl rfl he.2.1
          · exact fun aa ww hb he hd => ob_plain rfl (idx_qs (by omega) rfl hd.1 hd.2.1)
          · exact fun aa ww hb he hd => ob_plain rfl (load_qs rfl hd.1 (((HA.out.below HB.out).more HB.out.size).below hb) (by omega))
          · exact fun aa ww hb he hd => ob_plain rfl (gives_call0 _ _ rfl (by kernel_rfl) (rv_one (rzero_any _)))
          · exact fun aa ww hb he hd => ob_plain rfl (gives_call2 _ _ _ _ rfl (by kernel_rfl) (rcmp_v (x := f k) (y := 0) (HS.out k (by omega)) (⟨by decide, by decide⟩ : Sm 0) _ _ hd.1 hd.2.1 _))
          · exact fun aa ww hb he hd => ob_plain rfl (gives_lt_int (rcq (f k) 0) 0 .i64 _ _ _ _ rfl hd.1 rfl ⟨congrArg Value.bool (hs), Below.refl _ _⟩)
        intro vs w3 hb hR
        have e16 : vs 6 = .bool true := hR 6 (by decide)
        clear hR
        simp only [putsL, Nat.zero_add, Nat.reduceAdd, List.take_succ_cons, List.take_zero, Act.put, List.setIfInBounds_toArray, List.set_cons_zero, List.set_cons_succ]
        rw [e16]
        clear e16
        go_wp2_with fail
        go_ret
        exact ⟨false, rfl, bthen HB.out hb HB.out.size, f_iff (fun h => hp (h k hk))⟩
    · obtain rfl : n = k := by omega
      go_wp2_with fail
      go_ret
      exact ⟨true, rfl, HB.out, t_iff HP.out⟩
set_option maxRecDepth 100000 in
set_option maxHeartbeats 8000000 in
theorem rcolumn_any (n m k j qc qa qb : Nat) (QC QA QB : Option Addr) (Qr : Nat → Option Addr) (qp : Nat → Nat) (A : Nat → Nat → Rat) (C B : Nat → Rat) (w : World) (hP : RqW w n m k QC QA QB Qr (fun _ => n) qp A C B) (hj : j < n) (hm : m ≤ 1000000) :
    Calls Try.prog 84 #[.agg #[.slice QC n qc, .slice QA m qa, .slice QB k qb], .int .i64 (j : Int)] w (RV w (fun v w' => ∃ (A0 : Option Addr) (c0 : Nat), v = .slice A0 m c0 ∧ Reads w' w'.heap.size 2 A0 m (qsL (fun i => A i j) m))) := by
  have HQ := Lib.hid hP; clear hP
  go_enter Try.func84, Try.ntmps84
  go_upto_region 1 with (fail)
  have HBx := Lib.hid (Blk.new w 35 #[.slice QC n qc, .slice QA m qa, .slice QB k qb])
  have HB := Lib.hid (al w (.cells #[.slice QC n qc, .slice QA m qa, .slice QB k qb] 35))
  obtain ⟨gq, hgq⟩ : ∃ gq, gq = w.heap.size := ⟨_, rfl⟩
  rw [← hgq] at HBx ⊢
  clear hgq
  generalize w.alloc (.cells #[.slice QC n qc, .slice QA m qa, .slice QB k qb] 35) = w1 at *
  go_wp2_with fail
  go_loopg [6, 5] m (fun q iv ov wr => ∃ (i c1 : Nat) (A1 : Option Addr), iv = .int .i64 i ∧ ov = .slice A1 i c1 ∧ i + q = m ∧ Hid (OwnC wr w1.heap.size 58 2 (.slice A1 i c1) i (qsL (fun l => A l j) i) ∧ Below w1.heap.size w1 wr))
  case atStart => exact ⟨0, 0, none, rfl, rfl, by omega, Lib.hid ⟨OwnC.nil _ _ _ _, Below.refl _ _⟩⟩
  case round =>
    obtain ⟨i, c1, A1, rfl, rfl, him, HI⟩ := hrel
    have HO := Lib.hid HI.out.1
    have HB1 := Lib.hid HI.out.2
    clear HI
    have HX := Lib.hid (HBx.out.keep HB1.out)
    have HBr := Lib.hid (bthen HB.out HB1.out HB.out.size)
    have x1 := Blk.at1 HX.out (Below.refl _ _)
    by_cases hi : i < m
    · have i1 : ((i : Int) < (m : Int)) := by omega
      obtain ⟨ad, rfl, -, -⟩ := HQ.out.at_ hi
      obtain ⟨adr, hadr, -⟩ := Reads.pr (HQ.out.row i hi) hj
      go_upto_region 5 with (fail)
      clear x1
      refine wp_region_joins (kss := [[], [], [(1, 15)], [], [(2, 16), (3, 17)], [(4, 18)], [], [(5, 19), (6, 20)], [(7, 21)]]) [(5, .slice A1 i c1), (2, .pointer (some ⟨gq, 0, none⟩)), (6, .int .i64 ((i : Int))), (1, .int .i64 ((j : Int)))] [EV (.slice A1 i c1), EV (.pointer (some ⟨gq, 1, none⟩)), EV (.slice (some ad) m qa), EV (.int .i64 ((i : Int))), EV (.pointer (some (Addr.add ad i))), EV (.slice ((some adr)) n (qp i)), EV (.int .i64 ((j : Int))), EV (.pointer (some (Addr.add adr (j * 2)))), EV (QL ((A i) j))] 9 (by kernel_rfl) ⟨rfl, rfl, rfl, rfl, trivial⟩ [false, false, false, false, false, false, false, false, false] ?_ ?_ ?_
      · exact ⟨eI, eI, eI, eI, eI, eI, eI, eI, eI, trivial⟩
      · refine ⟨?_, ?_, ?_, ?_, ?_, ?_, ?_, ?_, ?_, trivial⟩
        · exact fun _ _ _ he hd => ob_mv rfl rfl he.1
        · exact fun aa ww hb he hd => ob_plain rfl (fld_rpb rfl (by decide) he.2.1)
        · exact fun aa ww hb he hd => ob_plain rfl (load_c33 rfl hd.1 (Blk.at1 HX.out hb))
        · exact fun _ _ _ he hd => ob_mv rfl rfl he.2.2.1
        · exact fun aa ww hb he hd => ob_plain rfl (idx_qrows (by omega) rfl hd.1 hd.2.1)
        · exact fun aa ww hb he hd => ob_plain rfl (load_c32 rfl hd.1 (by have h := RqW.cell (RqW.new HQ.out (bthen HBr.out hb HBr.out.size)) (i := i) (by omega); rw [hadr] at h; exact h))
        · exact fun _ _ _ he hd => ob_mv rfl rfl he.2.2.2.1
        · exact fun aa ww hb he hd => ob_plain rfl (idx_qs (by omega) rfl hd.1 hd.2.1)
        · exact fun aa ww hb he hd => ob_plain rfl (load_qs rfl hd.1 ((by have h := RqW.row (RqW.new HQ.out (bthen HBr.out hb HBr.out.size)) i (by omega); rw [hadr] at h; exact h)) (by omega))
      intro vs w2 hb hR
      have e14 : vs 0 = .slice A1 i c1 := hR 0 (by decide)
      have e22 : vs 8 = QL ((A i) j) := hR 8 (by decide)
      clear hR
      simp only [putsL, Nat.zero_add, Nat.reduceAdd, List.take_succ_cons, List.take_zero, Act.put, List.setIfInBounds_toArray, List.set_cons_zero, List.set_cons_succ]
      rw [e14, e22]
      clear e14 e22
      clear hadr
      show wpOps _ _ _ [9, 10, 11] _ _
      refine wpOps_next rfl rfl (bs_q (y := (A i j).num) (z := ((A i j).den : Int)) rfl rfl ?_)
      simp only [Act.put, List.setIfInBounds_toArray, List.set_cons_zero, List.set_cons_succ]
      refine wpOps_next rfl rfl (wp_app_q _ _ rfl w1.heap.size (.slice A1 i c1) i _ rfl ((HO.out.below hb).alloc _) w2.heap.size _ _ rfl (Blk.new _ _ _) (by omega) (by have := HB1.out.size; have := hb.size; simp; omega) ?_)
      intro v' w3 ho hg hor kp
      have HBa := Lib.hid (show Below w1.heap.size w1 w3 from Below.appended (bthen (bthen HB1.out hb HB1.out.size) (al w2 _) (by have := HB1.out.size; have := hb.size; omega)) ((HO.out.below hb).alloc _).own hg (by have := HB1.out.size; have := hb.size; simp; omega) (Nat.le_refl _))
      obtain ⟨A9, c9, rfl⟩ := own_form ho.own
      have HOa := Lib.hid (show OwnC w3 w1.heap.size 58 2 (.slice A9 (i + 1) c9) (i + 1) (qsL (fun l => A l j) (i + 1)) from ho)
      clear hb ho hg hor kp HO HB1 HX HBr
      simp only [Act.put, List.setIfInBounds_toArray, List.set_cons_zero, List.set_cons_succ]
      refine wpOps_next rfl rfl (wp_assign 5 (.tmp 24) rfl rfl (.slice A9 (i + 1) c9) rfl ?_)
      simp only [Act.put, List.setIfInBounds_toArray, List.set_cons_zero, List.set_cons_succ]
      unfold wpOps
      go_wp2_with fail
      go_roundg (gk - 1)
      case measure => omega
      case rel => exact ⟨i + 1, c9, A9, by go_num, rfl, by omega, Lib.hid ⟨HOa.out, HBa.out⟩⟩
    · obtain rfl : m = i := by omega
      go_wp2_with fail
      go_ret
      exact ⟨_, rfl, ⟨A1, c1, rfl, Reads.of_own HO.out.own⟩, HBr.out⟩
set_option maxRecDepth 100000 in
set_option maxHeartbeats 8000000 in
theorem rfeas_any (n m k kX nl qc qa qb cX cL : Nat) (QC QA QB AX AL : Option Addr) (Qr : Nat → Option Addr) (qp : Nat → Nat) (A : Nat → Nat → Rat) (C B X L : Nat → Rat) (w : World) (hP : RqW w n m k QC QA QB Qr (fun _ => n) qp A C B) (hX : Reads w w.heap.size 2 AX kX (qsL X kX)) (hL : Reads w w.heap.size 2 AL nl (qsL L nl)) (hnl : m ≤ nl) (hSX : ∀ i, i < kX → Sm (X i)) (hSL : ∀ i, i < m → Sm (L i)) (hD : ∀ i, i < m → DotS (A i) X n) (hn : n ≤ 1000) (hm : m ≤ 1000) (hkX : kX ≤ 1000) :
    Calls Try.prog 54 #[.agg #[.slice QC n qc, .slice QA m qa, .slice QB k qb], .slice AX kX cX, .slice AL nl cL] w (BRet (kX = n ∧ Primal n m A L X) w) := by
  have HQ := Lib.hid hP; have HX := Lib.hid hX; have HL := Lib.hid hL; have HSX := Lib.hid hSX; have HSL := Lib.hid hSL; have HD := Lib.hid hD; clear hP hX hL hSX hSL hD
  go_enter Try.func54, Try.ntmps54
  go_upto_region 1 with (fail)
  have HBx := Lib.hid (Blk.new w 35 #[.slice QC n qc, .slice QA m qa, .slice QB k qb])
  have HB := Lib.hid (al w (.cells #[.slice QC n qc, .slice QA m qa, .slice QB k qb] 35))
  obtain ⟨gq, hgq⟩ : ∃ gq, gq = w.heap.size := ⟨_, rfl⟩
  rw [← hgq] at HBx ⊢
  clear hgq
  generalize w.alloc (.cells #[.slice QC n qc, .slice QA m qa, .slice QB k qb] 35) = w1 at *
  by_cases hk : kX = n
  rotate_left
  · have HK := Lib.hid hk; clear hk
    refine wp_region_seq (kss := [[], [(0, 8)], [], [(2, 10)], [(3, 11)], [(1, 9), (4, 12)], [(5, 13)], [(6, 14)], [(6, 14), (7, 15)], [(6, 14), (8, 16)], [(6, 14), (9, 17)]]) [(1, .slice AX kX cX), (3, .pointer (some ⟨gq, 0, none⟩))] [EV (.slice AX kX cX), EV (.int .i64 ((kX : Int))), EV (.pointer (some ⟨gq, 0, none⟩)), EV (.slice QC n qc), EV (.int .i64 ((n : Int))), EV (.bool true), EV (.bool true), EV (undef), EV (undef), EV (undef), EV (.bool true)] (by kernel_rfl) ⟨rfl, rfl, trivial⟩ ?_ ?_ ?_
    · exact ⟨eI, eI, eI, eI, eI, eI, eI, eI, eI, eI, eI, trivial⟩
    · refine ⟨?_, ?_, ?_, ?_, ?_, ?_, ?_, ?_, ?_, ?_, ?_, trivial⟩
      · exact fun _ _ _ he hd => ob_mv rfl rfl he.1
      · exact fun aa ww hb he hd => ob_plain rfl (len_c Try.underlying32 rfl hd.1)
      · exact fun aa ww hb he hd => ob_plain rfl (fld_rpb rfl (by decide) he.2.1)
      · exact fun aa ww hb he hd => ob_plain rfl (load_c32 rfl hd.1 (Blk.at0 HBx.out hb))
      · exact fun aa ww hb he hd => ob_plain rfl (len_c Try.underlying32 rfl hd.1)
      · exact fun aa ww hb he hd => ob_plain rfl (gives_ne_int ((kX : Int)) ((n : Int)) .i64 _ _ _ _ rfl hd.1 hd.2.1 ⟨congrArg Value.bool (by simp; have := HK.out; omega), Below.refl _ _⟩)
      · exact fun _ _ _ he hd => ob_mv rfl rfl hd.1
      · exact fun aa ww hb he hd => ob_off 14 rfl (by kernel_rfl) hd.1 rfl
      · exact fun aa ww hb he hd => ob_off 14 rfl (by kernel_rfl) hd.1 rfl
      · exact fun aa ww hb he hd => ob_off 14 rfl (by kernel_rfl) hd.1 rfl
      · exact fun aa ww hb he hd => ob_plain rfl (gives_pick true _ _ _ rfl hd.1 ⟨rfl, Below.refl _ _⟩)
    intro vs w2 hb hR
    have e18 : vs 10 = .bool true := hR 10 (by decide)
    clear hR
    simp only [putsL, Nat.zero_add, Nat.reduceAdd, List.take_succ_cons, List.take_zero, Act.put, List.setIfInBounds_toArray, List.set_cons_zero, List.set_cons_succ]
    rw [e18]
    clear e18
    go_wp2_with fail
    go_ret
    exact ⟨false, rfl, bthen HB.out hb HB.out.size, f_iff (fun h => HK.out h.1)⟩
  subst kX
  by_cases hp : ∀ l, l < n → 0 ≤ X l
  rotate_left
  · skip
    have HPp := Lib.hid hp
    refine wp_region_seq (kss := [[], [(0, 8)], [], [(2, 10)], [(3, 11)], [(1, 9), (4, 12)], [(5, 13)], [(6, 14)], [(6, 14), (7, 15)], [(6, 14), (8, 16)], [(6, 14), (9, 17)]]) [(1, .slice AX n cX), (3, .pointer (some ⟨gq, 0, none⟩))] [EV (.slice AX n cX), EV (.int .i64 ((n : Int))), EV (.pointer (some ⟨gq, 0, none⟩)), EV (.slice QC n qc), EV (.int .i64 ((n : Int))), EV (.bool false), EV (.bool false), EV (.slice AX n cX), EV (.bool false), EV (.bool true), EV (.bool true)] (by kernel_rfl) ⟨rfl, rfl, trivial⟩ ?_ ?_ ?_
    · exact ⟨eI, eI, eI, eI, eI, eI, eI, eI, eI, eI, eI, trivial⟩
    · refine ⟨?_, ?_, ?_, ?_, ?_, ?_, ?_, ?_, ?_, ?_, ?_, trivial⟩
      · exact fun _ _ _ he hd => ob_mv rfl rfl he.1
      · exact fun aa ww hb he hd => ob_plain rfl (len_c Try.underlying32 rfl hd.1)
      · exact fun aa ww hb he hd => ob_plain rfl (fld_rpb rfl (by decide) he.2.1)
      · exact fun aa ww hb he hd => ob_plain rfl (load_c32 rfl hd.1 (Blk.at0 HBx.out hb))
      · exact fun aa ww hb he hd => ob_plain rfl (len_c Try.underlying32 rfl hd.1)
      · exact fun aa ww hb he hd => ob_plain rfl (gives_ne_int ((n : Int)) ((n : Int)) .i64 _ _ _ _ rfl hd.1 hd.2.1 ⟨congrArg Value.bool (by simp), Below.refl _ _⟩)
      · exact fun _ _ _ he hd => ob_mv rfl rfl hd.1
      · exact fun aa ww hb he hd => ob_on 14 rfl (by kernel_rfl) hd.1 (gives_move _ rfl ⟨he.1, Below.refl _ _⟩)
      · exact fun aa ww hb he hd => ob_on 14 rfl (by kernel_rfl) hd.1 (gives_call1 _ _ _ rfl (by kernel_rfl) (by rw [show aa.eval (.tmp 15) = .slice AX n cX from hd.2.1]; exact ret_t (rleast_any n cX AX X _ ((HX.out.below (bthen HB.out hb HB.out.size)).more (bthen HB.out hb HB.out.size).size) HSX.out (by omega)) (f_iff hp)))
      · exact fun aa ww hb he hd => ob_on 14 rfl (by kernel_rfl) hd.1 (gives_not false _ _ rfl hd.2.1 ⟨rfl, Below.refl _ _⟩)
      · exact fun aa ww hb he hd => ob_plain rfl (gives_pick false _ _ _ rfl hd.1 ⟨hd.2.1, Below.refl _ _⟩)
    intro vs w2 hb hR
    have e18 : vs 10 = .bool true := hR 10 (by decide)
    clear hR
    simp only [putsL, Nat.zero_add, Nat.reduceAdd, List.take_succ_cons, List.take_zero, Act.put, List.setIfInBounds_toArray, List.set_cons_zero, List.set_cons_succ]
    rw [e18]
    clear e18
    clear hp
    go_wp2_with fail
    go_ret
    exact ⟨false, rfl, bthen HB.out hb HB.out.size, by simp; intro h; exact HPp.out h.nonneg⟩
  have HPp := Lib.hid hp
  refine wp_region_seq (kss := [[], [(0, 8)], [], [(2, 10)], [(3, 11)], [(1, 9), (4, 12)], [(5, 13)], [(6, 14)], [(6, 14), (7, 15)], [(6, 14), (8, 16)], [(6, 14), (9, 17)]]) [(1, .slice AX n cX), (3, .pointer (some ⟨gq, 0, none⟩))] [EV (.slice AX n cX), EV (.int .i64 ((n : Int))), EV (.pointer (some ⟨gq, 0, none⟩)), EV (.slice QC n qc), EV (.int .i64 ((n : Int))), EV (.bool false), EV (.bool false), EV (.slice AX n cX), EV (.bool true), EV (.bool false), EV (.bool false)] (by kernel_rfl) ⟨rfl, rfl, trivial⟩ ?_ ?_ ?_
  · exact ⟨eI, eI, eI, eI, eI, eI, eI, eI, eI, eI, eI, trivial⟩
  · refine ⟨?_, ?_, ?_, ?_, ?_, ?_, ?_, ?_, ?_, ?_, ?_, trivial⟩
    · exact fun _ _ _ he hd => ob_mv rfl rfl he.1
    · exact fun aa ww hb he hd => ob_plain rfl (len_c Try.underlying32 rfl hd.1)
    · exact fun aa ww hb he hd => ob_plain rfl (fld_rpb rfl (by decide) he.2.1)
    · exact fun aa ww hb he hd => ob_plain rfl (load_c32 rfl hd.1 (Blk.at0 HBx.out hb))
    · exact fun aa ww hb he hd => ob_plain rfl (len_c Try.underlying32 rfl hd.1)
    · exact fun aa ww hb he hd => ob_plain rfl (gives_ne_int ((n : Int)) ((n : Int)) .i64 _ _ _ _ rfl hd.1 hd.2.1 ⟨congrArg Value.bool (by simp), Below.refl _ _⟩)
    · exact fun _ _ _ he hd => ob_mv rfl rfl hd.1
    · exact fun aa ww hb he hd => ob_on 14 rfl (by kernel_rfl) hd.1 (gives_move _ rfl ⟨he.1, Below.refl _ _⟩)
    · exact fun aa ww hb he hd => ob_on 14 rfl (by kernel_rfl) hd.1 (gives_call1 _ _ _ rfl (by kernel_rfl) (by rw [show aa.eval (.tmp 15) = .slice AX n cX from hd.2.1]; exact ret_t (rleast_any n cX AX X _ ((HX.out.below (bthen HB.out hb HB.out.size)).more (bthen HB.out hb HB.out.size).size) HSX.out (by omega)) (t_iff hp)))
    · exact fun aa ww hb he hd => ob_on 14 rfl (by kernel_rfl) hd.1 (gives_not true _ _ rfl hd.2.1 ⟨rfl, Below.refl _ _⟩)
    · exact fun aa ww hb he hd => ob_plain rfl (gives_pick false _ _ _ rfl hd.1 ⟨hd.2.1, Below.refl _ _⟩)
  intro vs w2 hb hR
  have e18 : vs 10 = .bool false := hR 10 (by decide)
  clear hR
  simp only [putsL, Nat.zero_add, Nat.reduceAdd, List.take_succ_cons, List.take_zero, Act.put, List.setIfInBounds_toArray, List.set_cons_zero, List.set_cons_succ]
  rw [e18]
  clear e18
  clear hp
  have HX2 := Lib.hid (HBx.out.keep hb)
  have HB2 := Lib.hid (bthen HB.out hb HB.out.size)
  clear HBx HB hb
  go_wp2_with fail
  go_loopg [7] m (fun g iv wr => ∃ i : Nat, iv = .int .i64 i ∧ i + g = m ∧ Hid ((∀ l, l < i → sm (fun j => A l j * X j) n ≤ L l) ∧ Blk wr gq 35 #[.slice QC n qc, .slice QA m qa, .slice QB k qb] ∧ Below w.heap.size w wr))
  case atStart => exact ⟨0, rfl, by omega, Lib.hid ⟨fun l hl => absurd hl (by omega), HX2.out, HB2.out⟩⟩
  case round =>
    obtain ⟨i, rfl, him, HI⟩ := hrel
    clear HX2 HB2
    have HS := Lib.hid HI.out.1
    have HBx := Lib.hid HI.out.2.1
    have HB := Lib.hid HI.out.2.2
    clear HI
    have c1 := Blk.at1 HBx.out (Below.refl _ _)
    by_cases hi : i < m
    · have i1 : ((i : Int) < (m : Int)) := by omega
      obtain ⟨ad, rfl, -, -⟩ := (HQ.out.new HB.out).at_ hi
      obtain ⟨adL, rfl, -⟩ := Reads.pr HL.out (show i < nl by omega)
      go_upto_region 6 with (fail)
      clear c1
      by_cases hq0 : L i < sm (fun j => A i j * X j) n
      · have hq : decide (rcq (sm (fun l => A i l * X l) n) (L i) > 0) = true := rcq_gtb.trans (decide_eq_true hq0)
        refine wp_region_each (kss := [[], [(0, 26)], [], [(1, 27), (2, 28)], [(3, 29)], [], [(4, 30), (5, 31)], [], [], [(7, 33), (8, 34)], [(9, 35)], [(6, 32), (10, 36)], [(11, 37)]]) [(3, .pointer (some ⟨gq, 0, none⟩)), (7, .int .i64 ((i : Int))), (1, .slice AX n cX), (2, .slice ((some adL)) nl cL)] [EV (.pointer (some ⟨gq, 1, none⟩)), EV (.slice (some ad) m qa), EV (.int .i64 ((i : Int))), EV (.pointer (some (Addr.add ad i))), EV (.slice ((Qr i)) n (qp i)), EV (.slice AX n cX), EV (QL (sm (fun l => (A i) l * X l) n)), EV (.slice ((some adL)) nl cL), EV (.int .i64 ((i : Int))), EV (.pointer (some (Addr.add adL (i * 2)))), EV (QL (L i)), EV (.int .i64 (rcq (sm (fun l => (A i) l * X l) n) (L i))), EV (.bool true)] (by kernel_rfl) (by kernel_rfl) ⟨rfl, rfl, rfl, rfl, trivial⟩ ?_ ?_ ?_
        · exact ⟨eI, eI, eI, eI, eI, eI, eI, eI, eI, eI, eI, eI, eI, trivial⟩
        · refine ⟨?_, ?_, ?_, ?_, ?_, ?_, ?_, ?_, ?_, ?_, ?_, ?_, ?_, trivial⟩
          · exact fun aa ww hb he hd => ob_plain rfl (fld_rpb rfl (by decide) he.1)
          · exact fun aa ww hb he hd => ob_plain rfl (load_c33 rfl hd.1 (Blk.at1 HBx.out hb))
          · exact fun _ _ _ he hd => ob_mv rfl rfl he.2.1
          · exact fun aa ww hb he hd => ob_plain rfl (idx_qrows (by omega) rfl hd.1 hd.2.1)
          · exact fun aa ww hb he hd => ob_plain rfl (load_c32 rfl hd.1 (RqW.cell (RqW.new HQ.out (bthen HB.out hb HB.out.size)) (i := i) (by omega)))
          · exact fun _ _ _ he hd => ob_mv rfl rfl he.2.2.1
          · exact fun aa ww hb he hd => ob_plain rfl (gives_call2 _ _ _ _ rfl (by kernel_rfl) (by rw [show aa.eval (.tmp 30) = .slice ((Qr i)) n (qp i) from hd.1, show aa.eval (.tmp 31) = .slice AX n cX from hd.2.1]; exact rdot_any n n (qp i) cX (Qr i) AX (A i) X _ (RqW.row (RqW.new HQ.out (bthen HB.out hb HB.out.size)) i (by omega)) ((HX.out.below (bthen HB.out hb HB.out.size)).more (bthen HB.out hb HB.out.size).size) (by omega) (by omega) (HD.out i (by omega))))
          · exact fun _ _ _ he hd => ob_mv rfl rfl he.2.2.2.1
          · exact fun _ _ _ he hd => ob_mv rfl rfl he.2.1
          · exact fun aa ww hb he hd => ob_plain rfl (idx_qs (by omega) rfl hd.1 hd.2.1)
          · exact fun aa ww hb he hd => ob_plain rfl (load_qs rfl hd.1 ((HL.out.below (bthen HB.out hb HB.out.size)).more (bthen HB.out hb HB.out.size).size) (by omega))
          · exact fun aa ww hb he hd => ob_plain rfl (gives_call2 _ _ _ _ rfl (by kernel_rfl) (rcmp_v (x := sm (fun l => (A i) l * X l) n) (y := L i) ((HD.out i (by omega)).h4 n (Nat.le_refl _)) (HSL.out i (by omega)) _ _ hd.1 hd.2.1 _))
          · exact fun aa ww hb he hd => ob_plain rfl (gives_gt_int (rcq (sm (fun l => (A i) l * X l) n) (L i)) 0 .i64 _ _ _ _ rfl hd.1 rfl ⟨congrArg Value.bool (hq), Below.refl _ _⟩)
        intro vs w4 hb hR
        have e38 : vs 12 = .bool true := hR 12 (by decide)
        clear hR
        simp only [putsL, Nat.zero_add, Nat.reduceAdd, List.take_succ_cons, List.take_zero, Act.put, List.setIfInBounds_toArray, List.set_cons_zero, List.set_cons_succ]
        rw [e38]
        clear e38
        go_wp2_with fail
        go_ret
        exact ⟨false, rfl, bthen HB.out hb HB.out.size, by simp; intro h; have := h.le i hi; grind⟩
      · have hq : decide (rcq (sm (fun l => A i l * X l) n) (L i) > 0) = false := rcq_gtb.trans (decide_eq_false hq0)
        refine wp_region_each (kss := [[], [(0, 26)], [], [(1, 27), (2, 28)], [(3, 29)], [], [(4, 30), (5, 31)], [], [], [(7, 33), (8, 34)], [(9, 35)], [(6, 32), (10, 36)], [(11, 37)]]) [(3, .pointer (some ⟨gq, 0, none⟩)), (7, .int .i64 ((i : Int))), (1, .slice AX n cX), (2, .slice ((some adL)) nl cL)] [EV (.pointer (some ⟨gq, 1, none⟩)), EV (.slice (some ad) m qa), EV (.int .i64 ((i : Int))), EV (.pointer (some (Addr.add ad i))), EV (.slice ((Qr i)) n (qp i)), EV (.slice AX n cX), EV (QL (sm (fun l => (A i) l * X l) n)), EV (.slice ((some adL)) nl cL), EV (.int .i64 ((i : Int))), EV (.pointer (some (Addr.add adL (i * 2)))), EV (QL (L i)), EV (.int .i64 (rcq (sm (fun l => (A i) l * X l) n) (L i))), EV (.bool false)] (by kernel_rfl) (by kernel_rfl) ⟨rfl, rfl, rfl, rfl, trivial⟩ ?_ ?_ ?_
        · exact ⟨eI, eI, eI, eI, eI, eI, eI, eI, eI, eI, eI, eI, eI, trivial⟩
        · refine ⟨?_, ?_, ?_, ?_, ?_, ?_, ?_, ?_, ?_, ?_, ?_, ?_, ?_, trivial⟩
          · exact fun aa ww hb he hd => ob_plain rfl (fld_rpb rfl (by decide) he.1)
          · exact fun aa ww hb he hd => ob_plain rfl (load_c33 rfl hd.1 (Blk.at1 HBx.out hb))
          · exact fun _ _ _ he hd => ob_mv rfl rfl he.2.1
          · exact fun aa ww hb he hd => ob_plain rfl (idx_qrows (by omega) rfl hd.1 hd.2.1)
          · exact fun aa ww hb he hd => ob_plain rfl (load_c32 rfl hd.1 (RqW.cell (RqW.new HQ.out (bthen HB.out hb HB.out.size)) (i := i) (by omega)))
          · exact fun _ _ _ he hd => ob_mv rfl rfl he.2.2.1
          · exact fun aa ww hb he hd => ob_plain rfl (gives_call2 _ _ _ _ rfl (by kernel_rfl) (by rw [show aa.eval (.tmp 30) = .slice ((Qr i)) n (qp i) from hd.1, show aa.eval (.tmp 31) = .slice AX n cX from hd.2.1]; exact rdot_any n n (qp i) cX (Qr i) AX (A i) X _ (RqW.row (RqW.new HQ.out (bthen HB.out hb HB.out.size)) i (by omega)) ((HX.out.below (bthen HB.out hb HB.out.size)).more (bthen HB.out hb HB.out.size).size) (by omega) (by omega) (HD.out i (by omega))))
          · exact fun _ _ _ he hd => ob_mv rfl rfl he.2.2.2.1
          · exact fun _ _ _ he hd => ob_mv rfl rfl he.2.1
          · exact fun aa ww hb he hd => ob_plain rfl (idx_qs (by omega) rfl hd.1 hd.2.1)
          · exact fun aa ww hb he hd => ob_plain rfl (load_qs rfl hd.1 ((HL.out.below (bthen HB.out hb HB.out.size)).more (bthen HB.out hb HB.out.size).size) (by omega))
          · exact fun aa ww hb he hd => ob_plain rfl (gives_call2 _ _ _ _ rfl (by kernel_rfl) (rcmp_v (x := sm (fun l => (A i) l * X l) n) (y := L i) ((HD.out i (by omega)).h4 n (Nat.le_refl _)) (HSL.out i (by omega)) _ _ hd.1 hd.2.1 _))
          · exact fun aa ww hb he hd => ob_plain rfl (gives_gt_int (rcq (sm (fun l => (A i) l * X l) n) (L i)) 0 .i64 _ _ _ _ rfl hd.1 rfl ⟨congrArg Value.bool (hq), Below.refl _ _⟩)
        intro vs w4 hb hR
        have e38 : vs 12 = .bool false := hR 12 (by decide)
        clear hR
        simp only [putsL, Nat.zero_add, Nat.reduceAdd, List.take_succ_cons, List.take_zero, Act.put, List.setIfInBounds_toArray, List.set_cons_zero, List.set_cons_succ]
        rw [e38]
        clear e38
        have HQn := Lib.hid (HBx.out.keep hb)
        have HBn := Lib.hid (bthen HB.out hb HB.out.size)
        clear hq hb HBx HB
        go_wp2_with fail
        go_roundg (gk - 1)
        case measure => omega
        case rel => exact ⟨i + 1, by go_num, by omega, Lib.hid ⟨fun l hl => by
          by_cases hli : l = i
          · rw [hli]; grind
          · exact HS.out l (by omega), HQn.out, HBn.out⟩⟩
    · obtain rfl : m = i := by omega
      go_wp2_with fail
      go_ret
      exact ⟨true, rfl, HB.out, by simp; exact ⟨HPp.out, HS.out⟩⟩
end Go.Proofs.Ytamcibmjpmibdaa
namespace Go.Proofs.Ytamcibmjpmibdaa
set_option linter.unusedVariables false

section
variable (a b c : Nat → Rat)
/-- A point that all of the first M lines allow. -/
def Fs (M : Nat) (x y : Rat) : Prop := ∀ l, l < M → a l * x + b l * y ≤ c l
/-- From a point along a direction up to the first line. -/
theorem walk_line {x y d e : Rat} : ∀ M, Fs a b c M x y → (∀ l, l < M → a l * d + b l * e ≤ 0) ∨ ∃ t l, 0 ≤ t ∧ l < M ∧ 0 < a l * d + b l * e ∧ Fs a b c M (x + t * d) (y + t * e) ∧ a l * (x + t * d) + b l * (y + t * e) = c l
  | 0, _ => .inl fun l hl => by omega
  | M + 1, h => by
    have hM := h M (by omega)
    have ih := walk_line (d := d) (e := e) M (fun l hl => h l (by omega))
    have sp : ∀ l t, a l * (x + t * d) + b l * (y + t * e) = (a l * x + b l * y) + t * (a l * d + b l * e) := by intro l t; grind
    by_cases hp : 0 < a M * d + b M * e
    · obtain ⟨s, hs⟩ : ∃ s, s = (c M - (a M * x + b M * y)) / (a M * d + b M * e) := ⟨_, rfl⟩
      have hs0 : s * (a M * d + b M * e) = c M - (a M * x + b M * y) := by
        rw [hs, Rat.div_mul_cancel]; exact fun h0 => by rw [h0] at hp; grind
      have hsn : 0 ≤ s := by
        rw [hs, Rat.div_def]
        exact Rat.mul_nonneg (by grind) (Rat.le_of_lt (Rat.inv_pos.2 hp))
      have hst : a M * (x + s * d) + b M * (y + s * e) = c M := by rw [sp]; grind
      have mono : ∀ l t, t ≤ s → l = M → a l * (x + t * d) + b l * (y + t * e) ≤ c l := by
        intro l t ht hl
        subst hl
        rw [sp, ← hst, sp]
        have := Rat.mul_le_mul_of_nonneg_right ht (Rat.le_of_lt hp)
        grind
      rcases ih with ih | ⟨t, l, t0, hl, hlp, hf, he⟩
      · refine .inr ⟨s, M, hsn, by omega, hp, ?_, hst⟩
        intro l hl
        by_cases hlm : l = M
        · rw [hlm]; rw [hst]; exact Rat.le_refl
        · have h1 := ih l (by omega)
          have h2 := h l hl
          rw [sp]
          have := Rat.mul_le_mul_of_nonneg_left h1 hsn
          grind
      · by_cases hts : t ≤ s
        · refine .inr ⟨t, l, t0, by omega, hlp, ?_, he⟩
          intro k hk
          by_cases hkm : k = M
          · exact mono k t hts hkm
          · exact hf k (by omega)
        · have hts' : s ≤ t := by grind
          refine .inr ⟨s, M, hsn, by omega, hp, ?_, hst⟩
          intro k hk
          by_cases hkm : k = M
          · exact mono k s Rat.le_refl hkm
          · have h1 := hf k (by omega)
            have h2 := h k hk
            rw [sp] at h1 ⊢
            by_cases hk0 : a k * d + b k * e ≤ 0
            · have := Rat.mul_le_mul_of_nonneg_left hk0 hsn
              grind
            · have := Rat.mul_le_mul_of_nonneg_right hts' (show 0 ≤ a k * d + b k * e by grind)
              grind
    · have hp' : a M * d + b M * e ≤ 0 := by grind
      rcases ih with ih | ⟨t, l, t0, hl, hlp, hf, he⟩
      · refine .inl fun l hl => ?_
        by_cases hlm : l = M
        · rw [hlm]; exact hp'
        · exact ih l (by omega)
      · refine .inr ⟨t, l, t0, by omega, hlp, ?_, he⟩
        intro k hk
        by_cases hkm : k = M
        · rw [hkm, sp]
          have := Rat.mul_le_mul_of_nonneg_left hp' t0
          grind
        · exact hf k (by omega)
/-- Along a direction in which the objective does not fall, up to a line; the objective has the upper bound v. -/
theorem walk_opt {C D v x y d e : Rat} {M : Nat} (hb : ∀ x y, Fs a b c M x y → C * x + D * y ≤ v) (h : Fs a b c M x y) (hv : C * x + D * y = v) (hd : 0 ≤ C * d + D * e) (hh : 0 < C * d + D * e ∨ ∃ l, l < M ∧ 0 < a l * d + b l * e) :
    ∃ t l, 0 ≤ t ∧ l < M ∧ 0 < a l * d + b l * e ∧ Fs a b c M (x + t * d) (y + t * e) ∧ a l * (x + t * d) + b l * (y + t * e) = c l ∧ C * (x + t * d) + D * (y + t * e) = v := by
  have sp : ∀ t, C * (x + t * d) + D * (y + t * e) = v + t * (C * d + D * e) := by intro t; grind
  rcases walk_line a b c (x := x) (y := y) (d := d) (e := e) M h with hn | ⟨t, l, t0, hl, hlp, hf, he⟩
  · rcases hh with h1 | ⟨l, hl, hp⟩
    · have hf : Fs a b c M (x + 1 * d) (y + 1 * e) := by
        intro l hl
        have h1 := hn l hl
        have h2 := h l hl
        grind
      have := hb _ _ hf
      rw [sp] at this
      grind
    · have := hn l hl; grind
  · refine ⟨t, l, t0, hl, hlp, hf, he, ?_⟩
    have h1 := hb _ _ hf
    rw [sp] at h1 ⊢
    have h2 := Rat.mul_le_mul_of_nonneg_left hd t0
    grind
theorem nz {p q d e : Rat} (h : 0 < p * d + q * e) : p ≠ 0 ∨ q ≠ 0 := by
  by_cases h0 : p = 0
  · exact .inr fun h9 => by rw [h0, h9] at h; grind
  · exact .inl h0
/-- An optimum at the crossing of two lines. The first two lines are those of the axes. -/
theorem vertex_opt {C D v x y : Rat} {M : Nat} (h2M : 2 ≤ M) (a0 : a 0 = -1) (b0 : b 0 = 0) (a1 : a 1 = 0) (b1 : b 1 = -1) (hb : ∀ x y, Fs a b c M x y → C * x + D * y ≤ v) (h : Fs a b c M x y) (hv : C * x + D * y = v) :
    ∃ x y l k, l < M ∧ k < M ∧ a l * b k - a k * b l ≠ 0 ∧ Fs a b c M x y ∧ a l * x + b l * y = c l ∧ a k * x + b k * y = c k ∧ C * x + D * y = v := by
  obtain ⟨x, y, l, hl, hne, h, ht, hv⟩ : ∃ x y l, l < M ∧ (a l ≠ 0 ∨ b l ≠ 0) ∧ Fs a b c M x y ∧ a l * x + b l * y = c l ∧ C * x + D * y = v := by
    by_cases hC : C ≤ 0
    · obtain ⟨t, l, _, hl, hp, h1, h2, h3⟩ := walk_opt a b c hb h hv (d := -1) (e := 0) (by grind) (.inr ⟨0, by omega, by rw [a0, b0]; grind⟩)
      exact ⟨_, _, l, hl, (nz hp), h1, h2, h3⟩
    · obtain ⟨t, l, _, hl, hp, h1, h2, h3⟩ := walk_opt a b c hb h hv (d := 1) (e := 0) (by grind) (.inl (by grind))
      exact ⟨_, _, l, hl, (nz hp), h1, h2, h3⟩
  have fin : ∀ d e : Rat, a l * d + b l * e = 0 → (d = b l ∧ e = - a l ∨ d = - b l ∧ e = a l) → 0 ≤ C * d + D * e → (0 < C * d + D * e ∨ ∃ l, l < M ∧ 0 < a l * d + b l * e) → ∃ x y l k, l < M ∧ k < M ∧ a l * b k - a k * b l ≠ 0 ∧ Fs a b c M x y ∧ a l * x + b l * y = c l ∧ a k * x + b k * y = c k ∧ C * x + D * y = v := by
    intro d e h0 hde hd hh
    obtain ⟨t, k, _, hk, hp, h1, h2, h3⟩ := walk_opt a b c hb h hv hd hh
    refine ⟨_, _, l, k, hl, hk, ?_, h1, ?_, h2, h3⟩
    · intro hz
      rcases hde with ⟨rfl, rfl⟩ | ⟨rfl, rfl⟩ <;> grind
    · rw [← ht]; rcases hde with ⟨rfl, rfl⟩ | ⟨rfl, rfl⟩ <;> grind
  rcases Rat.le_total (a := 0) (b := C * b l + D * (- a l)) with hs | hs
  · by_cases hz : C * b l + D * (- a l) = 0
    · by_cases hn : b l < 0 ∨ - a l < 0
      · refine fin (b l) (- a l) (by grind) (.inl ⟨rfl, rfl⟩) hs (.inr ?_)
        rcases hn with hn | hn
        · exact ⟨0, by omega, by rw [a0, b0]; grind⟩
        · exact ⟨1, by omega, by rw [a1, b1]; grind⟩
      · refine fin (- b l) (a l) (by grind) (.inr ⟨rfl, rfl⟩) (by grind) (.inr ?_)
        by_cases hbl : b l = 0
        · exact ⟨1, by omega, by rw [a1, b1]; have := hne.resolve_right (fun h => h hbl); grind⟩
        · exact ⟨0, by omega, by rw [a0, b0]; grind⟩
    · exact fin (b l) (- a l) (by grind) (.inl ⟨rfl, rfl⟩) hs (.inl (by grind))
  · by_cases hz : C * b l + D * (- a l) = 0
    · by_cases hn : b l < 0 ∨ - a l < 0
      · refine fin (b l) (- a l) (by grind) (.inl ⟨rfl, rfl⟩) (by grind) (.inr ?_)
        rcases hn with hn | hn
        · exact ⟨0, by omega, by rw [a0, b0]; grind⟩
        · exact ⟨1, by omega, by rw [a1, b1]; grind⟩
      · refine fin (- b l) (a l) (by grind) (.inr ⟨rfl, rfl⟩) (by grind) (.inr ?_)
        by_cases hbl : b l = 0
        · exact ⟨1, by omega, by rw [a1, b1]; have := hne.resolve_right (fun h => h hbl); grind⟩
        · exact ⟨0, by omega, by rw [a0, b0]; grind⟩
    · exact fin (- b l) (a l) (by grind) (.inr ⟨rfl, rfl⟩) (by grind) (.inl (by grind))
end
/-- The lines of a problem in two variables: the axes, and the constraints. -/
def lnA (A : Nat → Nat → Rat) (l : Nat) : Rat := if l = 0 then 1 else if l = 1 then 0 else A (l - 2) 0
def lnB (A : Nat → Nat → Rat) (l : Nat) : Rat := if l = 0 then 0 else if l = 1 then 1 else A (l - 2) 1
def lnC (B : Nat → Rat) (l : Nat) : Rat := if l = 0 then 0 else if l = 1 then 0 else B (l - 2)
def pt (x y : Rat) : Nat → Rat := fun j => if j = 0 then x else y
def detL (A : Nat → Nat → Rat) (i k : Nat) : Rat := lnA A i * lnB A k - lnA A k * lnB A i
def xL (A : Nat → Nat → Rat) (B : Nat → Rat) (i k : Nat) : Rat := (lnC B i * lnB A k - lnC B k * lnB A i) * (1 / detL A i k)
def yL (A : Nat → Nat → Rat) (B : Nat → Rat) (i k : Nat) : Rat := (lnA A i * lnC B k - lnA A k * lnC B i) * (1 / detL A i k)
/-- A feasible crossing of the lines i and k. -/
def Vtx (m : Nat) (A : Nat → Nat → Rat) (B : Nat → Rat) (i k : Nat) : Prop := detL A i k ≠ 0 ∧ Primal 2 m A B (pt (xL A B i k) (yL A B i k))
def vval (A : Nat → Nat → Rat) (B C : Nat → Rat) (i k : Nat) : Rat := sm (fun j => C j * pt (xL A B i k) (yL A B i k) j) 2
/-- What Best answers. -/
def BestR (m : Nat) (A : Nat → Nat → Rat) (B C : Nat → Rat) (v : Rat) (has : Bool) : Prop :=
  (has = true → ∃ i k, i < k ∧ k < m + 2 ∧ Vtx m A B i k ∧ vval A B C i k = v) ∧ (has = false → v = 0) ∧ ∀ i k, i < k → k < m + 2 → Vtx m A B i k → has = true ∧ vval A B C i k ≤ v
section
variable {m : Nat} {A : Nat → Nat → Rat} {B C : Nat → Rat}
/-- The same lines with signs: those of the axes say 'at least 0'. -/
def sgA (A : Nat → Nat → Rat) (l : Nat) : Rat := if l = 0 then -1 else if l = 1 then 0 else A (l - 2) 0
def sgB (A : Nat → Nat → Rat) (l : Nat) : Rat := if l = 0 then 0 else if l = 1 then -1 else A (l - 2) 1
theorem sm_two (f : Nat → Rat) : sm f 2 = f 0 + f 1 := by show 0 + f 0 + f 1 = _; grind
theorem primal_two {x y : Rat} : Primal 2 m A B (pt x y) ↔ Fs (sgA A) (sgB A) (lnC B) (m + 2) x y := by
  constructor
  · rintro ⟨h1, h2⟩ l hl
    unfold sgA sgB lnC
    by_cases h0 : l = 0
    · have := h1 0 (by omega); simp [pt] at this; simp [h0]; grind
    · by_cases h9 : l = 1
      · have := h1 1 (by omega); simp [pt] at this; simp [h9]; grind
      · have := h2 (l - 2) (by omega)
        rw [sm_two] at this
        simp [h0, h9]; simpa [pt] using this
  · intro h
    refine ⟨fun j hj => ?_, fun i hi => ?_⟩
    · have : j = 0 ∨ j = 1 := by omega
      rcases this with rfl | rfl
      · have := h 0 (by omega); simp [sgA, sgB, lnC] at this; simp [pt]; grind
      · have := h 1 (by omega); simp [sgA, sgB, lnC] at this; simp [pt]; grind
    · have := h (i + 2) (by omega)
      simp [sgA, sgB, lnC] at this
      rw [sm_two]; simpa [pt] using this
theorem sg_line {l : Nat} : (sgA A l = lnA A l ∧ sgB A l = lnB A l) ∨ (sgA A l = - lnA A l ∧ sgB A l = - lnB A l ∧ lnC B l = 0) := by
  unfold sgA sgB lnA lnB lnC
  by_cases h0 : l = 0
  · simp [h0]
  · by_cases h1 : l = 1
    · simp [h1]
    · simp [h0, h1]
theorem sg_tight {l : Nat} {x y : Rat} (h : sgA A l * x + sgB A l * y = lnC B l) : lnA A l * x + lnB A l * y = lnC B l := by
  rcases sg_line (A := A) (B := B) (l := l) with ⟨h1, h2⟩ | ⟨h1, h2, h3⟩
  · rw [h1, h2] at h; exact h
  · rw [h1, h2, h3] at h; rw [h3]; grind
theorem sg_det {l k : Nat} (h : sgA A l * sgB A k - sgA A k * sgB A l ≠ 0) : detL A l k ≠ 0 := by
  intro h0
  unfold detL at h0
  rcases sg_line (A := A) (B := fun _ => 0) (l := l) with ⟨h1, h2⟩ | ⟨h1, h2, _⟩ <;> rcases sg_line (A := A) (B := fun _ => 0) (l := k) with ⟨h3, h4⟩ | ⟨h3, h4, _⟩ <;> rw [h1, h2, h3, h4] at h <;> grind
theorem div_of {a d x : Rat} (hd : d ≠ 0) (h : d * x = a) : x = a * (1 / d) := by
  have : d * (1 / d) = 1 := by rw [Rat.div_def, Rat.one_mul]; exact Rat.mul_inv_cancel _ hd
  grind
/-- The crossing is the only common point. -/
theorem cross_at {l k : Nat} {x y : Rat} (hd : detL A l k ≠ 0) (h1 : lnA A l * x + lnB A l * y = lnC B l) (h2 : lnA A k * x + lnB A k * y = lnC B k) : x = xL A B l k ∧ y = yL A B l k := by
  constructor
  · exact div_of hd (by unfold detL; grind)
  · exact div_of hd (by unfold detL; grind)
theorem det_flip (l k : Nat) : detL A k l = - detL A l k := by unfold detL; grind
/-- From an optimum to a feasible crossing of the same value. -/
theorem vertex_at {x : Nat → Rat} {v : Rat} (hx : Primal 2 m A B x) (hv : sm (fun j => C j * x j) 2 = v) (hb : ∀ z, Primal 2 m A B z → sm (fun j => C j * z j) 2 ≤ v) : ∃ i k, i < k ∧ k < m + 2 ∧ Vtx m A B i k ∧ vval A B C i k = v := by
  have hx' : Primal 2 m A B (pt (x 0) (x 1)) := by
    obtain ⟨h1, h2⟩ := hx
    refine ⟨fun j hj => ?_, fun i hi => ?_⟩
    · have : j = 0 ∨ j = 1 := by omega
      rcases this with rfl | rfl
      · simpa [pt] using h1 0 (by omega)
      · simpa [pt] using h1 1 (by omega)
    · have := h2 i hi
      rw [sm_two] at this ⊢; simpa [pt] using this
  have hb' : ∀ x y, Fs (sgA A) (sgB A) (lnC B) (m + 2) x y → C 0 * x + C 1 * y ≤ v := by
    intro x y h
    have := hb _ (primal_two.2 h)
    rw [sm_two] at this; simpa [pt] using this
  have hv' : C 0 * x 0 + C 1 * x 1 = v := by rw [← hv, sm_two]
  obtain ⟨x1, y1, l, k, hl, hk, hd, hf, t1, t2, hval⟩ := vertex_opt (sgA A) (sgB A) (lnC B) (C := C 0) (D := C 1) (M := m + 2) (by omega) (by simp [sgA]) (by simp [sgB]) (by simp [sgA]) (by simp [sgB]) hb' (primal_two.1 hx') hv'
  have hd' := sg_det hd
  have hne : l ≠ k := by rintro rfl; apply hd'; unfold detL; grind
  have go : ∀ i j, i < j → j < m + 2 → detL A i j ≠ 0 → lnA A i * x1 + lnB A i * y1 = lnC B i → lnA A j * x1 + lnB A j * y1 = lnC B j → ∃ i k, i < k ∧ k < m + 2 ∧ Vtx m A B i k ∧ vval A B C i k = v := by
    intro i j hij hj hdd h1 h2
    obtain ⟨e1, e2⟩ := cross_at hdd h1 h2
    refine ⟨i, j, hij, hj, ⟨hdd, ?_⟩, ?_⟩
    · rw [← e1, ← e2]; exact primal_two.2 hf
    · unfold vval; rw [← e1, ← e2, sm_two]; simpa [pt] using hval
  rcases Nat.lt_or_gt_of_ne hne with h | h
  · exact go l k h hk hd' (sg_tight t1) (sg_tight t2)
  · exact go k l h hl (by rw [det_flip]; grind) (sg_tight t2) (sg_tight t1)
variable {out : Nat} {X Y Ray : Nat → Rat} {u v : Rat} {has : Bool}
theorem primal_vtx {x : Nat → Rat} (hx : Primal 2 m A B x) : ∃ i k, i < k ∧ k < m + 2 ∧ Vtx m A B i k := by
  obtain ⟨i, k, h1, h2, h3, _⟩ := vertex_at (C := fun _ => 0) (v := 0) hx (by rw [sm_two]; grind) (fun z _ => by rw [sm_two]; grind)
  exact ⟨i, k, h1, h2, h3⟩
/-- The law of problems in two variables. -/
theorem flat_law (hc : Cert 2 m A B C out X Y Ray u) (hb : BestR m A B C v has) : (has = true ↔ out ≠ 1) ∧ (out = 0 → v = u) := by
  obtain ⟨b1, b2, b3⟩ := hb
  refine ⟨⟨fun h => ?_, fun h => ?_⟩, fun h => ?_⟩
  · obtain ⟨i, k, _, _, hv, _⟩ := b1 h
    exact hc.no1 hv.2
  · have hx : Primal 2 m A B X := by
      rcases hc.outs with h0 | h0 | h0
      · subst h0; exact hc.of0.1
      · exact absurd h0 h
      · subst h0; exact hc.of2.1
    obtain ⟨i, k, h1, h2, h3⟩ := primal_vtx hx
    exact (b3 i k h1 h2 h3).1
  · subst h
    obtain ⟨hx, hy, h1, h2⟩ := hc.of0
    obtain ⟨i, k, q1, q2, q3, q4⟩ := vertex_at (v := u) hx h1 (fun z hz => by rw [← h2]; exact weak hz hy)
    obtain ⟨hh, hle⟩ := b3 i k q1 q2 q3
    obtain ⟨i', k', _, _, p3, p4⟩ := b1 hh
    have h9 := weak p3.2 hy
    rw [h2] at h9
    have h8 : v ≤ u := by rw [← p4]; exact h9
    rw [q4] at hle
    exact Rat.le_antisymm h8 hle
end
end Go.Proofs.Ytamcibmjpmibdaa
namespace Go.Proofs.Ytamcibmjpmibdaa
open Go.RowKit
set_option linter.unusedVariables false
set_option linter.unusedSimpArgs false

section
variable {A : Nat → Nat → Rat} {B : Nat → Rat}
theorem ln_frac (hA : ∀ i j, Frac 12 108 (A i j)) (hB : ∀ i, Frac 12 108 (B i)) (l : Nat) : Frac 12 108 (lnA A l) ∧ Frac 12 108 (lnB A l) ∧ Frac 12 108 (lnC B l) := by
  unfold lnA lnB lnC
  refine ⟨?_, ?_, ?_⟩ <;> split <;> try split
  all_goals first | exact Frac.one (by omega) | exact Frac.zero | exact hA _ _ | exact hB _
theorem Frac.sub {D H H' : Nat} {x y : Rat} (h : Frac D H x) (h' : Frac D H' y) : Frac D (H + H') (x - y) := by
  rw [show x - y = x + -y by grind]
  exact h.add h'.neg
theorem two_frac {a b c d : Rat} (ha : Frac 12 108 a) (hb : Frac 12 108 b) (hc : Frac 12 108 c) (hd : Frac 12 108 d) : Frac 144 23328 (a * b - c * d) := (ha.mul hb).sub (hc.mul hd)
theorem quot_frac {p p' d : Rat} (hp : Frac 144 23328 p) (hp' : Frac 144 23328 p') (hd : Frac 144 23328 d) (h0 : d ≠ 0) : ∃ D, 0 < D ∧ D ≤ 23328 ∧ Frac D 23328 (p * (1 / d)) ∧ Frac D 23328 (p' * (1 / d)) := by
  obtain ⟨q, hq, eq⟩ := hd
  have hi : d * (1 / d) = 1 := by rw [Rat.div_def, Rat.one_mul]; exact Rat.mul_inv_cancel _ h0
  have hq0 : q ≠ 0 := by
    rintro rfl
    have : d * ((144 : Int) : Rat) = 0 := by simpa using eq
    apply h0
    have e : (((144 : Nat) : Int) : Rat) = 144 := by rfl
    grind
  have key : ∀ {r : Rat} {a : Int}, r * (((144 : Nat) : Int) : Rat) = (a : Rat) → (r * (1 / d)) * (q : Rat) = (a : Rat) := by
    intro r a h
    rw [← eq, ← h]
    grind
  have fin : ∀ {r : Rat}, Frac 144 23328 r → Frac q.natAbs 23328 (r * (1 / d)) := by
    rintro r ⟨a, ha, ea⟩
    have hk := key ea
    rcases Int.lt_or_le q 0 with h | h
    · refine ⟨-a, by omega, ?_⟩
      rw [show ((q.natAbs : Nat) : Int) = -q by omega, Rat.intCast_neg, Rat.intCast_neg, ← hk]
      grind
    · refine ⟨a, ha, ?_⟩
      rw [show ((q.natAbs : Nat) : Int) = q by omega, hk]
  exact ⟨q.natAbs, by omega, hq, fin hp, fin hp'⟩
theorem dotS2 {f g : Nat → Rat} {n D : Nat} (hn : n ≤ 6) (hD : 0 < D) (hD' : D ≤ 23328) (hf : ∀ k, k < n → Frac 12 108 (f k)) (hg : ∀ k, k < n → Frac D 23328 (g k)) : DotS f g n := by
  refine ⟨fun k hk => (hf k hk).small (by omega) (by omega) (by omega), fun k hk => (hg k hk).small hD (by omega) (by omega), fun k hk => ((hf k hk).mul (hg k hk)).small (by omega) (by omega) (by omega), fun k hk => ?_⟩
  exact (Frac.sm (D := 12 * D) (H := 108 * 23328) (fun i hi => (hf i (by omega)).mul (hg i (by omega)))).small (by omega) (by omega) (by omega)
theorem recp_eq {y : Rat} (h : y ≠ 0) : ((((y.den : Nat) : Int)) : Rat) / ((y.num : Int) : Rat) = 1 / y := by
  have h1 : ((y.num : Int) : Rat) ≠ 0 := fun e => num_ne h (Rat.intCast_eq_zero_iff.1 e)
  have h2 : ((((y.den : Nat) : Int)) : Rat) ≠ 0 := fun e => by have := Rat.intCast_eq_zero_iff.1 e; have := y.den_nz; omega
  have h3 := self_frac y
  rw [Rat.div_def] at h3 ⊢
  rw [Rat.div_def, Rat.one_mul]
  have i1 := Rat.mul_inv_cancel _ h1
  have i2 := Rat.mul_inv_cancel _ h2
  have i3 := Rat.mul_inv_cancel _ h
  grind
end
/-- The cells of lines. -/
def ln6 (a b c : Rat) : List Value := [.int .i64 a.num, .int .i64 (a.den : Int), .int .i64 b.num, .int .i64 (b.den : Int), .int .i64 c.num, .int .i64 (c.den : Int)]
def lnL (a b c : Nat → Rat) : Nat → List Value
  | 0 => []
  | n + 1 => lnL a b c n ++ ln6 (a n) (b n) (c n)
theorem lnL_length (a b c : Nat → Rat) : ∀ n, (lnL a b c n).length = n * 6
  | 0 => rfl
  | n + 1 => by rw [lnL, List.length_append, lnL_length a b c n]; simp [ln6]; omega
theorem lnL_at {a b c : Nat → Rat} {l j : Nat} (hj : j < 6) : ∀ {n}, l < n → (lnL a b c n)[l * 6 + j]? = (ln6 (a l) (b l) (c l))[j]?
  | 0, h => absurd h (by omega)
  | n + 1, h => by
    rw [lnL]
    by_cases hl : l = n
    · subst hl
      rw [List.getElem?_append_right (by rw [lnL_length]; omega), lnL_length]
      congr 1; omega
    · rw [List.getElem?_append_left (by rw [lnL_length]; omega)]
      exact lnL_at hj (by omega)
def LN (a b c : Rat) : Value := .agg #[.int .i64 a.num, .int .i64 (a.den : Int), .int .i64 b.num, .int .i64 (b.den : Int), .int .i64 c.num, .int .i64 (c.den : Int)]
/-- The fraction of field j. -/
def lnF (a b c : Nat → Rat) : Nat → Nat → Rat
  | 0 => a
  | 1 => b
  | _ => c
section
variable {o : Oper} {a : Act} {w : World} {t u : Tmp}
theorem idx_ln {ad : Addr} {n c k : Nat} {y : Operand} (hk : k < n) (ho : o.op = .indexAddr 105 (.tmp t) y) (h : tv a t = .slice (some ad) n c) (h2 : a.eval y = .int .i64 (k : Int)) : gives Try.prog o a.eval w (fun v w' => v = .pointer (some (ad.add (k * 6))) ∧ Below w.heap.size w w') := by
  refine gives_val (.pointer (some (ad.add (k * 6)))) ?_ ⟨rfl, Below.refl _ _⟩
  have i1 : (0 : Int) ≤ (k : Int) := by omega
  have i2 : (k : Int) < (n : Int) := by omega
  unfold execOp; rw [ho]; simp only [eval_tmp, h, h2]; go_simp
theorem fld_ln {p : Addr} {k : Nat} (ho : o.op = .fieldAddr 109 (.tmp t) k) (hk : k < 3) (h : tv a t = .pointer (some p)) : gives Try.prog o a.eval w (fun v w' => v = .pointer (some (p.add (k * 2))) ∧ Below w.heap.size w w') := by
  refine gives_val (.pointer (some (p.add (k * 2)))) ?_ ⟨rfl, Below.refl _ _⟩
  have : k = 0 ∨ k = 1 ∨ k = 2 := by omega
  rcases this with rfl | rfl | rfl <;> (unfold execOp; rw [ho]; simp only [eval_tmp, h]; go_simp)
theorem load_q_at {p : Addr} {x : Rat} (ho : o.op = .load 58 (.tmp t)) (hx : tv a t = .pointer (some p)) (h0 : w.cell? p = some (.int .i64 x.num)) (h1 : w.cell? (p.add 1) = some (.int .i64 (x.den : Int))) : gives Try.prog o a.eval w (fun v w' => v = QL x ∧ Below w.heap.size w w') := by
  refine gives_val (QL x) ?_ ⟨rfl, Below.refl _ _⟩
  unfold execOp
  rw [ho]
  simp only [eval_tmp, hx, Instr.loadAt, Instr.sureAddr, Sem.run_bind, Sem.run_pure, Result.andThen_ok, run_load_q w _ _ _ h0 h1, QL]
theorem load_ln {B n l j : Nat} {ad : Addr} {f g h : Nat → Rat} (ho : o.op = .load 58 (.tmp t)) (hx : tv a t = .pointer (some ((ad.add (l * 6)).add (j * 2)))) (hr : Reads w B 6 (some ad) n (lnL f g h n)) (hl : l < n) (hj : j < 3) : gives Try.prog o a.eval w (fun v w' => v = QL (lnF f g h j l) ∧ Below w.heap.size w w') := by
  obtain ⟨ad', e, _, hc⟩ := hr.2 (by omega)
  injection e with e
  subst e
  rw [add_of_add] at hx
  have c0 := hc (l * 6 + j * 2) _ (by rw [lnL_at (j := j * 2) (by omega) hl]; exact List.getElem?_eq_getElem (by simp [ln6]; omega))
  have c1 := hc (l * 6 + (j * 2 + 1)) _ (by rw [lnL_at (j := j * 2 + 1) (by omega) hl]; exact List.getElem?_eq_getElem (by simp [ln6]; omega))
  have : j = 0 ∨ j = 1 ∨ j = 2 := by omega
  refine load_q_at ho hx ?_ ?_
  · rw [c0]; rcases this with rfl | rfl | rfl <;> rfl
  · rw [add_of_add, Nat.add_assoc, c1]; rcases this with rfl | rfl | rfl <;> rfl
theorem built_line (x1 x2 y1 y2 z1 z2 : Int) : Try.prog.built 109 [(0, .agg #[.int .i64 x1, .int .i64 x2]), (1, .agg #[.int .i64 y1, .int .i64 y2]), (2, .agg #[.int .i64 z1, .int .i64 z2])] = some #[.int .i64 x1, .int .i64 x2, .int .i64 y1, .int .i64 y2, .int .i64 z1, .int .i64 z2] := by kernel_rfl
theorem gives_line {x y z : Rat} {t0 t1 t2 : Tmp} (ho : o.op = .build 109 #[(0, .tmp t0), (1, .tmp t1), (2, .tmp t2)]) (h0 : tv a t0 = QL x) (h1 : tv a t1 = QL y) (h2 : tv a t2 = QL z) : gives Try.prog o a.eval w (fun v w' => v = LN x y z ∧ Below w.heap.size w w') :=
  gives_built3 ho h0 h1 h2 (built_line _ _ _ _ _ _)
theorem fld_qb {g k : Nat} (ho : o.op = .fieldAddr 58 (.tmp t) k) (hk : k < 2) (h : tv a t = .pointer (some ⟨g, 0, none⟩)) : gives Try.prog o a.eval w (fun v w' => v = .pointer (some ⟨g, k, none⟩) ∧ Below w.heap.size w w') := by
  refine gives_val (.pointer (some ⟨g, k, none⟩)) ?_ ⟨rfl, Below.refl _ _⟩
  have : k = 0 ∨ k = 1 := by omega
  rcases this with rfl | rfl <;> (unfold execOp; rw [ho]; simp only [eval_tmp, h]; go_simp)
theorem load_c2 {p : Addr} {v : Value} (ho : o.op = .load 2 (.tmp t)) (hx : tv a t = .pointer (some p)) (hc : w.cell? p = some v) : gives Try.prog o a.eval w (fun z w' => z = v ∧ Below w.heap.size w w') := by
  refine gives_val v ?_ ⟨rfl, Below.refl _ _⟩
  unfold execOp; rw [ho]; simp only [eval_tmp, hx]; go_simp
theorem gives_neg64 {z : Int} (hz : -1073741824 ≤ z ∧ z ≤ 1073741824) (ho : o.op = .unOp .neg 2 (.tmp t)) (hx : tv a t = .int .i64 z) : gives Try.prog o a.eval w (fun v w' => v = .int .i64 (-z) ∧ Below w.heap.size w w') := by
  have e : IntKind.i64.wrap (-z) = -z := IntWalk.i64_in _ (by omega)
  refine gives_val (.int .i64 (-z)) ?_ ⟨rfl, Below.refl _ _⟩
  unfold execOp; rw [ho]; simp only [eval_tmp, hx]
  go_simp
  all_goals first | exact e | omega
end
theorem low_neg {y : Rat} (h : Sm y) (w : World) : Calls Try.prog 53 #[.int .i64 (-y.num), .int .i64 ((y.den : Nat) : Int)] w (RV w (fun u _ => u = QL (-y))) := by
  have hr := h.rng
  have := rlow_any (-y.num) (y.den : Int) (by omega) (by omega) (by omega) (by omega) hr.2.2 (w := w)
  rw [neg_frac] at this
  exact rv_one this
theorem low_recp {y : Rat} (h : Sm y) (h0 : y ≠ 0) (w : World) : Calls Try.prog 53 #[.int .i64 ((y.den : Nat) : Int), .int .i64 y.num] w (RV w (fun u _ => u = QL (1 / y))) := by
  have hr := h.rng
  have := rlow_any (y.den : Int) y.num (by omega) (by omega) (by omega) (by omega) (num_ne h0) (w := w)
  rw [recp_eq h0] at this
  exact rv_one this
set_option maxRecDepth 100000 in
set_option maxHeartbeats 8000000 in
theorem rminus_any {x y : Rat} (hx : Sm x) (hy : Sm y) (w : World) : Calls Try.prog 60 #[QL x, QL y] w fun e w' => e = .returned (QL (x - y)) ∧ Below w.heap.size w w' := by
  have HSx := Lib.hid hx; have HSy := Lib.hid hy; clear hx hy
  show Calls Try.prog 60 #[.agg #[.int .i64 (x).num, .int .i64 ((x).den : Int)], .agg #[.int .i64 (y).num, .int .i64 ((y).den : Int)]] w _
  go_enter Try.func60, Try.ntmps60
  go_upto_region 1 with (fail)
  have hbw := bthen (bthen (al w (.cells #[.int .i64 (x).num, .int .i64 ((x).den : Int)] 58)) (al _ (.cells #[.int .i64 (y).num, .int .i64 ((y).den : Int)] 58)) (by simp)) (al _ (.cells #[.int .i64 0, .int .i64 0] 58)) (by simp; omega)
  have H2 := Lib.hid (((Blk.new w 58 #[.int .i64 (x).num, .int .i64 ((x).den : Int)]).keep (al _ (.cells #[.int .i64 (y).num, .int .i64 ((y).den : Int)] 58))).keep (al _ (.cells #[.int .i64 0, .int .i64 0] 58)))
  have H3 := Lib.hid ((Blk.new (w.alloc (.cells #[.int .i64 (x).num, .int .i64 ((x).den : Int)] 58)) 58 #[.int .i64 (y).num, .int .i64 ((y).den : Int)]).keep (al _ (.cells #[.int .i64 0, .int .i64 0] 58)))
  rw [show (w.alloc (.cells #[.int .i64 (x).num, .int .i64 ((x).den : Int)] 58)).heap.size = w.heap.size + 1 from by simp] at H3
  have H4 := Lib.hid (Blk.new ((w.alloc (.cells #[.int .i64 (x).num, .int .i64 ((x).den : Int)] 58)).alloc (.cells #[.int .i64 (y).num, .int .i64 ((y).den : Int)] 58)) 58 #[.int .i64 0, .int .i64 0])
  rw [show ((w.alloc (.cells #[.int .i64 (x).num, .int .i64 ((x).den : Int)] 58)).alloc (.cells #[.int .i64 (y).num, .int .i64 ((y).den : Int)] 58)).heap.size = w.heap.size + 1 + 1 from by simp] at H4
  have HB := Lib.hid hbw
  clear hbw
  generalize ((w.alloc (.cells #[.int .i64 (x).num, .int .i64 ((x).den : Int)] 58)).alloc (.cells #[.int .i64 (y).num, .int .i64 ((y).den : Int)] 58)).alloc (.cells #[.int .i64 0, .int .i64 0] 58) = w1 at *
  obtain ⟨g2, hg2⟩ : ∃ g2, g2 = w.heap.size := ⟨_, rfl⟩
  obtain ⟨g3, hg3⟩ : ∃ g3, g3 = w.heap.size + 1 := ⟨_, rfl⟩
  obtain ⟨g4, hg4⟩ : ∃ g4, g4 = w.heap.size + 1 + 1 := ⟨_, rfl⟩
  rw [← hg4] at H4 ⊢
  rw [← hg3] at H3 ⊢
  rw [← hg2] at H2 ⊢
  have HGg2 := Lib.hid (show w.heap.size ≤ g2 ∧ w.heap.size ≤ g3 ∧ w.heap.size ≤ g4 from by omega)
  clear hg2 hg3 hg4
  have HX := Lib.hid (show Qb x g2 w1 from H2.out); have HY := Lib.hid (show Qb y g3 w1 from H3.out)
  refine wp_region_join (kss := [[], [], [(1, 6)], [(2, 7)], [], [(4, 9)], [(3, 8), (5, 10)], [(0, 5), (6, 11)]]) [(2, .pointer (some ⟨g2, 0, none⟩)), (3, .pointer (some ⟨g3, 0, none⟩))] [EV (QL (x)), EV (.pointer (some ⟨g3, 0, none⟩)), EV (.int .i64 ((y).num)), EV (.int .i64 (-((y).num))), EV (.pointer (some ⟨g3, 1, none⟩)), EV (.int .i64 ((((y).den : Nat) : Int))), EV (QL (-y)), EV (QL (x + (-y)))] 8 [] (by kernel_rfl) (by kernel_rfl) ⟨rfl, rfl, trivial⟩ [false, false, false, false, false, false, false, false] ?_ ?_ ?_ ?_
  · exact fun i hi => absurd hi (by simp)
  · exact ⟨eI, eI, eI, eI, eI, eI, eI, eI, trivial⟩
  · refine ⟨?_, ?_, ?_, ?_, ?_, ?_, ?_, ?_, trivial⟩
    · exact fun aa ww hb he hd => ob_plain rfl (load_qb rfl he.1 (Qb.new HX.out hb))
    · exact fun aa ww hb he hd => ob_plain rfl (fld_qb rfl (by decide) he.2.1)
    · exact fun aa ww hb he hd => ob_plain rfl (load_c2 rfl hd.1 (GB.c0 (Qb.new HY.out hb)))
    · exact fun aa ww hb he hd => ob_plain rfl (gives_neg64 (by have := HSy.out.rng; omega) rfl hd.1)
    · exact fun aa ww hb he hd => ob_plain rfl (fld_qb rfl (by decide) he.2.1)
    · exact fun aa ww hb he hd => ob_plain rfl (load_c2 rfl hd.1 (GB.c1 (Qb.new HY.out hb)))
    · exact fun aa ww hb he hd => ob_plain rfl (gives_call2 _ _ _ _ rfl (by kernel_rfl) (by rw [show aa.eval (.tmp 8) = .int .i64 (-((y).num)) from hd.1, show aa.eval (.tmp 10) = .int .i64 ((((y).den : Nat) : Int)) from hd.2.1]; exact low_neg HSy.out _))
    · exact fun aa ww hb he hd => ob_plain rfl (gives_call2 _ _ _ _ rfl (by kernel_rfl) (radd_v (x := x) (y := -y) HSx.out (Sm.neg HSy.out) _ _ hd.1 hd.2.1 _))
  intro vs w2 hb hR _
  have e12 : vs 7 = QL (x + (-y)) := hR 7 (by decide)
  clear hR
  simp only [putsL, Nat.zero_add, Nat.reduceAdd, List.take_succ_cons, List.take_zero, Act.put, List.setIfInBounds_toArray, List.set_cons_zero, List.set_cons_succ]
  rw [e12]
  clear e12
  show wpAny _ _ _ _ 1 _ _ _
  refine wpAny_next (i := 8) (by kernel_rfl) rfl rfl (store_qb (g := g4) (x := x + -y) rfl rfl rfl rfl ⟨0, 0, H4.out.keep hb⟩ ?_)
  intro wa kp hg hsz hX
  have HXa := Lib.hid (GB.blk hX)
  have HBa := Lib.hid (show Below w.heap.size w wa from (bthen HB.out hb HB.out.size).grown hg (bthen HB.out hb HB.out.size).size (fun x hx => by cases hx; exact HGg2.out.2.2))
  clear hb kp hg hsz hX
  refine wpAny_end (by kernel_rfl) (calm_normal ?_) _
  go_wp2_with fail
  refine bodyPost_ret (v := QL (x + -y)) (results_cell_row Try.results60 _ _ _ _ _ (0, 0) _ rfl HXa.out Try.underlying58 rfl rfl) rfl ?_
  exact ⟨by rw [show x - y = x + -y by grind], HBa.out⟩
end Go.Proofs.Ytamcibmjpmibdaa
namespace Go.Proofs.Ytamcibmjpmibdaa
open Go.RowKit
set_option linter.unusedVariables false
set_option linter.unusedSimpArgs false

theorem info_line : (Try.prog.info? 109).map (fun i => (i.zero, i.size, i.bytes)) = some (some (.agg #[.int .i64 0, .int .i64 0, .int .i64 0, .int .i64 0, .int .i64 0, .int .i64 0]), 6, 48) := by kernel_rfl
theorem ln6_cl (a b c : Rat) : ∀ u ∈ ln6 a b c, ClV u ∧ u.oneCell' = true := by
  intro u hu
  simp only [ln6, List.mem_cons, List.not_mem_nil, or_false] at hu
  rcases hu with rfl | rfl | rfl | rfl | rfl | rfl <;> exact ⟨fun x h => (by cases h), rfl⟩
section
variable {o : Oper} {a : Act} {w : World} {t u : Tmp}
theorem gives_one_ln {x y z : Rat} (ho : o.op = .buildSlice 105 1 #[(0, .tmp t)]) (h : tv a t = LN x y z) : gives Try.prog o a.eval w (fun v w' => (∃ g0 : Nat, v = .slice (some ⟨g0, 0, none⟩) 1 1 ∧ Blk w' g0 109 (ln6 x y z).toArray) ∧ Below w.heap.size w w') := by
  have hh : a.tmps[t]?.getD undef = .agg #[.int .i64 x.num, .int .i64 (x.den : Int), .int .i64 y.num, .int .i64 (y.den : Int), .int .i64 z.num, .int .i64 (z.den : Int)] := by simpa [tv, LN] using h
  have hr : (execOp a.eval o).run Try.prog w = .ok (.value (.slice (some ⟨w.heap.size, 0, none⟩) 1 1)) (w.alloc (.cells (ln6 x y z).toArray 109)) := by
    unfold execOp
    rw [ho]
    unfold ln6
    go_simp
  unfold gives
  rw [hr]
  exact ⟨⟨_, rfl, Blk.new _ _ _⟩, al _ _⟩
theorem gives_two_ln {x y z x' y' z' : Rat} (ho : o.op = .buildSlice 105 2 #[(0, .tmp t), (1, .tmp u)]) (h : tv a t = LN x y z) (h' : tv a u = LN x' y' z') : gives Try.prog o a.eval w (fun v w' => (∃ g0 : Nat, v = .slice (some ⟨g0, 0, none⟩) 2 2 ∧ w.heap.size ≤ g0 ∧ Blk w' g0 109 (ln6 x y z ++ ln6 x' y' z').toArray) ∧ Below w.heap.size w w') := by
  have hh : a.tmps[t]?.getD undef = .agg #[.int .i64 x.num, .int .i64 (x.den : Int), .int .i64 y.num, .int .i64 (y.den : Int), .int .i64 z.num, .int .i64 (z.den : Int)] := by simpa [tv, LN] using h
  have hh' : a.tmps[u]?.getD undef = .agg #[.int .i64 x'.num, .int .i64 (x'.den : Int), .int .i64 y'.num, .int .i64 (y'.den : Int), .int .i64 z'.num, .int .i64 (z'.den : Int)] := by simpa [tv, LN] using h'
  have hr : (execOp a.eval o).run Try.prog w = .ok (.value (.slice (some ⟨w.heap.size, 0, none⟩) 2 2)) (w.alloc (.cells (ln6 x y z ++ ln6 x' y' z').toArray 109)) := by
    unfold execOp
    rw [ho]
    unfold ln6
    go_simp
  unfold gives
  rw [hr]
  exact ⟨⟨_, rfl, Nat.le_refl _, Blk.new _ _ _⟩, al _ _⟩
theorem wp_app_ln {K : Act → World → Prop} {Q : Exit → Act → World → Prop} (s x : Operand) (ho : o.op = .call { callee := .builtin .append, args := #[s, x], argTypes := #[105, 105] })
    (base : Nat) (v : Value) (n : Nat) (xs : List Value) (hs : a.eval s = v) (hown : OwnC w base 109 6 v n xs) (g : Nat) (p q r : Rat) (hx : a.eval x = .slice (some ⟨g, 0, none⟩) 1 1) (hb : Blk w g 109 (ln6 p q r).toArray)
    (hk : n ≤ 1000000) (hbase : base ≤ w.heap.size)
    (h : ∀ v' w', OwnC w' base 109 6 v' (n + 1) (xs ++ ln6 p q r) → w.grownBy w' v.ownBlock → (v'.ownBlock = v.ownBlock ∨ v'.ownBlock = some w.heap.size) → KeepsN w w' → K (a.put o.dst v') w') : o.wp Try.prog a w K Q := by
  obtain ⟨i, hi, hz, hs1, hby⟩ := info_parts info_line
  exact wp_append_clean s x 105 ho base 109 i _ 6 48 Try.underlying105 hi hz hs1 hby rfl (by omega) (by intro u hu z hz'; simp [Value.cells] at hu; subst hu; cases hz') v n xs hs hown w.heap.size _ 1 1 _ hx (Reads.of_blk (n := 1) hb rfl) (fun u hu => (ln6_cl p q r u (by simpa using hu)).2) (fun u hu => (ln6_cl p q r u (by simpa using hu)).1) (by simp only [maxLen]; omega) (by omega) hbase h
end
theorem own_blk2 {w : World} {g base : Nat} {xs : List Value} (h : Blk w g 109 xs.toArray) (hl : xs.length = 12) (hb : base ≤ g) (hc : ∀ u ∈ xs, ClV u) : OwnC w base 109 6 (.slice (some ⟨g, 0, none⟩) 2 2) 2 xs :=
  ⟨⟨hl, .inr ⟨g, 2, xs.toArray, rfl, hb, h, Nat.le_refl _, by simp [maxLen], by simp [hl], by simp [hl]; exact List.take_of_length_le (by omega)⟩⟩, clean_row h (by simpa using hc)⟩
theorem lines_step (A : Nat → Nat → Rat) (B : Nat → Rat) (i : Nat) : lnL (lnA A) (lnB A) (lnC B) (i + 1 + 2) = lnL (lnA A) (lnB A) (lnC B) (i + 2) ++ ln6 (A i 0) (A i 1) (B i) := by
  show lnL _ _ _ (i + 2) ++ ln6 (lnA A (i + 2)) (lnB A (i + 2)) (lnC B (i + 2)) = _
  simp [lnA, lnB, lnC]
set_option maxRecDepth 100000 in
set_option maxHeartbeats 8000000 in
theorem rlines_any (m qc qa qb : Nat) (QC QA QB : Option Addr) (Qr : Nat → Option Addr) (qp : Nat → Nat) (A : Nat → Nat → Rat) (C B : Nat → Rat) (w : World) (hP : RqW w 2 m m QC QA QB Qr (fun _ => 2) qp A C B) (hm : m ≤ 1000) :
    Calls Try.prog 59 #[.agg #[.slice QC 2 qc, .slice QA m qa, .slice QB m qb]] w (RV w (fun v w' => ∃ (ad : Addr) (c0 : Nat), v = .slice (some ad) (m + 2 : Nat) c0 ∧ OwnC w' w.heap.size 109 6 (.slice (some ad) (m + 2) c0) (m + 2) (lnL (lnA A) (lnB A) (lnC B) (m + 2)))) := by
  have HQ := Lib.hid hP; clear hP
  go_enter Try.func59, Try.ntmps59
  go_upto_region 2 with (fail)
  have hbw := bthen (al w (.cells #[.slice QC 2 qc, .slice QA m qa, .slice QB m qb] 35)) (al _ (.cells #[.int .i64 1, .int .i64 1] 58)) (by simp)
  have HBx := Lib.hid ((Blk.new w 35 #[.slice QC 2 qc, .slice QA m qa, .slice QB m qb]).keep (al _ (.cells #[.int .i64 1, .int .i64 1] 58)))
  have H3 := Lib.hid (Blk.new (w.alloc (.cells #[.slice QC 2 qc, .slice QA m qa, .slice QB m qb] 35)) 58 #[.int .i64 1, .int .i64 1])
  rw [show (w.alloc (.cells #[.slice QC 2 qc, .slice QA m qa, .slice QB m qb] 35)).heap.size = w.heap.size + 1 from by simp] at H3
  have HB := Lib.hid hbw
  clear hbw
  generalize (w.alloc (.cells #[.slice QC 2 qc, .slice QA m qa, .slice QB m qb] 35)).alloc (.cells #[.int .i64 1, .int .i64 1] 58) = w1 at *
  obtain ⟨gq, hgq⟩ : ∃ gq, gq = w.heap.size := ⟨_, rfl⟩
  obtain ⟨g3, hg3⟩ : ∃ g3, g3 = w.heap.size + 1 := ⟨_, rfl⟩
  rw [← hg3] at H3 ⊢
  rw [← hgq] at HBx ⊢
  have HGgq := Lib.hid (show w.heap.size ≤ gq ∧ w.heap.size ≤ g3 from by omega)
  clear hgq hg3
  have H3q := Lib.hid (show Qb 1 g3 w1 from H3.out)
  refine wp_region_each (kss := [[], [], [], [(0, 7), (1, 8), (2, 9)], [], [], [], [(4, 11), (5, 12), (6, 13)], [(3, 10), (7, 14)], [(8, 15)]]) [(3, .pointer (some ⟨g3, 0, none⟩))] [EV (QL (1)), EV (QL (0)), EV (QL (0)), EV (LN (1) (0) (0)), EV (QL (0)), EV (QL (1)), EV (QL (0)), EV (LN (0) (1) (0)), fun v w' => ∃ g0 : Nat, v = .slice (some ⟨g0, 0, none⟩) 2 2 ∧ w1.heap.size ≤ g0 ∧ Blk w' g0 109 (ln6 1 0 0 ++ ln6 0 1 0).toArray, fun v w' => ∃ g0 : Nat, v = .slice (some ⟨g0, 0, none⟩) 2 2 ∧ w1.heap.size ≤ g0 ∧ Blk w' g0 109 (ln6 1 0 0 ++ ln6 0 1 0).toArray] (by kernel_rfl) (by kernel_rfl) ⟨rfl, trivial⟩ ?_ ?_ ?_
  · exact ⟨eI, eI, eI, eI, eI, eI, eI, eI, fun _ _ _ ⟨g0, h1, h2, h3⟩ hb => ⟨g0, h1, h2, h3.keep hb⟩, fun _ _ _ ⟨g0, h1, h2, h3⟩ hb => ⟨g0, h1, h2, h3.keep hb⟩, trivial⟩
  · refine ⟨?_, ?_, ?_, ?_, ?_, ?_, ?_, ?_, ?_, ?_, trivial⟩
    · exact fun aa ww hb he hd => ob_plain rfl (load_qb rfl he.1 (Qb.new H3q.out hb))
    · exact fun aa ww hb he hd => ob_plain rfl (gives_call0 _ _ rfl (by kernel_rfl) (rv_one (rzero_any _)))
    · exact fun aa ww hb he hd => ob_plain rfl (gives_call0 _ _ rfl (by kernel_rfl) (rv_one (rzero_any _)))
    · exact fun aa ww hb he hd => ob_plain rfl (gives_line rfl hd.1 hd.2.1 hd.2.2.1)
    · exact fun aa ww hb he hd => ob_plain rfl (gives_call0 _ _ rfl (by kernel_rfl) (rv_one (rzero_any _)))
    · exact fun aa ww hb he hd => ob_plain rfl (load_qb rfl he.1 (Qb.new H3q.out hb))
    · exact fun aa ww hb he hd => ob_plain rfl (gives_call0 _ _ rfl (by kernel_rfl) (rv_one (rzero_any _)))
    · exact fun aa ww hb he hd => ob_plain rfl (gives_line rfl hd.1 hd.2.1 hd.2.2.1)
    · exact fun aa ww hb he hd => ob_plain rfl (gives_mono (gives_two_ln rfl hd.1 hd.2.1) (fun v w' ⟨⟨g0, h1, h2, h3⟩, h4⟩ => ⟨⟨g0, h1, Nat.le_trans hb.size h2, h3⟩, h4⟩))
    · exact fun aa ww hb he hd => ob_plain rfl (gives_assign _ rfl ⟨hd.1, Below.refl _ _⟩)
  intro vs w2 hb hR
  have r4 := hR 9 (by decide)
  clear hR
  simp only [putsL, Nat.zero_add, Nat.reduceAdd, List.take_succ_cons, List.take_zero, Act.put, List.setIfInBounds_toArray, List.set_cons_zero, List.set_cons_succ]
  obtain ⟨g0, e4, hlo, hz⟩ := r4
  rw [e4]
  clear e4
  have HO2 := Lib.hid (show OwnC w2 w1.heap.size 109 6 (.slice (some ⟨g0, 0, none⟩) 2 2) 2 (lnL (lnA A) (lnB A) (lnC B) 2) from own_blk2 hz rfl hlo (fun u hu => by rcases List.mem_append.1 hu with h | h <;> exact (ln6_cl _ _ _ u h).1))
  have HB2 := Lib.hid hb
  clear hz hlo hb
  go_wp2_with fail
  go_loopg [5, 4] m (fun q iv ov wr => ∃ (i c1 : Nat) (A1 : Option Addr), iv = .int .i64 i ∧ ov = .slice A1 (i + 2 : Nat) c1 ∧ i + q = m ∧ Hid (OwnC wr w1.heap.size 109 6 (.slice A1 (i + 2) c1) (i + 2) (lnL (lnA A) (lnB A) (lnC B) (i + 2)) ∧ Below w1.heap.size w1 wr))
  case atStart => exact ⟨0, 2, some ⟨g0, 0, none⟩, rfl, rfl, by omega, Lib.hid ⟨HO2.out, HB2.out⟩⟩
  case round =>
    obtain ⟨i, c1, A1, rfl, rfl, him, HI⟩ := hrel
    clear HO2 HB2
    have HO := Lib.hid HI.out.1
    have HB1 := Lib.hid HI.out.2
    clear HI
    have HX := Lib.hid (HBx.out.keep HB1.out)
    have HBr := Lib.hid (bthen HB.out HB1.out HB.out.size)
    have x1 := Blk.at1 HX.out (Below.refl _ _)
    obtain ⟨N, hN⟩ : ∃ N, N = i + 2 := ⟨_, rfl⟩
    rw [← hN] at HO ⊢
    have HN := Lib.hid hN; clear hN
    by_cases hi : i < m
    · have i1 : ((i : Int) < (m : Int)) := by omega
      obtain ⟨ad, rfl, -, -⟩ := HQ.out.at_ hi
      obtain ⟨adr, hadr, -⟩ := Reads.pr (HQ.out.row i hi) (show 0 < 2 by omega)
      obtain ⟨adB, rfl, -⟩ := Reads.pr HQ.out.b hi
      go_upto_region 6 with (fail)
      clear x1
      refine wp_region_join (kss := [[], [], [(1, 24)], [], [(2, 25), (3, 26)], [(4, 27)], [(5, 28)], [(6, 29)], [], [(8, 31)], [], [(9, 32), (10, 33)], [(11, 34)], [(12, 35)], [(13, 36)], [], [(15, 38)], [], [(16, 39), (17, 40)], [(18, 41)], [(7, 30), (14, 37), (19, 42)], [(20, 43)]]) [(4, .slice A1 N c1), (1, .pointer (some ⟨gq, 0, none⟩)), (5, .int .i64 ((i : Int)))] [EV (.slice A1 N c1), EV (.pointer (some ⟨gq, 1, none⟩)), EV (.slice (some ad) m qa), EV (.int .i64 ((i : Int))), EV (.pointer (some (Addr.add ad i))), EV (.slice ((some adr)) 2 (qp i)), EV (.pointer (some (Addr.add adr (0 * 2)))), EV (QL ((A i) 0)), EV (.pointer (some ⟨gq, 1, none⟩)), EV (.slice (some ad) m qa), EV (.int .i64 ((i : Int))), EV (.pointer (some (Addr.add ad i))), EV (.slice ((some adr)) 2 (qp i)), EV (.pointer (some (Addr.add adr (1 * 2)))), EV (QL ((A i) 1)), EV (.pointer (some ⟨gq, 2, none⟩)), EV (.slice ((some adB)) m qb), EV (.int .i64 ((i : Int))), EV (.pointer (some (Addr.add adB (i * 2)))), EV (QL (B i)), EV (LN ((A i) 0) ((A i) 1) (B i)), fun v w' => ∃ g0 : Nat, v = .slice (some ⟨g0, 0, none⟩) 1 1 ∧ Blk w' g0 109 (ln6 (A i 0) (A i 1) (B i)).toArray] 22 [] (by kernel_rfl) (by kernel_rfl) ⟨rfl, rfl, rfl, trivial⟩ [false, false, false, false, false, false, false, false, false, false, false, false, false, false, false, false, false, false, false, false, false, false] ?_ ?_ ?_ ?_
      · exact fun i hi => absurd hi (by simp)
      · exact ⟨eI, eI, eI, eI, eI, eI, eI, eI, eI, eI, eI, eI, eI, eI, eI, eI, eI, eI, eI, eI, eI, fun _ _ _ ⟨g0, h1, h2⟩ hb => ⟨g0, h1, h2.keep hb⟩, trivial⟩
      · refine ⟨?_, ?_, ?_, ?_, ?_, ?_, ?_, ?_, ?_, ?_, ?_, ?_, ?_, ?_, ?_, ?_, ?_, ?_, ?_, ?_, ?_, ?_, trivial⟩
        · exact fun _ _ _ he hd => ob_mv rfl rfl he.1
        · exact fun aa ww hb he hd => ob_plain rfl (fld_rpb rfl (by decide) he.2.1)
        · exact fun aa ww hb he hd => ob_plain rfl (load_c33 rfl hd.1 (Blk.at1 HX.out hb))
        · exact fun _ _ _ he hd => ob_mv rfl rfl he.2.2.1
        · exact fun aa ww hb he hd => ob_plain rfl (idx_qrows (by omega) rfl hd.1 hd.2.1)
        · exact fun aa ww hb he hd => ob_plain rfl (load_c32 rfl hd.1 (by have h := RqW.cell (RqW.new HQ.out (bthen HBr.out hb HBr.out.size)) (i := i) (by omega); rw [hadr] at h; exact h))
        · exact fun aa ww hb he hd => ob_plain rfl (idx_qs (by omega) rfl hd.1 rfl)
        · exact fun aa ww hb he hd => ob_plain rfl (load_qs rfl hd.1 ((by have h := RqW.row (RqW.new HQ.out (bthen HBr.out hb HBr.out.size)) i (by omega); rw [hadr] at h; exact h)) (by omega))
        · exact fun aa ww hb he hd => ob_plain rfl (fld_rpb rfl (by decide) he.2.1)
        · exact fun aa ww hb he hd => ob_plain rfl (load_c33 rfl hd.1 (Blk.at1 HX.out hb))
        · exact fun _ _ _ he hd => ob_mv rfl rfl he.2.2.1
        · exact fun aa ww hb he hd => ob_plain rfl (idx_qrows (by omega) rfl hd.1 hd.2.1)
        · exact fun aa ww hb he hd => ob_plain rfl (load_c32 rfl hd.1 (by have h := RqW.cell (RqW.new HQ.out (bthen HBr.out hb HBr.out.size)) (i := i) (by omega); rw [hadr] at h; exact h))
        · exact fun aa ww hb he hd => ob_plain rfl (idx_qs (by omega) rfl hd.1 rfl)
        · exact fun aa ww hb he hd => ob_plain rfl (load_qs rfl hd.1 ((by have h := RqW.row (RqW.new HQ.out (bthen HBr.out hb HBr.out.size)) i (by omega); rw [hadr] at h; exact h)) (by omega))
        · exact fun aa ww hb he hd => ob_plain rfl (fld_rpb rfl (by decide) he.2.1)
        · exact fun aa ww hb he hd => ob_plain rfl (load_c32 rfl hd.1 (Blk.at2 HX.out hb))
        · exact fun _ _ _ he hd => ob_mv rfl rfl he.2.2.1
        · exact fun aa ww hb he hd => ob_plain rfl (idx_qs (by omega) rfl hd.1 hd.2.1)
        · exact fun aa ww hb he hd => ob_plain rfl (load_qs rfl hd.1 ((RqW.new HQ.out (bthen HBr.out hb HBr.out.size)).b) (by omega))
        · exact fun aa ww hb he hd => ob_plain rfl (gives_line rfl hd.1 hd.2.1 hd.2.2.1)
        · exact fun aa ww hb he hd => ob_plain rfl (gives_one_ln rfl hd.1)
      intro vs w3 hb hR _
      have e23 : vs 0 = .slice A1 N c1 := hR 0 (by decide)
      have r44 := hR 21 (by decide)
      clear hR
      simp only [putsL, Nat.zero_add, Nat.reduceAdd, List.take_succ_cons, List.take_zero, Act.put, List.setIfInBounds_toArray, List.set_cons_zero, List.set_cons_succ]
      rw [e23]
      clear e23
      obtain ⟨g0, e44, hz⟩ := r44
      rw [e44]
      clear e44 hadr
      show wpAny _ _ _ _ 2 _ _ _
      refine wpAny_next (i := 22) (by kernel_rfl) rfl rfl (wp_app_ln _ _ rfl w1.heap.size (.slice A1 N c1) N _ rfl (HO.out.below hb) g0 _ _ _ rfl hz (by have := HN.out; omega) (by have := HB1.out.size; have := hb.size; omega) ?_)
      intro v' w4 ho hg hor kp
      obtain ⟨A9, c9, rfl⟩ := own_form ho.own
      show wpAny _ _ _ _ _ _ (Act.put _ (some 45) _) _
      simp only [Act.put, List.setIfInBounds_toArray, List.set_cons_zero, List.set_cons_succ]
      have HBa := Lib.hid (show Below w1.heap.size w1 w4 from Below.appended (bthen HB1.out hb HB1.out.size) (HO.out.below hb).own hg (by have := HB1.out.size; have := hb.size; omega) (Nat.le_refl _))
      have HOa := Lib.hid (show OwnC w4 w1.heap.size 109 6 (.slice A9 (i + 1 + 2) c9) (i + 1 + 2) (lnL (lnA A) (lnB A) (lnC B) (i + 1 + 2)) from by rw [lines_step, ← HN.out]; have h := ho; rw [show N + 1 = i + 1 + 2 by have := HN.out; omega] at h; exact h)
      have hN1 : N + 1 = i + 1 + 2 := by have := HN.out; omega
      rw [hN1]
      clear hb ho hg hor kp HO HB1 HX HBr hz hN1 HN
      refine wpAny_next (i := 23) (by kernel_rfl) rfl rfl (wp_assign 4 (.tmp 45) rfl rfl (.slice A9 (i + 1 + 2 : Nat) c9) rfl ?_)
      simp only [Act.put, List.setIfInBounds_toArray, List.set_cons_zero, List.set_cons_succ]
      refine wpAny_end (by kernel_rfl) (calm_normal ?_) _
      go_wp2_with fail
      go_roundg (gk - 1)
      case measure => omega
      case rel => exact ⟨i + 1, c9, A9, by go_num, rfl, by omega, Lib.hid ⟨HOa.out, HBa.out⟩⟩
    · obtain rfl : m = i := by omega
      go_wp2_with fail
      go_ret
      refine ⟨_, rfl, ?_, HBr.out⟩
      have ho := HO.out.lower HB.out.size
      rw [HN.out] at ho ⊢
      obtain ⟨ad, e, -⟩ := (Reads.of_own ho.own).2 (by omega)
      cases e
      exact ⟨ad, c1, rfl, ho⟩
end Go.Proofs.Ytamcibmjpmibdaa
