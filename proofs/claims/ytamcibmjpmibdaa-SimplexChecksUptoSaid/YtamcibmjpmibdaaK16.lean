/-
Contracts of the reference's least, column, zeros, Feasible and Dual. Printed by gen/srf.py.
-/
import Derived.Test.YtamcibmjpmibdaaK13
import Derived.Test.YtamcibmjpmibdaaK15
namespace Go.Proofs.Ytamcibmjpmibdaa
open Go.RowKit
set_option linter.unusedVariables false
set_option linter.unusedSimpArgs false

section
variable {w : World} {n m k : Nat} {QC QA QB : Option Addr} {Qr : Nat → Option Addr} {ln qp : Nat → Nat} {A : Nat → Nat → Rat} {C B : Nat → Rat}
theorem RqW.flat (h : RqW w n m k QC QA QB Qr ln qp A C B) (hl : ∀ i, i < m → ln i = n) : RqW w n m k QC QA QB Qr (fun _ => n) qp A C B := by
  refine ⟨h.c, ?_, fun i hi => by rw [← hl i hi]; exact h.row i hi, h.b⟩
  have e : rwL Qr ln qp m = rwL Qr (fun _ => n) qp m := List.map_congr_left fun i hi => by rw [hl i (List.mem_range.1 hi)]
  rw [← e]; exact h.a
theorem RqW.cell {ad : Addr} (h : RqW w n m k QC (some ad) QB Qr ln qp A C B) {i : Nat} (hi : i < m) : w.cell? (ad.add i) = some (.slice (Qr i) (ln i) (qp i)) := by
  obtain ⟨ad', e, _, hc⟩ := h.at_ hi
  cases e
  exact hc
variable {o : Oper} {a : Act} {t : Tmp}
theorem idx_qrows {ad : Addr} {n c k : Nat} {y : Operand} (hk : k < n) (ho : o.op = .indexAddr 33 (.tmp t) y) (h : tv a t = .slice (some ad) n c) (h2 : a.eval y = .int .i64 (k : Int)) : gives Try.prog o a.eval w (fun v w' => v = .pointer (some (ad.add k)) ∧ Below w.heap.size w w') := by
  refine gives_val (.pointer (some (ad.add k))) ?_ ⟨rfl, Below.refl _ _⟩
  have i1 : (0 : Int) ≤ (k : Int) := by omega
  have i2 : (k : Int) < (n : Int) := by omega
  unfold execOp
  rw [ho]
  simp only [eval_tmp, h, h2]
  go_simp
end
set_option maxRecDepth 100000 in
set_option maxHeartbeats 8000000 in
theorem rleast_any (n c : Nat) (A : Option Addr) (f : Nat → Rat) (w : World) (hA : Reads w w.heap.size 2 A n (qsL f n)) (hS : ∀ i, i < n → Sm (f i)) (hn1 : n ≤ 1000000) :
    Calls Try.prog 83 #[.slice A n c] w (BRet (∀ i, i < n → 0 ≤ f i) w) := by
  have HA := Lib.hid hA; have HS := Lib.hid hS; clear hA hS
  go_enter Try.func83, Try.ntmps83
  go_wp2_with fail
  go_loopg [3] n (fun q iv wr => ∃ k : Nat, iv = .int .i64 k ∧ k + q = n ∧ Hid ((∀ i, i < k → 0 ≤ f i) ∧ Below w.heap.size w wr))
  case atStart => exact ⟨0, rfl, by omega, Lib.hid ⟨fun i hi => absurd hi (by omega), Below.refl _ _⟩⟩
  case round =>
    obtain ⟨k, rfl, hkn, HI⟩ := hrel
    have HP := Lib.hid HI.out.1
    have HB := Lib.hid HI.out.2
    clear HI
    by_cases hk : k < n
    · obtain ⟨ad, rfl, -⟩ := Reads.pr HA.out hk
      have i1 : ((k : Int) < (n : Int)) := by omega
      go_upto_region 4 with (fail)
      by_cases hp : 0 ≤ f k
      · have hs : decide (rcq (f k) 0 < 0) = false := rcq_ltd.trans (decide_eq_false (by grind))
        refine wp_region_each (kss := [[], [], [(0, 10), (1, 11)], [(2, 12)], [], [(3, 13), (4, 14)], [(5, 15)]]) [(0, .slice ((some ad)) n c), (3, .int .i64 ((k : Int)))] [EV (.slice ((some ad)) n c), EV (.int .i64 ((k : Int))), EV (.pointer (some (Addr.add ad (k * 2)))), EV (QL (f k)), EV (QL (0)), EV (.int .i64 (rcq (f k) 0)), EV (.bool false)] (by kernel_rfl) (by kernel_rfl) ⟨rfl, rfl, trivial⟩ ?_ ?_ ?_
        · exact ⟨eI, eI, eI, eI, eI, eI, eI, trivial⟩
        · refine ⟨?_, ?_, ?_, ?_, ?_, ?_, ?_, trivial⟩
          · exact fun _ _ _ he hd => ob_mv rfl rfl he.1
          · exact fun _ _ _ he hd => ob_mv rfl rfl he.2.1
          · exact fun aa ww hb he hd => ob_plain rfl (idx_qs (by omega) rfl hd.1 hd.2.1)
          · exact fun aa ww hb he hd => ob_plain rfl (load_qs rfl hd.1 (((HA.out.below HB.out).more HB.out.size).below hb) (by omega))
          · exact fun aa ww hb he hd => ob_plain rfl (gives_call0 _ _ rfl (by kernel_rfl) (rv_one (rzero_any _)))
          · exact fun aa ww hb he hd => ob_plain rfl (gives_call2 _ _ _ _ rfl (by kernel_rfl) (rcmp_v (x := f k) (y := 0) (HS.out k (by omega)) (⟨by decide, by decide⟩ : Sm 0) _ _ hd.1 hd.2.1 _))
          · exact fun aa ww hb he hd => ob_plain rfl (gives_lt_int (rcq (f k) 0) 0 .i64 _ _ _ _ rfl hd.1 rfl ⟨congrArg Value.bool (hs), Below.refl _ _⟩)
        intro vs w3 hb hR
        have e16 : vs 6 = .bool false := hR 6 (by decide)
        clear hR
        simp only [putsL, Nat.zero_add, Nat.reduceAdd, List.take_succ_cons, List.take_zero, Act.put, List.setIfInBounds_toArray, List.set_cons_zero, List.set_cons_succ]
        rw [e16]
        clear e16
        go_wp2_with fail
        go_roundg (gk - 1)
        case measure => omega
        case rel => exact ⟨k + 1, by go_num, by omega, Lib.hid ⟨fun i hi => by
          by_cases hik : i = k
          · rw [hik]; exact hp
          · exact HP.out i (by omega), bthen HB.out hb HB.out.size⟩⟩
      · have hs : decide (rcq (f k) 0 < 0) = true := rcq_ltd.trans (decide_eq_true (by grind))
        refine wp_region_each (kss := [[], [], [(0, 10), (1, 11)], [(2, 12)], [], [(3, 13), (4, 14)], [(5, 15)]]) [(0, .slice ((some ad)) n c), (3, .int .i64 ((k : Int)))] [EV (.slice ((some ad)) n c), EV (.int .i64 ((k : Int))), EV (.pointer (some (Addr.add ad (k * 2)))), EV (QL (f k)), EV (QL (0)), EV (.int .i64 (rcq (f k) 0)), EV (.bool true)] (by kernel_rfl) (by kernel_rfl) ⟨rfl, rfl, trivial⟩ ?_ ?_ ?_
        · exact ⟨eI, eI, eI, eI, eI, eI, eI, trivial⟩
        · refine ⟨?_, ?_, ?_, ?_, ?_, ?_, ?_, trivial⟩
          · exact fun _ _ _ he hd => ob_mv rfl rfl he.1
          · exact fun _ _ _ he hd => ob_mv rfl rfl he.2.1
          · exact fun aa ww hb he hd => ob_plain rfl (idx_qs (by omega) rfl hd.1 hd.2.1)
          · exact fun aa ww hb he hd => ob_plain rfl (load_qs rfl hd.1 (((HA.out.below HB.out).more HB.out.size).below hb) (by omega))
          · exact fun aa ww hb he hd => ob_plain rfl (gives_call0 _ _ rfl (by kernel_rfl) (rv_one (rzero_any _)))
          · exact fun aa ww hb he hd => ob_plain rfl (gives_call2 _ _ _ _ rfl (by kernel_rfl) (rcmp_v (x := f k) (y := 0) (HS.out k (by omega)) (⟨by decide, by decide⟩ : Sm 0) _ _ hd.1 hd.2.1 _))
          · exact fun aa ww hb he hd => ob_plain rfl (gives_lt_int (rcq (f k) 0) 0 .i64 _ _ _ _ rfl hd.1 rfl ⟨congrArg Value.bool (hs), Below.refl _ _⟩)
        intro vs w3 hb hR
        have e16 : vs 6 = .bool true := hR 6 (by decide)
        clear hR
        simp only [putsL, Nat.zero_add, Nat.reduceAdd, List.take_succ_cons, List.take_zero, Act.put, List.setIfInBounds_toArray, List.set_cons_zero, List.set_cons_succ]
        rw [e16]
        clear e16
        go_wp2_with fail
        go_ret
        exact ⟨false, rfl, bthen HB.out hb HB.out.size, f_iff (fun h => hp (h k hk))⟩
    · obtain rfl : n = k := by omega
      go_wp2_with fail
      go_ret
      exact ⟨true, rfl, HB.out, t_iff HP.out⟩
set_option maxRecDepth 100000 in
set_option maxHeartbeats 8000000 in
theorem rcolumn_any (n m k j qc qa qb : Nat) (QC QA QB : Option Addr) (Qr : Nat → Option Addr) (qp : Nat → Nat) (A : Nat → Nat → Rat) (C B : Nat → Rat) (w : World) (hP : RqW w n m k QC QA QB Qr (fun _ => n) qp A C B) (hj : j < n) (hm : m ≤ 1000000) :
    Calls Try.prog 84 #[.agg #[.slice QC n qc, .slice QA m qa, .slice QB k qb], .int .i64 (j : Int)] w (RV w (fun v w' => ∃ (A0 : Option Addr) (c0 : Nat), v = .slice A0 m c0 ∧ Reads w' w'.heap.size 2 A0 m (qsL (fun i => A i j) m))) := by
  have HQ := Lib.hid hP; clear hP
  go_enter Try.func84, Try.ntmps84
  go_upto_region 1 with (fail)
  have HBx := Lib.hid (Blk.new w 35 #[.slice QC n qc, .slice QA m qa, .slice QB k qb])
  have HB := Lib.hid (al w (.cells #[.slice QC n qc, .slice QA m qa, .slice QB k qb] 35))
  obtain ⟨gq, hgq⟩ : ∃ gq, gq = w.heap.size := ⟨_, rfl⟩
  rw [← hgq] at HBx ⊢
  clear hgq
  generalize w.alloc (.cells #[.slice QC n qc, .slice QA m qa, .slice QB k qb] 35) = w1 at *
  go_wp2_with fail
  go_loopg [6, 5] m (fun q iv ov wr => ∃ (i c1 : Nat) (A1 : Option Addr), iv = .int .i64 i ∧ ov = .slice A1 i c1 ∧ i + q = m ∧ Hid (OwnC wr w1.heap.size 58 2 (.slice A1 i c1) i (qsL (fun l => A l j) i) ∧ Below w1.heap.size w1 wr))
  case atStart => exact ⟨0, 0, none, rfl, rfl, by omega, Lib.hid ⟨OwnC.nil _ _ _ _, Below.refl _ _⟩⟩
  case round =>
    obtain ⟨i, c1, A1, rfl, rfl, him, HI⟩ := hrel
    have HO := Lib.hid HI.out.1
    have HB1 := Lib.hid HI.out.2
    clear HI
    have HX := Lib.hid (HBx.out.keep HB1.out)
    have HBr := Lib.hid (bthen HB.out HB1.out HB.out.size)
    have x1 := Blk.at1 HX.out (Below.refl _ _)
    by_cases hi : i < m
    · have i1 : ((i : Int) < (m : Int)) := by omega
      obtain ⟨ad, rfl, -, -⟩ := HQ.out.at_ hi
      obtain ⟨adr, hadr, -⟩ := Reads.pr (HQ.out.row i hi) hj
      go_upto_region 5 with (fail)
      clear x1
      refine wp_region_joins (kss := [[], [], [(1, 15)], [], [(2, 16), (3, 17)], [(4, 18)], [], [(5, 19), (6, 20)], [(7, 21)]]) [(5, .slice A1 i c1), (2, .pointer (some ⟨gq, 0, none⟩)), (6, .int .i64 ((i : Int))), (1, .int .i64 ((j : Int)))] [EV (.slice A1 i c1), EV (.pointer (some ⟨gq, 1, none⟩)), EV (.slice (some ad) m qa), EV (.int .i64 ((i : Int))), EV (.pointer (some (Addr.add ad i))), EV (.slice ((some adr)) n (qp i)), EV (.int .i64 ((j : Int))), EV (.pointer (some (Addr.add adr (j * 2)))), EV (QL ((A i) j))] 9 (by kernel_rfl) ⟨rfl, rfl, rfl, rfl, trivial⟩ [false, false, false, false, false, false, false, false, false] ?_ ?_ ?_
      · exact ⟨eI, eI, eI, eI, eI, eI, eI, eI, eI, trivial⟩
      · refine ⟨?_, ?_, ?_, ?_, ?_, ?_, ?_, ?_, ?_, trivial⟩
        · exact fun _ _ _ he hd => ob_mv rfl rfl he.1
        · exact fun aa ww hb he hd => ob_plain rfl (fld_rpb rfl (by decide) he.2.1)
        · exact fun aa ww hb he hd => ob_plain rfl (load_c33 rfl hd.1 (Blk.at1 HX.out hb))
        · exact fun _ _ _ he hd => ob_mv rfl rfl he.2.2.1
        · exact fun aa ww hb he hd => ob_plain rfl (idx_qrows (by omega) rfl hd.1 hd.2.1)
        · exact fun aa ww hb he hd => ob_plain rfl (load_c32 rfl hd.1 (by have h := RqW.cell (RqW.new HQ.out (bthen HBr.out hb HBr.out.size)) (i := i) (by omega); rw [hadr] at h; exact h))
        · exact fun _ _ _ he hd => ob_mv rfl rfl he.2.2.2.1
        · exact fun aa ww hb he hd => ob_plain rfl (idx_qs (by omega) rfl hd.1 hd.2.1)
        · exact fun aa ww hb he hd => ob_plain rfl (load_qs rfl hd.1 ((by have h := RqW.row (RqW.new HQ.out (bthen HBr.out hb HBr.out.size)) i (by omega); rw [hadr] at h; exact h)) (by omega))
      intro vs w2 hb hR
      have e14 : vs 0 = .slice A1 i c1 := hR 0 (by decide)
      have e22 : vs 8 = QL ((A i) j) := hR 8 (by decide)
      clear hR
      simp only [putsL, Nat.zero_add, Nat.reduceAdd, List.take_succ_cons, List.take_zero, Act.put, List.setIfInBounds_toArray, List.set_cons_zero, List.set_cons_succ]
      rw [e14, e22]
      clear e14 e22
      clear hadr
      show wpOps _ _ _ [9, 10, 11] _ _
      refine wpOps_next rfl rfl (bs_q (y := (A i j).num) (z := ((A i j).den : Int)) rfl rfl ?_)
      simp only [Act.put, List.setIfInBounds_toArray, List.set_cons_zero, List.set_cons_succ]
      refine wpOps_next rfl rfl (wp_app_q _ _ rfl w1.heap.size (.slice A1 i c1) i _ rfl ((HO.out.below hb).alloc _) w2.heap.size _ _ rfl (Blk.new _ _ _) (by omega) (by have := HB1.out.size; have := hb.size; simp; omega) ?_)
      intro v' w3 ho hg hor kp
      have HBa := Lib.hid (show Below w1.heap.size w1 w3 from Below.appended (bthen (bthen HB1.out hb HB1.out.size) (al w2 _) (by have := HB1.out.size; have := hb.size; omega)) ((HO.out.below hb).alloc _).own hg (by have := HB1.out.size; have := hb.size; simp; omega) (Nat.le_refl _))
      obtain ⟨A9, c9, rfl⟩ := own_form ho.own
      have HOa := Lib.hid (show OwnC w3 w1.heap.size 58 2 (.slice A9 (i + 1) c9) (i + 1) (qsL (fun l => A l j) (i + 1)) from ho)
      clear hb ho hg hor kp HO HB1 HX HBr
      simp only [Act.put, List.setIfInBounds_toArray, List.set_cons_zero, List.set_cons_succ]
      refine wpOps_next rfl rfl (wp_assign 5 (.tmp 24) rfl rfl (.slice A9 (i + 1) c9) rfl ?_)
      simp only [Act.put, List.setIfInBounds_toArray, List.set_cons_zero, List.set_cons_succ]
      unfold wpOps
      go_wp2_with fail
      go_roundg (gk - 1)
      case measure => omega
      case rel => exact ⟨i + 1, c9, A9, by go_num, rfl, by omega, Lib.hid ⟨HOa.out, HBa.out⟩⟩
    · obtain rfl : m = i := by omega
      go_wp2_with fail
      go_ret
      exact ⟨_, rfl, ⟨A1, c1, rfl, Reads.of_own HO.out.own⟩, HBr.out⟩
set_option maxRecDepth 100000 in
set_option maxHeartbeats 8000000 in
theorem rzeros_any (n : Nat) (w : World) (hn : n ≤ 1000000) :
    Calls Try.prog 58 #[.int .i64 (n : Int)] w (RV w (fun v w' => ∃ (A0 : Option Addr) (c0 : Nat), v = .slice A0 n c0 ∧ Reads w' w'.heap.size 2 A0 n (qsL (fun _ => 0) n))) := by
  go_enter Try.func58, Try.ntmps58
  go_wp2_with fail
  go_loopg [4, 3] n (fun q iv ov wr => ∃ (i c1 : Nat) (A1 : Option Addr), iv = .int .i64 i ∧ ov = .slice A1 i c1 ∧ i + q = n ∧ Hid (OwnC wr w.heap.size 58 2 (.slice A1 i c1) i (qsL (fun _ => 0) i) ∧ Below w.heap.size w wr))
  case atStart => exact ⟨0, 0, none, rfl, rfl, by omega, Lib.hid ⟨OwnC.nil _ _ _ _, Below.refl _ _⟩⟩
  case round =>
    obtain ⟨i, c1, A1, rfl, rfl, him, HI⟩ := hrel
    have HO := Lib.hid HI.out.1
    have HB1 := Lib.hid HI.out.2
    clear HI
    by_cases hi : i < n
    · have i1 : ((i : Int) < (n : Int)) := by omega
      go_upto_region 5 with (fail)
      refine wp_region_joins (kss := [[], []]) [(3, .slice A1 i c1)] [EV (.slice A1 i c1), EV (QL (0))] 2 (by kernel_rfl) ⟨rfl, trivial⟩ [false, false] ?_ ?_ ?_
      · exact ⟨eI, eI, trivial⟩
      · refine ⟨?_, ?_, trivial⟩
        · exact fun _ _ _ he hd => ob_mv rfl rfl he.1
        · exact fun aa ww hb he hd => ob_plain rfl (gives_call0 _ _ rfl (by kernel_rfl) (rv_one (rzero_any _)))
      intro vs w2 hb hR
      have e10 : vs 0 = .slice A1 i c1 := hR 0 (by decide)
      have e11 : vs 1 = QL (0) := hR 1 (by decide)
      clear hR
      simp only [putsL, Nat.zero_add, Nat.reduceAdd, List.take_succ_cons, List.take_zero, Act.put, List.setIfInBounds_toArray, List.set_cons_zero, List.set_cons_succ]
      rw [e10, e11]
      clear e10 e11
      show wpOps _ _ _ [2, 3, 4] _ _
      refine wpOps_next rfl rfl (bs_q (y := (0 : Rat).num) (z := ((0 : Rat).den : Int)) rfl rfl ?_)
      simp only [Act.put, List.setIfInBounds_toArray, List.set_cons_zero, List.set_cons_succ]
      refine wpOps_next rfl rfl (wp_app_q _ _ rfl w.heap.size (.slice A1 i c1) i _ rfl ((HO.out.below hb).alloc _) w2.heap.size _ _ rfl (Blk.new _ _ _) (by omega) (by have := HB1.out.size; have := hb.size; simp; omega) ?_)
      intro v' w3 ho hg hor kp
      have HBa := Lib.hid (show Below w.heap.size w w3 from Below.appended (bthen (bthen HB1.out hb HB1.out.size) (al w2 _) (by have := HB1.out.size; have := hb.size; omega)) ((HO.out.below hb).alloc _).own hg (by have := HB1.out.size; have := hb.size; simp; omega) (Nat.le_refl _))
      obtain ⟨A9, c9, rfl⟩ := own_form ho.own
      have HOa := Lib.hid (show OwnC w3 w.heap.size 58 2 (.slice A9 (i + 1) c9) (i + 1) (qsL (fun _ => 0) (i + 1)) from ho)
      clear hb ho hg hor kp HO HB1
      simp only [Act.put, List.setIfInBounds_toArray, List.set_cons_zero, List.set_cons_succ]
      refine wpOps_next rfl rfl (wp_assign 3 (.tmp 13) rfl rfl (.slice A9 (i + 1) c9) rfl ?_)
      simp only [Act.put, List.setIfInBounds_toArray, List.set_cons_zero, List.set_cons_succ]
      unfold wpOps
      go_wp2_with fail
      go_roundg (gk - 1)
      case measure => omega
      case rel => exact ⟨i + 1, c9, A9, by go_num, rfl, by omega, Lib.hid ⟨HOa.out, HBa.out⟩⟩
    · obtain rfl : n = i := by omega
      go_wp2_with fail
      go_ret
      exact ⟨_, rfl, ⟨A1, c1, rfl, Reads.of_own HO.out.own⟩, HB1.out⟩
set_option maxRecDepth 100000 in
set_option maxHeartbeats 8000000 in
theorem rfeas_any (n m k kX nl qc qa qb cX cL : Nat) (QC QA QB AX AL : Option Addr) (Qr : Nat → Option Addr) (qp : Nat → Nat) (A : Nat → Nat → Rat) (C B X L : Nat → Rat) (w : World) (hP : RqW w n m k QC QA QB Qr (fun _ => n) qp A C B) (hX : Reads w w.heap.size 2 AX kX (qsL X kX)) (hL : Reads w w.heap.size 2 AL nl (qsL L nl)) (hnl : m ≤ nl) (hSX : ∀ i, i < kX → Sm (X i)) (hSL : ∀ i, i < m → Sm (L i)) (hD : ∀ i, i < m → DotS (A i) X n) (hn : n ≤ 1000) (hm : m ≤ 1000) (hkX : kX ≤ 1000) :
    Calls Try.prog 54 #[.agg #[.slice QC n qc, .slice QA m qa, .slice QB k qb], .slice AX kX cX, .slice AL nl cL] w (BRet (kX = n ∧ Primal n m A L X) w) := by
  have HQ := Lib.hid hP; have HX := Lib.hid hX; have HL := Lib.hid hL; have HSX := Lib.hid hSX; have HSL := Lib.hid hSL; have HD := Lib.hid hD; clear hP hX hL hSX hSL hD
  go_enter Try.func54, Try.ntmps54
  go_upto_region 1 with (fail)
  have HBx := Lib.hid (Blk.new w 35 #[.slice QC n qc, .slice QA m qa, .slice QB k qb])
  have HB := Lib.hid (al w (.cells #[.slice QC n qc, .slice QA m qa, .slice QB k qb] 35))
  obtain ⟨gq, hgq⟩ : ∃ gq, gq = w.heap.size := ⟨_, rfl⟩
  rw [← hgq] at HBx ⊢
  clear hgq
  generalize w.alloc (.cells #[.slice QC n qc, .slice QA m qa, .slice QB k qb] 35) = w1 at *
  by_cases hk : kX = n
  rotate_left
  · have HK := Lib.hid hk; clear hk
    refine wp_region_seq (kss := [[], [(0, 8)], [], [(2, 10)], [(3, 11)], [(1, 9), (4, 12)], [(5, 13)], [(6, 14)], [(6, 14), (7, 15)], [(6, 14), (8, 16)], [(6, 14), (9, 17)]]) [(1, .slice AX kX cX), (3, .pointer (some ⟨gq, 0, none⟩))] [EV (.slice AX kX cX), EV (.int .i64 ((kX : Int))), EV (.pointer (some ⟨gq, 0, none⟩)), EV (.slice QC n qc), EV (.int .i64 ((n : Int))), EV (.bool true), EV (.bool true), EV (undef), EV (undef), EV (undef), EV (.bool true)] (by kernel_rfl) ⟨rfl, rfl, trivial⟩ ?_ ?_ ?_
    · exact ⟨eI, eI, eI, eI, eI, eI, eI, eI, eI, eI, eI, trivial⟩
    · refine ⟨?_, ?_, ?_, ?_, ?_, ?_, ?_, ?_, ?_, ?_, ?_, trivial⟩
      · exact fun _ _ _ he hd => ob_mv rfl rfl he.1
      · exact fun aa ww hb he hd => ob_plain rfl (len_c Try.underlying32 rfl hd.1)
      · exact fun aa ww hb he hd => ob_plain rfl (fld_rpb rfl (by decide) he.2.1)
      · exact fun aa ww hb he hd => ob_plain rfl (load_c32 rfl hd.1 (Blk.at0 HBx.out hb))
      · exact fun aa ww hb he hd => ob_plain rfl (len_c Try.underlying32 rfl hd.1)
      · exact fun aa ww hb he hd => ob_plain rfl (gives_ne_int ((kX : Int)) ((n : Int)) .i64 _ _ _ _ rfl hd.1 hd.2.1 ⟨congrArg Value.bool (by simp; have := HK.out; omega), Below.refl _ _⟩)
      · exact fun _ _ _ he hd => ob_mv rfl rfl hd.1
      · exact fun aa ww hb he hd => ob_off 14 rfl (by kernel_rfl) hd.1 rfl
      · exact fun aa ww hb he hd => ob_off 14 rfl (by kernel_rfl) hd.1 rfl
      · exact fun aa ww hb he hd => ob_off 14 rfl (by kernel_rfl) hd.1 rfl
      · exact fun aa ww hb he hd => ob_plain rfl (gives_pick true _ _ _ rfl hd.1 ⟨rfl, Below.refl _ _⟩)
    intro vs w2 hb hR
    have e18 : vs 10 = .bool true := hR 10 (by decide)
    clear hR
    simp only [putsL, Nat.zero_add, Nat.reduceAdd, List.take_succ_cons, List.take_zero, Act.put, List.setIfInBounds_toArray, List.set_cons_zero, List.set_cons_succ]
    rw [e18]
    clear e18
    go_wp2_with fail
    go_ret
    exact ⟨false, rfl, bthen HB.out hb HB.out.size, f_iff (fun h => HK.out h.1)⟩
  subst kX
  by_cases hp : ∀ l, l < n → 0 ≤ X l
  rotate_left
  · skip
    have HPp := Lib.hid hp
    refine wp_region_seq (kss := [[], [(0, 8)], [], [(2, 10)], [(3, 11)], [(1, 9), (4, 12)], [(5, 13)], [(6, 14)], [(6, 14), (7, 15)], [(6, 14), (8, 16)], [(6, 14), (9, 17)]]) [(1, .slice AX n cX), (3, .pointer (some ⟨gq, 0, none⟩))] [EV (.slice AX n cX), EV (.int .i64 ((n : Int))), EV (.pointer (some ⟨gq, 0, none⟩)), EV (.slice QC n qc), EV (.int .i64 ((n : Int))), EV (.bool false), EV (.bool false), EV (.slice AX n cX), EV (.bool false), EV (.bool true), EV (.bool true)] (by kernel_rfl) ⟨rfl, rfl, trivial⟩ ?_ ?_ ?_
    · exact ⟨eI, eI, eI, eI, eI, eI, eI, eI, eI, eI, eI, trivial⟩
    · refine ⟨?_, ?_, ?_, ?_, ?_, ?_, ?_, ?_, ?_, ?_, ?_, trivial⟩
      · exact fun _ _ _ he hd => ob_mv rfl rfl he.1
      · exact fun aa ww hb he hd => ob_plain rfl (len_c Try.underlying32 rfl hd.1)
      · exact fun aa ww hb he hd => ob_plain rfl (fld_rpb rfl (by decide) he.2.1)
      · exact fun aa ww hb he hd => ob_plain rfl (load_c32 rfl hd.1 (Blk.at0 HBx.out hb))
      · exact fun aa ww hb he hd => ob_plain rfl (len_c Try.underlying32 rfl hd.1)
      · exact fun aa ww hb he hd => ob_plain rfl (gives_ne_int ((n : Int)) ((n : Int)) .i64 _ _ _ _ rfl hd.1 hd.2.1 ⟨congrArg Value.bool (by simp), Below.refl _ _⟩)
      · exact fun _ _ _ he hd => ob_mv rfl rfl hd.1
      · exact fun aa ww hb he hd => ob_on 14 rfl (by kernel_rfl) hd.1 (gives_move _ rfl ⟨he.1, Below.refl _ _⟩)
      · exact fun aa ww hb he hd => ob_on 14 rfl (by kernel_rfl) hd.1 (gives_call1 _ _ _ rfl (by kernel_rfl) (by rw [show aa.eval (.tmp 15) = .slice AX n cX from hd.2.1]; exact ret_t (rleast_any n cX AX X _ ((HX.out.below (bthen HB.out hb HB.out.size)).more (bthen HB.out hb HB.out.size).size) HSX.out (by omega)) (f_iff hp)))
      · exact fun aa ww hb he hd => ob_on 14 rfl (by kernel_rfl) hd.1 (gives_not false _ _ rfl hd.2.1 ⟨rfl, Below.refl _ _⟩)
      · exact fun aa ww hb he hd => ob_plain rfl (gives_pick false _ _ _ rfl hd.1 ⟨hd.2.1, Below.refl _ _⟩)
    intro vs w2 hb hR
    have e18 : vs 10 = .bool true := hR 10 (by decide)
    clear hR
    simp only [putsL, Nat.zero_add, Nat.reduceAdd, List.take_succ_cons, List.take_zero, Act.put, List.setIfInBounds_toArray, List.set_cons_zero, List.set_cons_succ]
    rw [e18]
    clear e18
    clear hp
    go_wp2_with fail
    go_ret
    exact ⟨false, rfl, bthen HB.out hb HB.out.size, by simp; intro h; exact HPp.out h.nonneg⟩
  have HPp := Lib.hid hp
  refine wp_region_seq (kss := [[], [(0, 8)], [], [(2, 10)], [(3, 11)], [(1, 9), (4, 12)], [(5, 13)], [(6, 14)], [(6, 14), (7, 15)], [(6, 14), (8, 16)], [(6, 14), (9, 17)]]) [(1, .slice AX n cX), (3, .pointer (some ⟨gq, 0, none⟩))] [EV (.slice AX n cX), EV (.int .i64 ((n : Int))), EV (.pointer (some ⟨gq, 0, none⟩)), EV (.slice QC n qc), EV (.int .i64 ((n : Int))), EV (.bool false), EV (.bool false), EV (.slice AX n cX), EV (.bool true), EV (.bool false), EV (.bool false)] (by kernel_rfl) ⟨rfl, rfl, trivial⟩ ?_ ?_ ?_
  · exact ⟨eI, eI, eI, eI, eI, eI, eI, eI, eI, eI, eI, trivial⟩
  · refine ⟨?_, ?_, ?_, ?_, ?_, ?_, ?_, ?_, ?_, ?_, ?_, trivial⟩
    · exact fun _ _ _ he hd => ob_mv rfl rfl he.1
    · exact fun aa ww hb he hd => ob_plain rfl (len_c Try.underlying32 rfl hd.1)
    · exact fun aa ww hb he hd => ob_plain rfl (fld_rpb rfl (by decide) he.2.1)
    · exact fun aa ww hb he hd => ob_plain rfl (load_c32 rfl hd.1 (Blk.at0 HBx.out hb))
    · exact fun aa ww hb he hd => ob_plain rfl (len_c Try.underlying32 rfl hd.1)
    · exact fun aa ww hb he hd => ob_plain rfl (gives_ne_int ((n : Int)) ((n : Int)) .i64 _ _ _ _ rfl hd.1 hd.2.1 ⟨congrArg Value.bool (by simp), Below.refl _ _⟩)
    · exact fun _ _ _ he hd => ob_mv rfl rfl hd.1
    · exact fun aa ww hb he hd => ob_on 14 rfl (by kernel_rfl) hd.1 (gives_move _ rfl ⟨he.1, Below.refl _ _⟩)
    · exact fun aa ww hb he hd => ob_on 14 rfl (by kernel_rfl) hd.1 (gives_call1 _ _ _ rfl (by kernel_rfl) (by rw [show aa.eval (.tmp 15) = .slice AX n cX from hd.2.1]; exact ret_t (rleast_any n cX AX X _ ((HX.out.below (bthen HB.out hb HB.out.size)).more (bthen HB.out hb HB.out.size).size) HSX.out (by omega)) (t_iff hp)))
    · exact fun aa ww hb he hd => ob_on 14 rfl (by kernel_rfl) hd.1 (gives_not true _ _ rfl hd.2.1 ⟨rfl, Below.refl _ _⟩)
    · exact fun aa ww hb he hd => ob_plain rfl (gives_pick false _ _ _ rfl hd.1 ⟨hd.2.1, Below.refl _ _⟩)
  intro vs w2 hb hR
  have e18 : vs 10 = .bool false := hR 10 (by decide)
  clear hR
  simp only [putsL, Nat.zero_add, Nat.reduceAdd, List.take_succ_cons, List.take_zero, Act.put, List.setIfInBounds_toArray, List.set_cons_zero, List.set_cons_succ]
  rw [e18]
  clear e18
  clear hp
  have HX2 := Lib.hid (HBx.out.keep hb)
  have HB2 := Lib.hid (bthen HB.out hb HB.out.size)
  clear HBx HB hb
  go_wp2_with fail
  go_loopg [7] m (fun g iv wr => ∃ i : Nat, iv = .int .i64 i ∧ i + g = m ∧ Hid ((∀ l, l < i → sm (fun j => A l j * X j) n ≤ L l) ∧ Blk wr gq 35 #[.slice QC n qc, .slice QA m qa, .slice QB k qb] ∧ Below w.heap.size w wr))
  case atStart => exact ⟨0, rfl, by omega, Lib.hid ⟨fun l hl => absurd hl (by omega), HX2.out, HB2.out⟩⟩
  case round =>
    obtain ⟨i, rfl, him, HI⟩ := hrel
    clear HX2 HB2
    have HS := Lib.hid HI.out.1
    have HBx := Lib.hid HI.out.2.1
    have HB := Lib.hid HI.out.2.2
    clear HI
    have c1 := Blk.at1 HBx.out (Below.refl _ _)
    by_cases hi : i < m
    · have i1 : ((i : Int) < (m : Int)) := by omega
      obtain ⟨ad, rfl, -, -⟩ := (HQ.out.new HB.out).at_ hi
      obtain ⟨adL, rfl, -⟩ := Reads.pr HL.out (show i < nl by omega)
      go_upto_region 6 with (fail)
      clear c1
      by_cases hq0 : L i < sm (fun j => A i j * X j) n
      · have hq : decide (rcq (sm (fun l => A i l * X l) n) (L i) > 0) = true := rcq_gtb.trans (decide_eq_true hq0)
        refine wp_region_each (kss := [[], [(0, 26)], [], [(1, 27), (2, 28)], [(3, 29)], [], [(4, 30), (5, 31)], [], [], [(7, 33), (8, 34)], [(9, 35)], [(6, 32), (10, 36)], [(11, 37)]]) [(3, .pointer (some ⟨gq, 0, none⟩)), (7, .int .i64 ((i : Int))), (1, .slice AX n cX), (2, .slice ((some adL)) nl cL)] [EV (.pointer (some ⟨gq, 1, none⟩)), EV (.slice (some ad) m qa), EV (.int .i64 ((i : Int))), EV (.pointer (some (Addr.add ad i))), EV (.slice ((Qr i)) n (qp i)), EV (.slice AX n cX), EV (QL (sm (fun l => (A i) l * X l) n)), EV (.slice ((some adL)) nl cL), EV (.int .i64 ((i : Int))), EV (.pointer (some (Addr.add adL (i * 2)))), EV (QL (L i)), EV (.int .i64 (rcq (sm (fun l => (A i) l * X l) n) (L i))), EV (.bool true)] (by kernel_rfl) (by kernel_rfl) ⟨rfl, rfl, rfl, rfl, trivial⟩ ?_ ?_ ?_
        · exact ⟨eI, eI, eI, eI, eI, eI, eI, eI, eI, eI, eI, eI, eI, trivial⟩
        · refine ⟨?_, ?_, ?_, ?_, ?_, ?_, ?_, ?_, ?_, ?_, ?_, ?_, ?_, trivial⟩
          · exact fun aa ww hb he hd => ob_plain rfl (fld_rpb rfl (by decide) he.1)
          · exact fun aa ww hb he hd => ob_plain rfl (load_c33 rfl hd.1 (Blk.at1 HBx.out hb))
          · exact fun _ _ _ he hd => ob_mv rfl rfl he.2.1
          · exact fun aa ww hb he hd => ob_plain rfl (idx_qrows (by omega) rfl hd.1 hd.2.1)
          · exact fun aa ww hb he hd => ob_plain rfl (load_c32 rfl hd.1 (RqW.cell (RqW.new HQ.out (bthen HB.out hb HB.out.size)) (i := i) (by omega)))
          · exact fun _ _ _ he hd => ob_mv rfl rfl he.2.2.1
          · exact fun aa ww hb he hd => ob_plain rfl (gives_call2 _ _ _ _ rfl (by kernel_rfl) (by rw [show aa.eval (.tmp 30) = .slice ((Qr i)) n (qp i) from hd.1, show aa.eval (.tmp 31) = .slice AX n cX from hd.2.1]; exact rdot_any n n (qp i) cX (Qr i) AX (A i) X _ (RqW.row (RqW.new HQ.out (bthen HB.out hb HB.out.size)) i (by omega)) ((HX.out.below (bthen HB.out hb HB.out.size)).more (bthen HB.out hb HB.out.size).size) (by omega) (by omega) (HD.out i (by omega))))
          · exact fun _ _ _ he hd => ob_mv rfl rfl he.2.2.2.1
          · exact fun _ _ _ he hd => ob_mv rfl rfl he.2.1
          · exact fun aa ww hb he hd => ob_plain rfl (idx_qs (by omega) rfl hd.1 hd.2.1)
          · exact fun aa ww hb he hd => ob_plain rfl (load_qs rfl hd.1 ((HL.out.below (bthen HB.out hb HB.out.size)).more (bthen HB.out hb HB.out.size).size) (by omega))
          · exact fun aa ww hb he hd => ob_plain rfl (gives_call2 _ _ _ _ rfl (by kernel_rfl) (rcmp_v (x := sm (fun l => (A i) l * X l) n) (y := L i) ((HD.out i (by omega)).h4 n (Nat.le_refl _)) (HSL.out i (by omega)) _ _ hd.1 hd.2.1 _))
          · exact fun aa ww hb he hd => ob_plain rfl (gives_gt_int (rcq (sm (fun l => (A i) l * X l) n) (L i)) 0 .i64 _ _ _ _ rfl hd.1 rfl ⟨congrArg Value.bool (hq), Below.refl _ _⟩)
        intro vs w4 hb hR
        have e38 : vs 12 = .bool true := hR 12 (by decide)
        clear hR
        simp only [putsL, Nat.zero_add, Nat.reduceAdd, List.take_succ_cons, List.take_zero, Act.put, List.setIfInBounds_toArray, List.set_cons_zero, List.set_cons_succ]
        rw [e38]
        clear e38
        go_wp2_with fail
        go_ret
        exact ⟨false, rfl, bthen HB.out hb HB.out.size, by simp; intro h; have := h.le i hi; grind⟩
      · have hq : decide (rcq (sm (fun l => A i l * X l) n) (L i) > 0) = false := rcq_gtb.trans (decide_eq_false hq0)
        refine wp_region_each (kss := [[], [(0, 26)], [], [(1, 27), (2, 28)], [(3, 29)], [], [(4, 30), (5, 31)], [], [], [(7, 33), (8, 34)], [(9, 35)], [(6, 32), (10, 36)], [(11, 37)]]) [(3, .pointer (some ⟨gq, 0, none⟩)), (7, .int .i64 ((i : Int))), (1, .slice AX n cX), (2, .slice ((some adL)) nl cL)] [EV (.pointer (some ⟨gq, 1, none⟩)), EV (.slice (some ad) m qa), EV (.int .i64 ((i : Int))), EV (.pointer (some (Addr.add ad i))), EV (.slice ((Qr i)) n (qp i)), EV (.slice AX n cX), EV (QL (sm (fun l => (A i) l * X l) n)), EV (.slice ((some adL)) nl cL), EV (.int .i64 ((i : Int))), EV (.pointer (some (Addr.add adL (i * 2)))), EV (QL (L i)), EV (.int .i64 (rcq (sm (fun l => (A i) l * X l) n) (L i))), EV (.bool false)] (by kernel_rfl) (by kernel_rfl) ⟨rfl, rfl, rfl, rfl, trivial⟩ ?_ ?_ ?_
        · exact ⟨eI, eI, eI, eI, eI, eI, eI, eI, eI, eI, eI, eI, eI, trivial⟩
        · refine ⟨?_, ?_, ?_, ?_, ?_, ?_, ?_, ?_, ?_, ?_, ?_, ?_, ?_, trivial⟩
          · exact fun aa ww hb he hd => ob_plain rfl (fld_rpb rfl (by decide) he.1)
          · exact fun aa ww hb he hd => ob_plain rfl (load_c33 rfl hd.1 (Blk.at1 HBx.out hb))
          · exact fun _ _ _ he hd => ob_mv rfl rfl he.2.1
          · exact fun aa ww hb he hd => ob_plain rfl (idx_qrows (by omega) rfl hd.1 hd.2.1)
          · exact fun aa ww hb he hd => ob_plain rfl (load_c32 rfl hd.1 (RqW.cell (RqW.new HQ.out (bthen HB.out hb HB.out.size)) (i := i) (by omega)))
          · exact fun _ _ _ he hd => ob_mv rfl rfl he.2.2.1
          · exact fun aa ww hb he hd => ob_plain rfl (gives_call2 _ _ _ _ rfl (by kernel_rfl) (by rw [show aa.eval (.tmp 30) = .slice ((Qr i)) n (qp i) from hd.1, show aa.eval (.tmp 31) = .slice AX n cX from hd.2.1]; exact rdot_any n n (qp i) cX (Qr i) AX (A i) X _ (RqW.row (RqW.new HQ.out (bthen HB.out hb HB.out.size)) i (by omega)) ((HX.out.below (bthen HB.out hb HB.out.size)).more (bthen HB.out hb HB.out.size).size) (by omega) (by omega) (HD.out i (by omega))))
          · exact fun _ _ _ he hd => ob_mv rfl rfl he.2.2.2.1
          · exact fun _ _ _ he hd => ob_mv rfl rfl he.2.1
          · exact fun aa ww hb he hd => ob_plain rfl (idx_qs (by omega) rfl hd.1 hd.2.1)
          · exact fun aa ww hb he hd => ob_plain rfl (load_qs rfl hd.1 ((HL.out.below (bthen HB.out hb HB.out.size)).more (bthen HB.out hb HB.out.size).size) (by omega))
          · exact fun aa ww hb he hd => ob_plain rfl (gives_call2 _ _ _ _ rfl (by kernel_rfl) (rcmp_v (x := sm (fun l => (A i) l * X l) n) (y := L i) ((HD.out i (by omega)).h4 n (Nat.le_refl _)) (HSL.out i (by omega)) _ _ hd.1 hd.2.1 _))
          · exact fun aa ww hb he hd => ob_plain rfl (gives_gt_int (rcq (sm (fun l => (A i) l * X l) n) (L i)) 0 .i64 _ _ _ _ rfl hd.1 rfl ⟨congrArg Value.bool (hq), Below.refl _ _⟩)
        intro vs w4 hb hR
        have e38 : vs 12 = .bool false := hR 12 (by decide)
        clear hR
        simp only [putsL, Nat.zero_add, Nat.reduceAdd, List.take_succ_cons, List.take_zero, Act.put, List.setIfInBounds_toArray, List.set_cons_zero, List.set_cons_succ]
        rw [e38]
        clear e38
        have HQn := Lib.hid (HBx.out.keep hb)
        have HBn := Lib.hid (bthen HB.out hb HB.out.size)
        clear hq hb HBx HB
        go_wp2_with fail
        go_roundg (gk - 1)
        case measure => omega
        case rel => exact ⟨i + 1, by go_num, by omega, Lib.hid ⟨fun l hl => by
          by_cases hli : l = i
          · rw [hli]; grind
          · exact HS.out l (by omega), HQn.out, HBn.out⟩⟩
    · obtain rfl : m = i := by omega
      go_wp2_with fail
      go_ret
      exact ⟨true, rfl, HB.out, by simp; exact ⟨HPp.out, HS.out⟩⟩
set_option maxRecDepth 100000 in
set_option maxHeartbeats 8000000 in
theorem rdual_any (n m k kX qc qa qb cX cL : Nat) (QC QA QB AX AL : Option Addr) (Qr : Nat → Option Addr) (qp : Nat → Nat) (A : Nat → Nat → Rat) (C B X L : Nat → Rat) (w : World) (hP : RqW w n m k QC QA QB Qr (fun _ => n) qp A C B) (hX : Reads w w.heap.size 2 AX kX (qsL X kX)) (hL : Reads w w.heap.size 2 AL n (qsL L n)) (hSX : ∀ i, i < kX → Sm (X i)) (hSL : ∀ i, i < n → Sm (L i)) (hD : ∀ j, j < n → DotS X (fun i => A i j) m) (hn : n ≤ 1000) (hm : m ≤ 1000) (hkX : kX ≤ 1000) :
    Calls Try.prog 55 #[.agg #[.slice QC n qc, .slice QA m qa, .slice QB k qb], .slice AX kX cX, .slice AL n cL] w (BRet (kX = m ∧ DualF n m A L X) w) := by
  have HQ := Lib.hid hP; have HX := Lib.hid hX; have HL := Lib.hid hL; have HSX := Lib.hid hSX; have HSL := Lib.hid hSL; have HD := Lib.hid hD; clear hP hX hL hSX hSL hD
  go_enter Try.func55, Try.ntmps55
  go_upto_region 1 with (fail)
  have HBx := Lib.hid (Blk.new w 35 #[.slice QC n qc, .slice QA m qa, .slice QB k qb])
  have HB := Lib.hid (al w (.cells #[.slice QC n qc, .slice QA m qa, .slice QB k qb] 35))
  obtain ⟨gq, hgq⟩ : ∃ gq, gq = w.heap.size := ⟨_, rfl⟩
  rw [← hgq] at HBx ⊢
  clear hgq
  generalize w.alloc (.cells #[.slice QC n qc, .slice QA m qa, .slice QB k qb] 35) = w1 at *
  by_cases hk : kX = m
  rotate_left
  · have HK := Lib.hid hk; clear hk
    refine wp_region_seq (kss := [[], [(0, 8)], [], [(2, 10)], [(3, 11)], [(1, 9), (4, 12)], [(5, 13)], [(6, 14)], [(6, 14), (7, 15)], [(6, 14), (8, 16)], [(6, 14), (9, 17)]]) [(1, .slice AX kX cX), (3, .pointer (some ⟨gq, 0, none⟩))] [EV (.slice AX kX cX), EV (.int .i64 ((kX : Int))), EV (.pointer (some ⟨gq, 1, none⟩)), EV (.slice QA m qa), EV (.int .i64 ((m : Int))), EV (.bool true), EV (.bool true), EV (undef), EV (undef), EV (undef), EV (.bool true)] (by kernel_rfl) ⟨rfl, rfl, trivial⟩ ?_ ?_ ?_
    · exact ⟨eI, eI, eI, eI, eI, eI, eI, eI, eI, eI, eI, trivial⟩
    · refine ⟨?_, ?_, ?_, ?_, ?_, ?_, ?_, ?_, ?_, ?_, ?_, trivial⟩
      · exact fun _ _ _ he hd => ob_mv rfl rfl he.1
      · exact fun aa ww hb he hd => ob_plain rfl (len_c Try.underlying32 rfl hd.1)
      · exact fun aa ww hb he hd => ob_plain rfl (fld_rpb rfl (by decide) he.2.1)
      · exact fun aa ww hb he hd => ob_plain rfl (load_c33 rfl hd.1 (Blk.at1 HBx.out hb))
      · exact fun aa ww hb he hd => ob_plain rfl (len_c Try.underlying33 rfl hd.1)
      · exact fun aa ww hb he hd => ob_plain rfl (gives_ne_int ((kX : Int)) ((m : Int)) .i64 _ _ _ _ rfl hd.1 hd.2.1 ⟨congrArg Value.bool (by simp; have := HK.out; omega), Below.refl _ _⟩)
      · exact fun _ _ _ he hd => ob_mv rfl rfl hd.1
      · exact fun aa ww hb he hd => ob_off 14 rfl (by kernel_rfl) hd.1 rfl
      · exact fun aa ww hb he hd => ob_off 14 rfl (by kernel_rfl) hd.1 rfl
      · exact fun aa ww hb he hd => ob_off 14 rfl (by kernel_rfl) hd.1 rfl
      · exact fun aa ww hb he hd => ob_plain rfl (gives_pick true _ _ _ rfl hd.1 ⟨rfl, Below.refl _ _⟩)
    intro vs w2 hb hR
    have e18 : vs 10 = .bool true := hR 10 (by decide)
    clear hR
    simp only [putsL, Nat.zero_add, Nat.reduceAdd, List.take_succ_cons, List.take_zero, Act.put, List.setIfInBounds_toArray, List.set_cons_zero, List.set_cons_succ]
    rw [e18]
    clear e18
    go_wp2_with fail
    go_ret
    exact ⟨false, rfl, bthen HB.out hb HB.out.size, f_iff (fun h => HK.out h.1)⟩
  subst kX
  by_cases hp : ∀ l, l < m → 0 ≤ X l
  rotate_left
  · skip
    have HPp := Lib.hid hp
    refine wp_region_seq (kss := [[], [(0, 8)], [], [(2, 10)], [(3, 11)], [(1, 9), (4, 12)], [(5, 13)], [(6, 14)], [(6, 14), (7, 15)], [(6, 14), (8, 16)], [(6, 14), (9, 17)]]) [(1, .slice AX m cX), (3, .pointer (some ⟨gq, 0, none⟩))] [EV (.slice AX m cX), EV (.int .i64 ((m : Int))), EV (.pointer (some ⟨gq, 1, none⟩)), EV (.slice QA m qa), EV (.int .i64 ((m : Int))), EV (.bool false), EV (.bool false), EV (.slice AX m cX), EV (.bool false), EV (.bool true), EV (.bool true)] (by kernel_rfl) ⟨rfl, rfl, trivial⟩ ?_ ?_ ?_
    · exact ⟨eI, eI, eI, eI, eI, eI, eI, eI, eI, eI, eI, trivial⟩
    · refine ⟨?_, ?_, ?_, ?_, ?_, ?_, ?_, ?_, ?_, ?_, ?_, trivial⟩
      · exact fun _ _ _ he hd => ob_mv rfl rfl he.1
      · exact fun aa ww hb he hd => ob_plain rfl (len_c Try.underlying32 rfl hd.1)
      · exact fun aa ww hb he hd => ob_plain rfl (fld_rpb rfl (by decide) he.2.1)
      · exact fun aa ww hb he hd => ob_plain rfl (load_c33 rfl hd.1 (Blk.at1 HBx.out hb))
      · exact fun aa ww hb he hd => ob_plain rfl (len_c Try.underlying33 rfl hd.1)
      · exact fun aa ww hb he hd => ob_plain rfl (gives_ne_int ((m : Int)) ((m : Int)) .i64 _ _ _ _ rfl hd.1 hd.2.1 ⟨congrArg Value.bool (by simp), Below.refl _ _⟩)
      · exact fun _ _ _ he hd => ob_mv rfl rfl hd.1
      · exact fun aa ww hb he hd => ob_on 14 rfl (by kernel_rfl) hd.1 (gives_move _ rfl ⟨he.1, Below.refl _ _⟩)
      · exact fun aa ww hb he hd => ob_on 14 rfl (by kernel_rfl) hd.1 (gives_call1 _ _ _ rfl (by kernel_rfl) (by rw [show aa.eval (.tmp 15) = .slice AX m cX from hd.2.1]; exact ret_t (rleast_any m cX AX X _ ((HX.out.below (bthen HB.out hb HB.out.size)).more (bthen HB.out hb HB.out.size).size) HSX.out (by omega)) (f_iff hp)))
      · exact fun aa ww hb he hd => ob_on 14 rfl (by kernel_rfl) hd.1 (gives_not false _ _ rfl hd.2.1 ⟨rfl, Below.refl _ _⟩)
      · exact fun aa ww hb he hd => ob_plain rfl (gives_pick false _ _ _ rfl hd.1 ⟨hd.2.1, Below.refl _ _⟩)
    intro vs w2 hb hR
    have e18 : vs 10 = .bool true := hR 10 (by decide)
    clear hR
    simp only [putsL, Nat.zero_add, Nat.reduceAdd, List.take_succ_cons, List.take_zero, Act.put, List.setIfInBounds_toArray, List.set_cons_zero, List.set_cons_succ]
    rw [e18]
    clear e18
    clear hp
    go_wp2_with fail
    go_ret
    exact ⟨false, rfl, bthen HB.out hb HB.out.size, by simp; intro h; exact HPp.out h.nonneg⟩
  have HPp := Lib.hid hp
  refine wp_region_seq (kss := [[], [(0, 8)], [], [(2, 10)], [(3, 11)], [(1, 9), (4, 12)], [(5, 13)], [(6, 14)], [(6, 14), (7, 15)], [(6, 14), (8, 16)], [(6, 14), (9, 17)]]) [(1, .slice AX m cX), (3, .pointer (some ⟨gq, 0, none⟩))] [EV (.slice AX m cX), EV (.int .i64 ((m : Int))), EV (.pointer (some ⟨gq, 1, none⟩)), EV (.slice QA m qa), EV (.int .i64 ((m : Int))), EV (.bool false), EV (.bool false), EV (.slice AX m cX), EV (.bool true), EV (.bool false), EV (.bool false)] (by kernel_rfl) ⟨rfl, rfl, trivial⟩ ?_ ?_ ?_
  · exact ⟨eI, eI, eI, eI, eI, eI, eI, eI, eI, eI, eI, trivial⟩
  · refine ⟨?_, ?_, ?_, ?_, ?_, ?_, ?_, ?_, ?_, ?_, ?_, trivial⟩
    · exact fun _ _ _ he hd => ob_mv rfl rfl he.1
    · exact fun aa ww hb he hd => ob_plain rfl (len_c Try.underlying32 rfl hd.1)
    · exact fun aa ww hb he hd => ob_plain rfl (fld_rpb rfl (by decide) he.2.1)
    · exact fun aa ww hb he hd => ob_plain rfl (load_c33 rfl hd.1 (Blk.at1 HBx.out hb))
    · exact fun aa ww hb he hd => ob_plain rfl (len_c Try.underlying33 rfl hd.1)
    · exact fun aa ww hb he hd => ob_plain rfl (gives_ne_int ((m : Int)) ((m : Int)) .i64 _ _ _ _ rfl hd.1 hd.2.1 ⟨congrArg Value.bool (by simp), Below.refl _ _⟩)
    · exact fun _ _ _ he hd => ob_mv rfl rfl hd.1
    · exact fun aa ww hb he hd => ob_on 14 rfl (by kernel_rfl) hd.1 (gives_move _ rfl ⟨he.1, Below.refl _ _⟩)
    · exact fun aa ww hb he hd => ob_on 14 rfl (by kernel_rfl) hd.1 (gives_call1 _ _ _ rfl (by kernel_rfl) (by rw [show aa.eval (.tmp 15) = .slice AX m cX from hd.2.1]; exact ret_t (rleast_any m cX AX X _ ((HX.out.below (bthen HB.out hb HB.out.size)).more (bthen HB.out hb HB.out.size).size) HSX.out (by omega)) (t_iff hp)))
    · exact fun aa ww hb he hd => ob_on 14 rfl (by kernel_rfl) hd.1 (gives_not true _ _ rfl hd.2.1 ⟨rfl, Below.refl _ _⟩)
    · exact fun aa ww hb he hd => ob_plain rfl (gives_pick false _ _ _ rfl hd.1 ⟨hd.2.1, Below.refl _ _⟩)
  intro vs w2 hb hR
  have e18 : vs 10 = .bool false := hR 10 (by decide)
  clear hR
  simp only [putsL, Nat.zero_add, Nat.reduceAdd, List.take_succ_cons, List.take_zero, Act.put, List.setIfInBounds_toArray, List.set_cons_zero, List.set_cons_succ]
  rw [e18]
  clear e18
  clear hp
  have HX2 := Lib.hid (HBx.out.keep hb)
  have HB2 := Lib.hid (bthen HB.out hb HB.out.size)
  clear HBx HB hb
  go_wp2_with fail
  go_loopg [7] n (fun g iv wr => ∃ j : Nat, iv = .int .i64 j ∧ j + g = n ∧ Hid ((∀ l, l < j → L l ≤ sm (fun i => X i * A i l) m) ∧ Blk wr gq 35 #[.slice QC n qc, .slice QA m qa, .slice QB k qb] ∧ Below w.heap.size w wr))
  case atStart => exact ⟨0, rfl, by omega, Lib.hid ⟨fun l hl => absurd hl (by omega), HX2.out, HB2.out⟩⟩
  case round =>
    obtain ⟨j, rfl, hjn, HI⟩ := hrel
    clear HX2 HB2
    have HS := Lib.hid HI.out.1
    have HBx := Lib.hid HI.out.2.1
    have HB := Lib.hid HI.out.2.2
    clear HI
    by_cases hj : j < n
    · have i1 : ((j : Int) < (n : Int)) := by omega
      obtain ⟨adL, rfl, -⟩ := Reads.pr HL.out hj
      go_upto_region 6 with (fail)
      by_cases hq0 : sm (fun i => X i * A i j) m < L j
      · have hq : decide (rcq (sm (fun l => X l * A l j) m) (L j) < 0) = true := rcq_ltd.trans (decide_eq_true hq0)
        refine wp_region_each (kss := [[], [], [], [(1, 26), (2, 27)], [(0, 25), (3, 28)], [], [], [(5, 30), (6, 31)], [(7, 32)], [(4, 29), (8, 33)], [(9, 34)]]) [(1, .slice AX m cX), (3, .pointer (some ⟨gq, 0, none⟩)), (7, .int .i64 ((j : Int))), (2, .slice ((some adL)) n cL)] [EV (.slice AX m cX), EV (.agg #[.slice QC n qc, .slice QA m qa, .slice QB k qb]), EV (.int .i64 ((j : Int))), fun v w' => ∃ (A0 : Option Addr) (c0 : Nat), v = .slice A0 m c0 ∧ Reads w' w'.heap.size 2 A0 m (qsL (fun i => A i j) m), EV (QL (sm (fun l => X l * (fun i => A i j) l) m)), EV (.slice ((some adL)) n cL), EV (.int .i64 ((j : Int))), EV (.pointer (some (Addr.add adL (j * 2)))), EV (QL (L j)), EV (.int .i64 (rcq (sm (fun l => X l * (fun i => A i j) l) m) (L j))), EV (.bool true)] (by kernel_rfl) (by kernel_rfl) ⟨rfl, rfl, rfl, rfl, trivial⟩ ?_ ?_ ?_
        · exact ⟨eI, eI, eI, fun _ _ _ ⟨A0, c0, h1, h2⟩ hb => ⟨A0, c0, h1, (h2.below hb).more hb.size⟩, eI, eI, eI, eI, eI, eI, eI, trivial⟩
        · refine ⟨?_, ?_, ?_, ?_, ?_, ?_, ?_, ?_, ?_, ?_, ?_, trivial⟩
          · exact fun _ _ _ he hd => ob_mv rfl rfl he.1
          · exact fun aa ww hb he hd => ob_plain rfl (load_rpb rfl he.2.1 (Blk.keep HBx.out hb))
          · exact fun _ _ _ he hd => ob_mv rfl rfl he.2.2.1
          · exact fun aa ww hb he hd => ob_plain rfl (gives_call2 _ _ _ _ rfl (by kernel_rfl) (by rw [show aa.eval (.tmp 26) = .agg #[.slice QC n qc, .slice QA m qa, .slice QB k qb] from hd.1, show aa.eval (.tmp 27) = .int .i64 ((j : Int)) from hd.2.1]; exact rcolumn_any n m k j qc qa qb QC QA QB Qr qp A C B _ (RqW.new HQ.out (bthen HB.out hb HB.out.size)) (by omega) (by omega)))
          · exact fun aa ww hb he hd => ob_plain rfl (by obtain ⟨A0, c0, e0, r0⟩ := hd.2.1; exact gives_call2 _ _ _ _ rfl (by kernel_rfl) (by rw [show aa.eval (.tmp 25) = .slice AX m cX from hd.1, show aa.eval (.tmp 28) = _ from e0]; exact rdot_any m m cX c0 AX A0 X (fun i => A i j) _ ((HX.out.below (bthen HB.out hb HB.out.size)).more (bthen HB.out hb HB.out.size).size) r0 (Nat.le_refl _) (by omega) (HD.out j (by omega))))
          · exact fun _ _ _ he hd => ob_mv rfl rfl he.2.2.2.1
          · exact fun _ _ _ he hd => ob_mv rfl rfl he.2.2.1
          · exact fun aa ww hb he hd => ob_plain rfl (idx_qs (by omega) rfl hd.1 hd.2.1)
          · exact fun aa ww hb he hd => ob_plain rfl (load_qs rfl hd.1 ((HL.out.below (bthen HB.out hb HB.out.size)).more (bthen HB.out hb HB.out.size).size) (by omega))
          · exact fun aa ww hb he hd => ob_plain rfl (gives_call2 _ _ _ _ rfl (by kernel_rfl) (rcmp_v (x := sm (fun l => X l * (fun i => A i j) l) m) (y := L j) ((HD.out j (by omega)).h4 m (Nat.le_refl _)) (HSL.out j (by omega)) _ _ hd.1 hd.2.1 _))
          · exact fun aa ww hb he hd => ob_plain rfl (gives_lt_int (rcq (sm (fun l => X l * (fun i => A i j) l) m) (L j)) 0 .i64 _ _ _ _ rfl hd.1 rfl ⟨congrArg Value.bool (hq), Below.refl _ _⟩)
        intro vs w4 hb hR
        have e35 : vs 10 = .bool true := hR 10 (by decide)
        clear hR
        simp only [putsL, Nat.zero_add, Nat.reduceAdd, List.take_succ_cons, List.take_zero, Act.put, List.setIfInBounds_toArray, List.set_cons_zero, List.set_cons_succ]
        rw [e35]
        clear e35
        go_wp2_with fail
        go_ret
        exact ⟨false, rfl, bthen HB.out hb HB.out.size, by simp; intro h; have := h.ge j hj; grind⟩
      · have hq : decide (rcq (sm (fun l => X l * A l j) m) (L j) < 0) = false := rcq_ltd.trans (decide_eq_false hq0)
        refine wp_region_each (kss := [[], [], [], [(1, 26), (2, 27)], [(0, 25), (3, 28)], [], [], [(5, 30), (6, 31)], [(7, 32)], [(4, 29), (8, 33)], [(9, 34)]]) [(1, .slice AX m cX), (3, .pointer (some ⟨gq, 0, none⟩)), (7, .int .i64 ((j : Int))), (2, .slice ((some adL)) n cL)] [EV (.slice AX m cX), EV (.agg #[.slice QC n qc, .slice QA m qa, .slice QB k qb]), EV (.int .i64 ((j : Int))), fun v w' => ∃ (A0 : Option Addr) (c0 : Nat), v = .slice A0 m c0 ∧ Reads w' w'.heap.size 2 A0 m (qsL (fun i => A i j) m), EV (QL (sm (fun l => X l * (fun i => A i j) l) m)), EV (.slice ((some adL)) n cL), EV (.int .i64 ((j : Int))), EV (.pointer (some (Addr.add adL (j * 2)))), EV (QL (L j)), EV (.int .i64 (rcq (sm (fun l => X l * (fun i => A i j) l) m) (L j))), EV (.bool false)] (by kernel_rfl) (by kernel_rfl) ⟨rfl, rfl, rfl, rfl, trivial⟩ ?_ ?_ ?_
        · exact ⟨eI, eI, eI, fun _ _ _ ⟨A0, c0, h1, h2⟩ hb => ⟨A0, c0, h1, (h2.below hb).more hb.size⟩, eI, eI, eI, eI, eI, eI, eI, trivial⟩
        · refine ⟨?_, ?_, ?_, ?_, ?_, ?_, ?_, ?_, ?_, ?_, ?_, trivial⟩
          · exact fun _ _ _ he hd => ob_mv rfl rfl he.1
          · exact fun aa ww hb he hd => ob_plain rfl (load_rpb rfl he.2.1 (Blk.keep HBx.out hb))
          · exact fun _ _ _ he hd => ob_mv rfl rfl he.2.2.1
          · exact fun aa ww hb he hd => ob_plain rfl (gives_call2 _ _ _ _ rfl (by kernel_rfl) (by rw [show aa.eval (.tmp 26) = .agg #[.slice QC n qc, .slice QA m qa, .slice QB k qb] from hd.1, show aa.eval (.tmp 27) = .int .i64 ((j : Int)) from hd.2.1]; exact rcolumn_any n m k j qc qa qb QC QA QB Qr qp A C B _ (RqW.new HQ.out (bthen HB.out hb HB.out.size)) (by omega) (by omega)))
          · exact fun aa ww hb he hd => ob_plain rfl (by obtain ⟨A0, c0, e0, r0⟩ := hd.2.1; exact gives_call2 _ _ _ _ rfl (by kernel_rfl) (by rw [show aa.eval (.tmp 25) = .slice AX m cX from hd.1, show aa.eval (.tmp 28) = _ from e0]; exact rdot_any m m cX c0 AX A0 X (fun i => A i j) _ ((HX.out.below (bthen HB.out hb HB.out.size)).more (bthen HB.out hb HB.out.size).size) r0 (Nat.le_refl _) (by omega) (HD.out j (by omega))))
          · exact fun _ _ _ he hd => ob_mv rfl rfl he.2.2.2.1
          · exact fun _ _ _ he hd => ob_mv rfl rfl he.2.2.1
          · exact fun aa ww hb he hd => ob_plain rfl (idx_qs (by omega) rfl hd.1 hd.2.1)
          · exact fun aa ww hb he hd => ob_plain rfl (load_qs rfl hd.1 ((HL.out.below (bthen HB.out hb HB.out.size)).more (bthen HB.out hb HB.out.size).size) (by omega))
          · exact fun aa ww hb he hd => ob_plain rfl (gives_call2 _ _ _ _ rfl (by kernel_rfl) (rcmp_v (x := sm (fun l => X l * (fun i => A i j) l) m) (y := L j) ((HD.out j (by omega)).h4 m (Nat.le_refl _)) (HSL.out j (by omega)) _ _ hd.1 hd.2.1 _))
          · exact fun aa ww hb he hd => ob_plain rfl (gives_lt_int (rcq (sm (fun l => X l * (fun i => A i j) l) m) (L j)) 0 .i64 _ _ _ _ rfl hd.1 rfl ⟨congrArg Value.bool (hq), Below.refl _ _⟩)
        intro vs w4 hb hR
        have e35 : vs 10 = .bool false := hR 10 (by decide)
        clear hR
        simp only [putsL, Nat.zero_add, Nat.reduceAdd, List.take_succ_cons, List.take_zero, Act.put, List.setIfInBounds_toArray, List.set_cons_zero, List.set_cons_succ]
        rw [e35]
        clear e35
        have HQn := Lib.hid (HBx.out.keep hb)
        have HBn := Lib.hid (bthen HB.out hb HB.out.size)
        clear hq hb HBx HB
        go_wp2_with fail
        go_roundg (gk - 1)
        case measure => omega
        case rel => exact ⟨j + 1, by go_num, by omega, Lib.hid ⟨fun l hl => by
          by_cases hli : l = j
          · rw [hli]; grind
          · exact HS.out l (by omega), HQn.out, HBn.out⟩⟩
    · obtain rfl : n = j := by omega
      go_wp2_with fail
      go_ret
      exact ⟨true, rfl, HB.out, by simp; exact ⟨HPp.out, HS.out⟩⟩
end Go.Proofs.Ytamcibmjpmibdaa
