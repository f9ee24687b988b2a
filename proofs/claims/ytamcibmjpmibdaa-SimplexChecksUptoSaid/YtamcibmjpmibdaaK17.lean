/-
Contract of the reference's Check. Printed by gen/srf.py.
-/
import Derived.Test.YtamcibmjpmibdaaK16
namespace Go.Proofs.Ytamcibmjpmibdaa
open Go.RowKit
set_option linter.unusedVariables false
set_option linter.unusedSimpArgs false

/-- What the reference's Check says. -/
def RchP (n m : Nat) (A : Nat → Nat → Rat) (B C : Nat → Rat) (z : Int) (kX kY kR : Nat) (X Y R : Nat → Rat) (v : Rat) : Prop :=
  (z = 0 ∧ (kX = n ∧ Primal n m A B X) ∧ (kY = m ∧ DualF n m A C Y) ∧ kR = 0 ∧ sm (fun l => C l * X l) n = v ∧ sm (fun l => B l * Y l) m = v)
  ∨ (z = 1 ∧ (kY = m ∧ DualF n m A (fun _ => 0) Y) ∧ sm (fun l => B l * Y l) m < 0 ∧ kX = 0 ∧ kR = 0 ∧ v = 0)
  ∨ (z = 2 ∧ (kX = n ∧ Primal n m A B X) ∧ (kR = n ∧ Primal n m A (fun _ => 0) R) ∧ 0 < sm (fun l => C l * R l) n ∧ kY = 0 ∧ v = 0)
set_option maxRecDepth 100000 in
set_option maxHeartbeats 20000000 in
theorem rcheck_any (n m kX kY kR qc qa qb cX cY cR : Nat) (QC QA QB AX AY AR : Option Addr) (Qr : Nat → Option Addr) (qp : Nat → Nat) (A : Nat → Nat → Rat) (C B X Y R : Nat → Rat) (z : Int) (v : Rat) (w : World) (hP : RqW w n m m QC QA QB Qr (fun _ => n) qp A C B) (hX : Reads w w.heap.size 2 AX kX (qsL X kX)) (hY : Reads w w.heap.size 2 AY kY (qsL Y kY)) (hR : Reads w w.heap.size 2 AR kR (qsL R kR)) (hV : Sm v)
    (fA : ∀ i j, Frac 12 108 (A i j)) (fB : ∀ i, Frac 12 108 (B i)) (fC : ∀ i, Frac 12 108 (C i)) (fX : ∀ i, Frac 12 108 (X i)) (fY : ∀ i, Frac 12 108 (Y i)) (fR : ∀ i, Frac 12 108 (R i)) (hn : n ≤ 6) (hm : m ≤ 6) (hkX : kX ≤ 6) (hkY : kY ≤ 6) (hkR : kR ≤ 6) :
    Calls Try.prog 21 #[.agg #[.slice QC n qc, .slice QA m qa, .slice QB m qb], .int .i64 z, .slice AX kX cX, .slice AY kY cY, .slice AR kR cR, QL v] w (BRet (RchP n m A B C z kX kY kR X Y R v) w) := by
  have HQ := Lib.hid hP; have HX := Lib.hid hX; have HY := Lib.hid hY; have HR := Lib.hid hR; have HsV := Lib.hid hV; have HfA := Lib.hid fA; have HfB := Lib.hid fB; have HfC := Lib.hid fC; have HfX := Lib.hid fX; have HfY := Lib.hid fY; have HfR := Lib.hid fR; clear hP hX hY hR hV fA fB fC fX fY fR
  have HsB := Lib.hid (fun i => (HfB.out i).small (by omega) (by omega) (by omega))
  have HsC := Lib.hid (fun i => (HfC.out i).small (by omega) (by omega) (by omega))
  have HsX := Lib.hid (fun i => (HfX.out i).small (by omega) (by omega) (by omega))
  have HsY := Lib.hid (fun i => (HfY.out i).small (by omega) (by omega) (by omega))
  have HsR := Lib.hid (fun i => (HfR.out i).small (by omega) (by omega) (by omega))
  show Calls Try.prog 21 #[.agg #[.slice QC n qc, .slice QA m qa, .slice QB m qb], .int .i64 z, .slice AX kX cX, .slice AY kY cY, .slice AR kR cR, .agg #[.int .i64 v.num, .int .i64 (v.den : Int)]] w _
  go_enter Try.func21, Try.ntmps21
  go_upto_region 1 with (fail)
  have hbw := bthen (al w (.cells #[.slice QC n qc, .slice QA m qa, .slice QB m qb] 35)) (al _ (.cells #[.int .i64 v.num, .int .i64 (v.den : Int)] 58)) (by simp)
  have HBx := Lib.hid ((Blk.new w 35 #[.slice QC n qc, .slice QA m qa, .slice QB m qb]).keep (al _ (.cells #[.int .i64 v.num, .int .i64 (v.den : Int)] 58)))
  have HVx := Lib.hid (Blk.new (w.alloc (.cells #[.slice QC n qc, .slice QA m qa, .slice QB m qb] 35)) 58 #[.int .i64 v.num, .int .i64 (v.den : Int)])
  rw [show (w.alloc (.cells #[.slice QC n qc, .slice QA m qa, .slice QB m qb] 35)).heap.size = w.heap.size + 1 from by simp] at HVx
  have HB := Lib.hid hbw
  clear hbw
  generalize (w.alloc (.cells #[.slice QC n qc, .slice QA m qa, .slice QB m qb] 35)).alloc (.cells #[.int .i64 v.num, .int .i64 (v.den : Int)] 58) = w1 at *
  obtain ⟨gq, hgq⟩ : ∃ gq, gq = w.heap.size := ⟨_, rfl⟩
  obtain ⟨gv, hgv⟩ : ∃ gv, gv = w.heap.size + 1 := ⟨_, rfl⟩
  rw [← hgv] at HVx ⊢
  rw [← hgq] at HBx ⊢
  have HGgq := Lib.hid (show w.heap.size ≤ gq ∧ w.heap.size ≤ gv from by omega)
  clear hgq hgv
  have HV := Lib.hid (show Qb v gv w1 from HVx.out)
  clear HVx
  by_cases hz0 : z = 0
  · subst hz0
    go_upto_region 3 with (fail)
    by_cases h0 : kR = 0
    rotate_left
    · have H0 := Lib.hid h0; clear h0
      refine wp_region_each (kss := [[], [(0, 16)], [(1, 17)], [(2, 18)], [(3, 19)], [(3, 19)], [(3, 19)], [(3, 19), (6, 22)], [(3, 19), (4, 20), (5, 21), (7, 23)], [(3, 19), (8, 24)], [(9, 25)], [(10, 26)], [(10, 26)], [(10, 26)], [(10, 26), (13, 29)], [(10, 26), (11, 27), (12, 28), (14, 30)], [(10, 26), (15, 31)], [(16, 32)], [(17, 33)], [(17, 33), (18, 34)], [(17, 33)], [(17, 33), (19, 35), (20, 36)], [(17, 33)], [(17, 33), (21, 37), (22, 38)], [(17, 33), (23, 39)], [(17, 33), (24, 40)], [(25, 41)], [(26, 42)], [(26, 42), (27, 43)], [(26, 42)], [(26, 42), (28, 44), (29, 45)], [(26, 42)], [(26, 42), (30, 46), (31, 47)], [(26, 42), (32, 48)], [(26, 42), (33, 49)], [(34, 50)]]) [(4, .slice AR kR cR), (6, .pointer (some ⟨gq, 0, none⟩)), (2, .slice AX kX cX), (3, .slice AY kY cY), (11, .pointer (some ⟨gv, 0, none⟩))] [EV (.slice AR kR cR), EV (.int .i64 ((kR : Int))), EV (.bool false), EV (.bool false), UD, UD, UD, UD, UD, EV (.bool false), EV (.bool false), UD, UD, UD, UD, UD, EV (.bool false), EV (.bool false), UD, UD, UD, UD, UD, UD, UD, EV (.bool false), EV (.bool false), UD, UD, UD, UD, UD, UD, UD, EV (.bool false), EV (.bool false)] (by kernel_rfl) (by kernel_rfl) ⟨rfl, rfl, rfl, rfl, rfl, trivial⟩ ?_ ?_ ?_
      · exact ⟨sI, sI, sI, sI, sI, sI, sI, sI, sI, sI, sI, sI, sI, sI, sI, sI, sI, sI, sI, sI, sI, sI, sI, sI, sI, sI, sI, sI, sI, sI, sI, sI, sI, sI, sI, sI, trivial⟩
      · refine ⟨?_, ?_, ?_, ?_, ?_, ?_, ?_, ?_, ?_, ?_, ?_, ?_, ?_, ?_, ?_, ?_, ?_, ?_, ?_, ?_, ?_, ?_, ?_, ?_, ?_, ?_, ?_, ?_, ?_, ?_, ?_, ?_, ?_, ?_, ?_, ?_, trivial⟩
        · exact fun _ _ _ he hd => ob_mv rfl rfl he.1
        · exact fun aa ww hb he hd => ob_plain rfl (len_c Try.underlying32 rfl hd.1)
        · exact fun aa ww hb he hd => ob_plain rfl (gives_eq_int ((kR : Int)) 0 .i64 _ _ _ _ rfl hd.1 rfl ⟨congrArg Value.bool (keq0.trans (decide_eq_false H0.out)), Below.refl _ _⟩)
        · exact fun _ _ _ he hd => ob_mv rfl rfl hd.1
        iterate 5 exact fun aa ww hb he hd => ob_off 19 rfl (by kernel_rfl) hd.1 rfl
        · exact fun aa ww hb he hd => ob_plain rfl (gives_pick false _ _ _ rfl hd.1 ⟨rfl, Below.refl _ _⟩)
        · exact fun _ _ _ he hd => ob_mv rfl rfl hd.1
        iterate 5 exact fun aa ww hb he hd => ob_off 26 rfl (by kernel_rfl) hd.1 rfl
        · exact fun aa ww hb he hd => ob_plain rfl (gives_pick false _ _ _ rfl hd.1 ⟨rfl, Below.refl _ _⟩)
        · exact fun _ _ _ he hd => ob_mv rfl rfl hd.1
        iterate 7 exact fun aa ww hb he hd => ob_off 33 rfl (by kernel_rfl) hd.1 rfl
        · exact fun aa ww hb he hd => ob_plain rfl (gives_pick false _ _ _ rfl hd.1 ⟨rfl, Below.refl _ _⟩)
        · exact fun _ _ _ he hd => ob_mv rfl rfl hd.1
        iterate 7 exact fun aa ww hb he hd => ob_off 42 rfl (by kernel_rfl) hd.1 rfl
        · exact fun aa ww hb he hd => ob_plain rfl (gives_pick false _ _ _ rfl hd.1 ⟨rfl, Below.refl _ _⟩)
        · exact fun aa ww hb he hd => ob_plain rfl (gives_assign _ rfl ⟨hd.1, Below.refl _ _⟩)
      intro vs w4 hb hR
      have e12 : vs 35 = .bool false := hR 35 (by decide)
      clear hR
      simp only [putsL, Nat.zero_add, Nat.reduceAdd, List.take_succ_cons, List.take_zero, Act.put, List.setIfInBounds_toArray, List.set_cons_zero, List.set_cons_succ]
      rw [e12]
      clear e12
      go_wp2_with fail
      go_ret
      exact ⟨false, rfl, bthen HB.out hb HB.out.size, f_iff (fun h => by
        rcases h with ⟨h, q⟩ | ⟨h, q⟩ | ⟨h, q⟩
        · exact H0.out q.2.2.1
        · exact absurd h (by decide)
        · exact absurd h (by decide))⟩
    · have H0 := Lib.hid h0; clear h0
      by_cases h1 : kX = n ∧ Primal n m A B X
      rotate_left
      · have H1 := Lib.hid h1; clear h1
        refine wp_region_each (kss := [[], [(0, 16)], [(1, 17)], [(2, 18)], [(3, 19)], [(3, 19)], [(3, 19)], [(3, 19), (6, 22)], [(3, 19), (4, 20), (5, 21), (7, 23)], [(3, 19), (8, 24)], [(9, 25)], [(10, 26)], [(10, 26)], [(10, 26)], [(10, 26), (13, 29)], [(10, 26), (11, 27), (12, 28), (14, 30)], [(10, 26), (15, 31)], [(16, 32)], [(17, 33)], [(17, 33), (18, 34)], [(17, 33)], [(17, 33), (19, 35), (20, 36)], [(17, 33)], [(17, 33), (21, 37), (22, 38)], [(17, 33), (23, 39)], [(17, 33), (24, 40)], [(25, 41)], [(26, 42)], [(26, 42), (27, 43)], [(26, 42)], [(26, 42), (28, 44), (29, 45)], [(26, 42)], [(26, 42), (30, 46), (31, 47)], [(26, 42), (32, 48)], [(26, 42), (33, 49)], [(34, 50)]]) [(4, .slice AR kR cR), (6, .pointer (some ⟨gq, 0, none⟩)), (2, .slice AX kX cX), (3, .slice AY kY cY), (11, .pointer (some ⟨gv, 0, none⟩))] [EV (.slice AR kR cR), EV (.int .i64 ((kR : Int))), EV (.bool true), EV (.bool true), EV (.agg #[.slice QC n qc, .slice QA m qa, .slice QB m qb]), EV (.slice AX kX cX), EV (.pointer (some ⟨gq, 2, none⟩)), EV (.slice QB m qb), EV (.bool false), EV (.bool false), EV (.bool false), UD, UD, UD, UD, UD, EV (.bool false), EV (.bool false), UD, UD, UD, UD, UD, UD, UD, EV (.bool false), EV (.bool false), UD, UD, UD, UD, UD, UD, UD, EV (.bool false), EV (.bool false)] (by kernel_rfl) (by kernel_rfl) ⟨rfl, rfl, rfl, rfl, rfl, trivial⟩ ?_ ?_ ?_
        · exact ⟨sI, sI, sI, sI, sI, sI, sI, sI, sI, sI, sI, sI, sI, sI, sI, sI, sI, sI, sI, sI, sI, sI, sI, sI, sI, sI, sI, sI, sI, sI, sI, sI, sI, sI, sI, sI, trivial⟩
        · refine ⟨?_, ?_, ?_, ?_, ?_, ?_, ?_, ?_, ?_, ?_, ?_, ?_, ?_, ?_, ?_, ?_, ?_, ?_, ?_, ?_, ?_, ?_, ?_, ?_, ?_, ?_, ?_, ?_, ?_, ?_, ?_, ?_, ?_, ?_, ?_, ?_, trivial⟩
          · exact fun _ _ _ he hd => ob_mv rfl rfl he.1
          · exact fun aa ww hb he hd => ob_plain rfl (len_c Try.underlying32 rfl hd.1)
          · exact fun aa ww hb he hd => ob_plain rfl (gives_eq_int ((kR : Int)) 0 .i64 _ _ _ _ rfl hd.1 rfl ⟨congrArg Value.bool (keq0.trans (decide_eq_true H0.out)), Below.refl _ _⟩)
          · exact fun _ _ _ he hd => ob_mv rfl rfl hd.1
          · exact fun aa ww hb he hd => ob_on 19 rfl (by kernel_rfl) hd.1 (load_rpb rfl he.2.1 (Blk.keep HBx.out hb))
          · exact fun aa ww hb he hd => ob_on 19 rfl (by kernel_rfl) hd.1 (gives_move _ rfl ⟨he.2.2.1, Below.refl _ _⟩)
          · exact fun aa ww hb he hd => ob_on 19 rfl (by kernel_rfl) hd.1 (fld_rpb rfl (by decide) he.2.1)
          · exact fun aa ww hb he hd => ob_on 19 rfl (by kernel_rfl) hd.1 (load_c32 rfl hd.2.1 (Blk.at2 HBx.out hb))
          · exact fun aa ww hb he hd => ob_on 19 rfl (by kernel_rfl) hd.1 (gives_call3 _ _ _ _ _ rfl (by kernel_rfl) (by rw [show aa.eval (.tmp 20) = .agg #[.slice QC n qc, .slice QA m qa, .slice QB m qb] from hd.2.1, show aa.eval (.tmp 21) = .slice AX kX cX from hd.2.2.1, show aa.eval (.tmp 23) = .slice QB m qb from hd.2.2.2.1]; exact ret_t (rfeas_any n m m kX m qc qa qb cX qb QC QA QB AX QB Qr qp A C B X B _ (RqW.new HQ.out (bthen HB.out hb HB.out.size)) ((HX.out.below (bthen HB.out hb HB.out.size)).more (bthen HB.out hb HB.out.size).size) (((RqW.new HQ.out (bthen HB.out hb HB.out.size)).b)) (by omega) (fun i _ => HsX.out i) (fun i _ => HsB.out i) (fun i _ => dotS (by omega) (fun k _ => HfA.out i k) (fun k _ => HfX.out k)) (by omega) (by omega) (by omega)) (f_iff H1.out)))
          · exact fun aa ww hb he hd => ob_plain rfl (gives_pick true _ _ _ rfl hd.1 ⟨hd.2.1, Below.refl _ _⟩)
          · exact fun _ _ _ he hd => ob_mv rfl rfl hd.1
          iterate 5 exact fun aa ww hb he hd => ob_off 26 rfl (by kernel_rfl) hd.1 rfl
          · exact fun aa ww hb he hd => ob_plain rfl (gives_pick false _ _ _ rfl hd.1 ⟨rfl, Below.refl _ _⟩)
          · exact fun _ _ _ he hd => ob_mv rfl rfl hd.1
          iterate 7 exact fun aa ww hb he hd => ob_off 33 rfl (by kernel_rfl) hd.1 rfl
          · exact fun aa ww hb he hd => ob_plain rfl (gives_pick false _ _ _ rfl hd.1 ⟨rfl, Below.refl _ _⟩)
          · exact fun _ _ _ he hd => ob_mv rfl rfl hd.1
          iterate 7 exact fun aa ww hb he hd => ob_off 42 rfl (by kernel_rfl) hd.1 rfl
          · exact fun aa ww hb he hd => ob_plain rfl (gives_pick false _ _ _ rfl hd.1 ⟨rfl, Below.refl _ _⟩)
          · exact fun aa ww hb he hd => ob_plain rfl (gives_assign _ rfl ⟨hd.1, Below.refl _ _⟩)
        intro vs w4 hb hR
        have e12 : vs 35 = .bool false := hR 35 (by decide)
        clear hR
        simp only [putsL, Nat.zero_add, Nat.reduceAdd, List.take_succ_cons, List.take_zero, Act.put, List.setIfInBounds_toArray, List.set_cons_zero, List.set_cons_succ]
        rw [e12]
        clear e12
        go_wp2_with fail
        go_ret
        exact ⟨false, rfl, bthen HB.out hb HB.out.size, f_iff (fun h => by
          rcases h with ⟨h, q⟩ | ⟨h, q⟩ | ⟨h, q⟩
          · exact H1.out q.1
          · exact absurd h (by decide)
          · exact absurd h (by decide))⟩
      · have H1 := Lib.hid h1; clear h1
        have hnx : n ≤ kX := by have := H1.out.1; omega
        by_cases h2 : kY = m ∧ DualF n m A C Y
        rotate_left
        · have H2 := Lib.hid h2; clear h2
          refine wp_region_each (kss := [[], [(0, 16)], [(1, 17)], [(2, 18)], [(3, 19)], [(3, 19)], [(3, 19)], [(3, 19), (6, 22)], [(3, 19), (4, 20), (5, 21), (7, 23)], [(3, 19), (8, 24)], [(9, 25)], [(10, 26)], [(10, 26)], [(10, 26)], [(10, 26), (13, 29)], [(10, 26), (11, 27), (12, 28), (14, 30)], [(10, 26), (15, 31)], [(16, 32)], [(17, 33)], [(17, 33), (18, 34)], [(17, 33)], [(17, 33), (19, 35), (20, 36)], [(17, 33)], [(17, 33), (21, 37), (22, 38)], [(17, 33), (23, 39)], [(17, 33), (24, 40)], [(25, 41)], [(26, 42)], [(26, 42), (27, 43)], [(26, 42)], [(26, 42), (28, 44), (29, 45)], [(26, 42)], [(26, 42), (30, 46), (31, 47)], [(26, 42), (32, 48)], [(26, 42), (33, 49)], [(34, 50)]]) [(4, .slice AR kR cR), (6, .pointer (some ⟨gq, 0, none⟩)), (2, .slice AX kX cX), (3, .slice AY kY cY), (11, .pointer (some ⟨gv, 0, none⟩))] [EV (.slice AR kR cR), EV (.int .i64 ((kR : Int))), EV (.bool true), EV (.bool true), EV (.agg #[.slice QC n qc, .slice QA m qa, .slice QB m qb]), EV (.slice AX kX cX), EV (.pointer (some ⟨gq, 2, none⟩)), EV (.slice QB m qb), EV (.bool true), EV (.bool true), EV (.bool true), EV (.agg #[.slice QC n qc, .slice QA m qa, .slice QB m qb]), EV (.slice AY kY cY), EV (.pointer (some ⟨gq, 0, none⟩)), EV (.slice QC n qc), EV (.bool false), EV (.bool false), EV (.bool false), UD, UD, UD, UD, UD, UD, UD, EV (.bool false), EV (.bool false), UD, UD, UD, UD, UD, UD, UD, EV (.bool false), EV (.bool false)] (by kernel_rfl) (by kernel_rfl) ⟨rfl, rfl, rfl, rfl, rfl, trivial⟩ ?_ ?_ ?_
          · exact ⟨sI, sI, sI, sI, sI, sI, sI, sI, sI, sI, sI, sI, sI, sI, sI, sI, sI, sI, sI, sI, sI, sI, sI, sI, sI, sI, sI, sI, sI, sI, sI, sI, sI, sI, sI, sI, trivial⟩
          · refine ⟨?_, ?_, ?_, ?_, ?_, ?_, ?_, ?_, ?_, ?_, ?_, ?_, ?_, ?_, ?_, ?_, ?_, ?_, ?_, ?_, ?_, ?_, ?_, ?_, ?_, ?_, ?_, ?_, ?_, ?_, ?_, ?_, ?_, ?_, ?_, ?_, trivial⟩
            · exact fun _ _ _ he hd => ob_mv rfl rfl he.1
            · exact fun aa ww hb he hd => ob_plain rfl (len_c Try.underlying32 rfl hd.1)
            · exact fun aa ww hb he hd => ob_plain rfl (gives_eq_int ((kR : Int)) 0 .i64 _ _ _ _ rfl hd.1 rfl ⟨congrArg Value.bool (keq0.trans (decide_eq_true H0.out)), Below.refl _ _⟩)
            · exact fun _ _ _ he hd => ob_mv rfl rfl hd.1
            · exact fun aa ww hb he hd => ob_on 19 rfl (by kernel_rfl) hd.1 (load_rpb rfl he.2.1 (Blk.keep HBx.out hb))
            · exact fun aa ww hb he hd => ob_on 19 rfl (by kernel_rfl) hd.1 (gives_move _ rfl ⟨he.2.2.1, Below.refl _ _⟩)
            · exact fun aa ww hb he hd => ob_on 19 rfl (by kernel_rfl) hd.1 (fld_rpb rfl (by decide) he.2.1)
            · exact fun aa ww hb he hd => ob_on 19 rfl (by kernel_rfl) hd.1 (load_c32 rfl hd.2.1 (Blk.at2 HBx.out hb))
            · exact fun aa ww hb he hd => ob_on 19 rfl (by kernel_rfl) hd.1 (gives_call3 _ _ _ _ _ rfl (by kernel_rfl) (by rw [show aa.eval (.tmp 20) = .agg #[.slice QC n qc, .slice QA m qa, .slice QB m qb] from hd.2.1, show aa.eval (.tmp 21) = .slice AX kX cX from hd.2.2.1, show aa.eval (.tmp 23) = .slice QB m qb from hd.2.2.2.1]; exact ret_t (rfeas_any n m m kX m qc qa qb cX qb QC QA QB AX QB Qr qp A C B X B _ (RqW.new HQ.out (bthen HB.out hb HB.out.size)) ((HX.out.below (bthen HB.out hb HB.out.size)).more (bthen HB.out hb HB.out.size).size) (((RqW.new HQ.out (bthen HB.out hb HB.out.size)).b)) (by omega) (fun i _ => HsX.out i) (fun i _ => HsB.out i) (fun i _ => dotS (by omega) (fun k _ => HfA.out i k) (fun k _ => HfX.out k)) (by omega) (by omega) (by omega)) (t_iff H1.out)))
            · exact fun aa ww hb he hd => ob_plain rfl (gives_pick true _ _ _ rfl hd.1 ⟨hd.2.1, Below.refl _ _⟩)
            · exact fun _ _ _ he hd => ob_mv rfl rfl hd.1
            · exact fun aa ww hb he hd => ob_on 26 rfl (by kernel_rfl) hd.1 (load_rpb rfl he.2.1 (Blk.keep HBx.out hb))
            · exact fun aa ww hb he hd => ob_on 26 rfl (by kernel_rfl) hd.1 (gives_move _ rfl ⟨he.2.2.2.1, Below.refl _ _⟩)
            · exact fun aa ww hb he hd => ob_on 26 rfl (by kernel_rfl) hd.1 (fld_rpb rfl (by decide) he.2.1)
            · exact fun aa ww hb he hd => ob_on 26 rfl (by kernel_rfl) hd.1 (load_c32 rfl hd.2.1 (Blk.at0 HBx.out hb))
            · exact fun aa ww hb he hd => ob_on 26 rfl (by kernel_rfl) hd.1 (gives_call3 _ _ _ _ _ rfl (by kernel_rfl) (by rw [show aa.eval (.tmp 27) = .agg #[.slice QC n qc, .slice QA m qa, .slice QB m qb] from hd.2.1, show aa.eval (.tmp 28) = .slice AY kY cY from hd.2.2.1, show aa.eval (.tmp 30) = .slice QC n qc from hd.2.2.2.1]; exact ret_t (rdual_any n m m kY qc qa qb cY qc QC QA QB AY QC Qr qp A C B Y C _ (RqW.new HQ.out (bthen HB.out hb HB.out.size)) ((HY.out.below (bthen HB.out hb HB.out.size)).more (bthen HB.out hb HB.out.size).size) (((RqW.new HQ.out (bthen HB.out hb HB.out.size)).c)) (fun i _ => HsY.out i) (fun i _ => HsC.out i) (fun j _ => dotS (by omega) (fun k _ => HfY.out k) (fun k _ => HfA.out k j)) (by omega) (by omega) (by omega)) (f_iff H2.out)))
            · exact fun aa ww hb he hd => ob_plain rfl (gives_pick true _ _ _ rfl hd.1 ⟨hd.2.1, Below.refl _ _⟩)
            · exact fun _ _ _ he hd => ob_mv rfl rfl hd.1
            iterate 7 exact fun aa ww hb he hd => ob_off 33 rfl (by kernel_rfl) hd.1 rfl
            · exact fun aa ww hb he hd => ob_plain rfl (gives_pick false _ _ _ rfl hd.1 ⟨rfl, Below.refl _ _⟩)
            · exact fun _ _ _ he hd => ob_mv rfl rfl hd.1
            iterate 7 exact fun aa ww hb he hd => ob_off 42 rfl (by kernel_rfl) hd.1 rfl
            · exact fun aa ww hb he hd => ob_plain rfl (gives_pick false _ _ _ rfl hd.1 ⟨rfl, Below.refl _ _⟩)
            · exact fun aa ww hb he hd => ob_plain rfl (gives_assign _ rfl ⟨hd.1, Below.refl _ _⟩)
          intro vs w4 hb hR
          have e12 : vs 35 = .bool false := hR 35 (by decide)
          clear hR
          simp only [putsL, Nat.zero_add, Nat.reduceAdd, List.take_succ_cons, List.take_zero, Act.put, List.setIfInBounds_toArray, List.set_cons_zero, List.set_cons_succ]
          rw [e12]
          clear e12
          go_wp2_with fail
          go_ret
          exact ⟨false, rfl, bthen HB.out hb HB.out.size, f_iff (fun h => by
            rcases h with ⟨h, q⟩ | ⟨h, q⟩ | ⟨h, q⟩
            · exact H2.out q.2.1
            · exact absurd h (by decide)
            · exact absurd h (by decide))⟩
        · have H2 := Lib.hid h2; clear h2
          have hmy : m ≤ kY := by have := H2.out.1; omega
          by_cases h3 : sm (fun l => C l * X l) n = v
          rotate_left
          · have H3 := Lib.hid h3; clear h3
            refine wp_region_each (kss := [[], [(0, 16)], [(1, 17)], [(2, 18)], [(3, 19)], [(3, 19)], [(3, 19)], [(3, 19), (6, 22)], [(3, 19), (4, 20), (5, 21), (7, 23)], [(3, 19), (8, 24)], [(9, 25)], [(10, 26)], [(10, 26)], [(10, 26)], [(10, 26), (13, 29)], [(10, 26), (11, 27), (12, 28), (14, 30)], [(10, 26), (15, 31)], [(16, 32)], [(17, 33)], [(17, 33), (18, 34)], [(17, 33)], [(17, 33), (19, 35), (20, 36)], [(17, 33)], [(17, 33), (21, 37), (22, 38)], [(17, 33), (23, 39)], [(17, 33), (24, 40)], [(25, 41)], [(26, 42)], [(26, 42), (27, 43)], [(26, 42)], [(26, 42), (28, 44), (29, 45)], [(26, 42)], [(26, 42), (30, 46), (31, 47)], [(26, 42), (32, 48)], [(26, 42), (33, 49)], [(34, 50)]]) [(4, .slice AR kR cR), (6, .pointer (some ⟨gq, 0, none⟩)), (2, .slice AX kX cX), (3, .slice AY kY cY), (11, .pointer (some ⟨gv, 0, none⟩))] [EV (.slice AR kR cR), EV (.int .i64 ((kR : Int))), EV (.bool true), EV (.bool true), EV (.agg #[.slice QC n qc, .slice QA m qa, .slice QB m qb]), EV (.slice AX kX cX), EV (.pointer (some ⟨gq, 2, none⟩)), EV (.slice QB m qb), EV (.bool true), EV (.bool true), EV (.bool true), EV (.agg #[.slice QC n qc, .slice QA m qa, .slice QB m qb]), EV (.slice AY kY cY), EV (.pointer (some ⟨gq, 0, none⟩)), EV (.slice QC n qc), EV (.bool true), EV (.bool true), EV (.bool true), EV (.pointer (some ⟨gq, 0, none⟩)), EV (.slice QC n qc), EV (.slice AX kX cX), EV (QL (sm (fun l => C l * X l) n)), EV (QL (v)), EV (.int .i64 (rcq (sm (fun l => C l * X l) n) v)), EV (.bool false), EV (.bool false), EV (.bool false), UD, UD, UD, UD, UD, UD, UD, EV (.bool false), EV (.bool false)] (by kernel_rfl) (by kernel_rfl) ⟨rfl, rfl, rfl, rfl, rfl, trivial⟩ ?_ ?_ ?_
            · exact ⟨sI, sI, sI, sI, sI, sI, sI, sI, sI, sI, sI, sI, sI, sI, sI, sI, sI, sI, sI, sI, sI, sI, sI, sI, sI, sI, sI, sI, sI, sI, sI, sI, sI, sI, sI, sI, trivial⟩
            · refine ⟨?_, ?_, ?_, ?_, ?_, ?_, ?_, ?_, ?_, ?_, ?_, ?_, ?_, ?_, ?_, ?_, ?_, ?_, ?_, ?_, ?_, ?_, ?_, ?_, ?_, ?_, ?_, ?_, ?_, ?_, ?_, ?_, ?_, ?_, ?_, ?_, trivial⟩
              · exact fun _ _ _ he hd => ob_mv rfl rfl he.1
              · exact fun aa ww hb he hd => ob_plain rfl (len_c Try.underlying32 rfl hd.1)
              · exact fun aa ww hb he hd => ob_plain rfl (gives_eq_int ((kR : Int)) 0 .i64 _ _ _ _ rfl hd.1 rfl ⟨congrArg Value.bool (keq0.trans (decide_eq_true H0.out)), Below.refl _ _⟩)
              · exact fun _ _ _ he hd => ob_mv rfl rfl hd.1
              · exact fun aa ww hb he hd => ob_on 19 rfl (by kernel_rfl) hd.1 (load_rpb rfl he.2.1 (Blk.keep HBx.out hb))
              · exact fun aa ww hb he hd => ob_on 19 rfl (by kernel_rfl) hd.1 (gives_move _ rfl ⟨he.2.2.1, Below.refl _ _⟩)
              · exact fun aa ww hb he hd => ob_on 19 rfl (by kernel_rfl) hd.1 (fld_rpb rfl (by decide) he.2.1)
              · exact fun aa ww hb he hd => ob_on 19 rfl (by kernel_rfl) hd.1 (load_c32 rfl hd.2.1 (Blk.at2 HBx.out hb))
              · exact fun aa ww hb he hd => ob_on 19 rfl (by kernel_rfl) hd.1 (gives_call3 _ _ _ _ _ rfl (by kernel_rfl) (by rw [show aa.eval (.tmp 20) = .agg #[.slice QC n qc, .slice QA m qa, .slice QB m qb] from hd.2.1, show aa.eval (.tmp 21) = .slice AX kX cX from hd.2.2.1, show aa.eval (.tmp 23) = .slice QB m qb from hd.2.2.2.1]; exact ret_t (rfeas_any n m m kX m qc qa qb cX qb QC QA QB AX QB Qr qp A C B X B _ (RqW.new HQ.out (bthen HB.out hb HB.out.size)) ((HX.out.below (bthen HB.out hb HB.out.size)).more (bthen HB.out hb HB.out.size).size) (((RqW.new HQ.out (bthen HB.out hb HB.out.size)).b)) (by omega) (fun i _ => HsX.out i) (fun i _ => HsB.out i) (fun i _ => dotS (by omega) (fun k _ => HfA.out i k) (fun k _ => HfX.out k)) (by omega) (by omega) (by omega)) (t_iff H1.out)))
              · exact fun aa ww hb he hd => ob_plain rfl (gives_pick true _ _ _ rfl hd.1 ⟨hd.2.1, Below.refl _ _⟩)
              · exact fun _ _ _ he hd => ob_mv rfl rfl hd.1
              · exact fun aa ww hb he hd => ob_on 26 rfl (by kernel_rfl) hd.1 (load_rpb rfl he.2.1 (Blk.keep HBx.out hb))
              · exact fun aa ww hb he hd => ob_on 26 rfl (by kernel_rfl) hd.1 (gives_move _ rfl ⟨he.2.2.2.1, Below.refl _ _⟩)
              · exact fun aa ww hb he hd => ob_on 26 rfl (by kernel_rfl) hd.1 (fld_rpb rfl (by decide) he.2.1)
              · exact fun aa ww hb he hd => ob_on 26 rfl (by kernel_rfl) hd.1 (load_c32 rfl hd.2.1 (Blk.at0 HBx.out hb))
              · exact fun aa ww hb he hd => ob_on 26 rfl (by kernel_rfl) hd.1 (gives_call3 _ _ _ _ _ rfl (by kernel_rfl) (by rw [show aa.eval (.tmp 27) = .agg #[.slice QC n qc, .slice QA m qa, .slice QB m qb] from hd.2.1, show aa.eval (.tmp 28) = .slice AY kY cY from hd.2.2.1, show aa.eval (.tmp 30) = .slice QC n qc from hd.2.2.2.1]; exact ret_t (rdual_any n m m kY qc qa qb cY qc QC QA QB AY QC Qr qp A C B Y C _ (RqW.new HQ.out (bthen HB.out hb HB.out.size)) ((HY.out.below (bthen HB.out hb HB.out.size)).more (bthen HB.out hb HB.out.size).size) (((RqW.new HQ.out (bthen HB.out hb HB.out.size)).c)) (fun i _ => HsY.out i) (fun i _ => HsC.out i) (fun j _ => dotS (by omega) (fun k _ => HfY.out k) (fun k _ => HfA.out k j)) (by omega) (by omega) (by omega)) (t_iff H2.out)))
              · exact fun aa ww hb he hd => ob_plain rfl (gives_pick true _ _ _ rfl hd.1 ⟨hd.2.1, Below.refl _ _⟩)
              · exact fun _ _ _ he hd => ob_mv rfl rfl hd.1
              · exact fun aa ww hb he hd => ob_on 33 rfl (by kernel_rfl) hd.1 (fld_rpb rfl (by decide) he.2.1)
              · exact fun aa ww hb he hd => ob_on 33 rfl (by kernel_rfl) hd.1 (load_c32 rfl hd.2.1 (Blk.at0 HBx.out hb))
              · exact fun aa ww hb he hd => ob_on 33 rfl (by kernel_rfl) hd.1 (gives_move _ rfl ⟨he.2.2.1, Below.refl _ _⟩)
              · exact fun aa ww hb he hd => ob_on 33 rfl (by kernel_rfl) hd.1 (gives_call2 _ _ _ _ rfl (by kernel_rfl) (by rw [show aa.eval (.tmp 35) = .slice QC n qc from hd.2.1, show aa.eval (.tmp 36) = .slice AX kX cX from hd.2.2.1]; exact rdot_any n kX qc cX QC AX C X _ (((RqW.new HQ.out (bthen HB.out hb HB.out.size)).c)) ((HX.out.below (bthen HB.out hb HB.out.size)).more (bthen HB.out hb HB.out.size).size) (by omega) (by omega) (dotS (by omega) (fun k _ => HfC.out k) (fun k _ => HfX.out k))))
              · exact fun aa ww hb he hd => ob_on 33 rfl (by kernel_rfl) hd.1 (load_qb rfl he.2.2.2.2.1 (Qb.new HV.out hb))
              · exact fun aa ww hb he hd => ob_on 33 rfl (by kernel_rfl) hd.1 (gives_call2 _ _ _ _ rfl (by kernel_rfl) (rcmp_v (x := sm (fun l => C l * X l) n) (y := v) ((dotS (n := n) (f := C) (g := X) (by omega) (fun k _ => HfC.out k) (fun k _ => HfX.out k)).h4 n (Nat.le_refl _)) HsV.out _ _ hd.2.1 hd.2.2.1 _))
              · exact fun aa ww hb he hd => ob_on 33 rfl (by kernel_rfl) hd.1 (gives_eq_int (rcq (sm (fun l => C l * X l) n) v) 0 .i64 _ _ _ _ rfl hd.2.1 rfl ⟨congrArg Value.bool (rcq_eqb.trans (decide_eq_false H3.out)), Below.refl _ _⟩)
              · exact fun aa ww hb he hd => ob_plain rfl (gives_pick true _ _ _ rfl hd.1 ⟨hd.2.1, Below.refl _ _⟩)
              · exact fun _ _ _ he hd => ob_mv rfl rfl hd.1
              iterate 7 exact fun aa ww hb he hd => ob_off 42 rfl (by kernel_rfl) hd.1 rfl
              · exact fun aa ww hb he hd => ob_plain rfl (gives_pick false _ _ _ rfl hd.1 ⟨rfl, Below.refl _ _⟩)
              · exact fun aa ww hb he hd => ob_plain rfl (gives_assign _ rfl ⟨hd.1, Below.refl _ _⟩)
            intro vs w4 hb hR
            have e12 : vs 35 = .bool false := hR 35 (by decide)
            clear hR
            simp only [putsL, Nat.zero_add, Nat.reduceAdd, List.take_succ_cons, List.take_zero, Act.put, List.setIfInBounds_toArray, List.set_cons_zero, List.set_cons_succ]
            rw [e12]
            clear e12
            go_wp2_with fail
            go_ret
            exact ⟨false, rfl, bthen HB.out hb HB.out.size, f_iff (fun h => by
              rcases h with ⟨h, q⟩ | ⟨h, q⟩ | ⟨h, q⟩
              · exact H3.out q.2.2.2.1
              · exact absurd h (by decide)
              · exact absurd h (by decide))⟩
          · have H3 := Lib.hid h3; clear h3
            by_cases h4 : sm (fun l => B l * Y l) m = v
            rotate_left
            · have H4 := Lib.hid h4; clear h4
              refine wp_region_each (kss := [[], [(0, 16)], [(1, 17)], [(2, 18)], [(3, 19)], [(3, 19)], [(3, 19)], [(3, 19), (6, 22)], [(3, 19), (4, 20), (5, 21), (7, 23)], [(3, 19), (8, 24)], [(9, 25)], [(10, 26)], [(10, 26)], [(10, 26)], [(10, 26), (13, 29)], [(10, 26), (11, 27), (12, 28), (14, 30)], [(10, 26), (15, 31)], [(16, 32)], [(17, 33)], [(17, 33), (18, 34)], [(17, 33)], [(17, 33), (19, 35), (20, 36)], [(17, 33)], [(17, 33), (21, 37), (22, 38)], [(17, 33), (23, 39)], [(17, 33), (24, 40)], [(25, 41)], [(26, 42)], [(26, 42), (27, 43)], [(26, 42)], [(26, 42), (28, 44), (29, 45)], [(26, 42)], [(26, 42), (30, 46), (31, 47)], [(26, 42), (32, 48)], [(26, 42), (33, 49)], [(34, 50)]]) [(4, .slice AR kR cR), (6, .pointer (some ⟨gq, 0, none⟩)), (2, .slice AX kX cX), (3, .slice AY kY cY), (11, .pointer (some ⟨gv, 0, none⟩))] [EV (.slice AR kR cR), EV (.int .i64 ((kR : Int))), EV (.bool true), EV (.bool true), EV (.agg #[.slice QC n qc, .slice QA m qa, .slice QB m qb]), EV (.slice AX kX cX), EV (.pointer (some ⟨gq, 2, none⟩)), EV (.slice QB m qb), EV (.bool true), EV (.bool true), EV (.bool true), EV (.agg #[.slice QC n qc, .slice QA m qa, .slice QB m qb]), EV (.slice AY kY cY), EV (.pointer (some ⟨gq, 0, none⟩)), EV (.slice QC n qc), EV (.bool true), EV (.bool true), EV (.bool true), EV (.pointer (some ⟨gq, 0, none⟩)), EV (.slice QC n qc), EV (.slice AX kX cX), EV (QL (sm (fun l => C l * X l) n)), EV (QL (v)), EV (.int .i64 (rcq (sm (fun l => C l * X l) n) v)), EV (.bool true), EV (.bool true), EV (.bool true), EV (.pointer (some ⟨gq, 2, none⟩)), EV (.slice QB m qb), EV (.slice AY kY cY), EV (QL (sm (fun l => B l * Y l) m)), EV (QL (v)), EV (.int .i64 (rcq (sm (fun l => B l * Y l) m) v)), EV (.bool false), EV (.bool false), EV (.bool false)] (by kernel_rfl) (by kernel_rfl) ⟨rfl, rfl, rfl, rfl, rfl, trivial⟩ ?_ ?_ ?_
              · exact ⟨sI, sI, sI, sI, sI, sI, sI, sI, sI, sI, sI, sI, sI, sI, sI, sI, sI, sI, sI, sI, sI, sI, sI, sI, sI, sI, sI, sI, sI, sI, sI, sI, sI, sI, sI, sI, trivial⟩
              · refine ⟨?_, ?_, ?_, ?_, ?_, ?_, ?_, ?_, ?_, ?_, ?_, ?_, ?_, ?_, ?_, ?_, ?_, ?_, ?_, ?_, ?_, ?_, ?_, ?_, ?_, ?_, ?_, ?_, ?_, ?_, ?_, ?_, ?_, ?_, ?_, ?_, trivial⟩
                · exact fun _ _ _ he hd => ob_mv rfl rfl he.1
                · exact fun aa ww hb he hd => ob_plain rfl (len_c Try.underlying32 rfl hd.1)
                · exact fun aa ww hb he hd => ob_plain rfl (gives_eq_int ((kR : Int)) 0 .i64 _ _ _ _ rfl hd.1 rfl ⟨congrArg Value.bool (keq0.trans (decide_eq_true H0.out)), Below.refl _ _⟩)
                · exact fun _ _ _ he hd => ob_mv rfl rfl hd.1
                · exact fun aa ww hb he hd => ob_on 19 rfl (by kernel_rfl) hd.1 (load_rpb rfl he.2.1 (Blk.keep HBx.out hb))
                · exact fun aa ww hb he hd => ob_on 19 rfl (by kernel_rfl) hd.1 (gives_move _ rfl ⟨he.2.2.1, Below.refl _ _⟩)
                · exact fun aa ww hb he hd => ob_on 19 rfl (by kernel_rfl) hd.1 (fld_rpb rfl (by decide) he.2.1)
                · exact fun aa ww hb he hd => ob_on 19 rfl (by kernel_rfl) hd.1 (load_c32 rfl hd.2.1 (Blk.at2 HBx.out hb))
                · exact fun aa ww hb he hd => ob_on 19 rfl (by kernel_rfl) hd.1 (gives_call3 _ _ _ _ _ rfl (by kernel_rfl) (by rw [show aa.eval (.tmp 20) = .agg #[.slice QC n qc, .slice QA m qa, .slice QB m qb] from hd.2.1, show aa.eval (.tmp 21) = .slice AX kX cX from hd.2.2.1, show aa.eval (.tmp 23) = .slice QB m qb from hd.2.2.2.1]; exact ret_t (rfeas_any n m m kX m qc qa qb cX qb QC QA QB AX QB Qr qp A C B X B _ (RqW.new HQ.out (bthen HB.out hb HB.out.size)) ((HX.out.below (bthen HB.out hb HB.out.size)).more (bthen HB.out hb HB.out.size).size) (((RqW.new HQ.out (bthen HB.out hb HB.out.size)).b)) (by omega) (fun i _ => HsX.out i) (fun i _ => HsB.out i) (fun i _ => dotS (by omega) (fun k _ => HfA.out i k) (fun k _ => HfX.out k)) (by omega) (by omega) (by omega)) (t_iff H1.out)))
                · exact fun aa ww hb he hd => ob_plain rfl (gives_pick true _ _ _ rfl hd.1 ⟨hd.2.1, Below.refl _ _⟩)
                · exact fun _ _ _ he hd => ob_mv rfl rfl hd.1
                · exact fun aa ww hb he hd => ob_on 26 rfl (by kernel_rfl) hd.1 (load_rpb rfl he.2.1 (Blk.keep HBx.out hb))
                · exact fun aa ww hb he hd => ob_on 26 rfl (by kernel_rfl) hd.1 (gives_move _ rfl ⟨he.2.2.2.1, Below.refl _ _⟩)
                · exact fun aa ww hb he hd => ob_on 26 rfl (by kernel_rfl) hd.1 (fld_rpb rfl (by decide) he.2.1)
                · exact fun aa ww hb he hd => ob_on 26 rfl (by kernel_rfl) hd.1 (load_c32 rfl hd.2.1 (Blk.at0 HBx.out hb))
                · exact fun aa ww hb he hd => ob_on 26 rfl (by kernel_rfl) hd.1 (gives_call3 _ _ _ _ _ rfl (by kernel_rfl) (by rw [show aa.eval (.tmp 27) = .agg #[.slice QC n qc, .slice QA m qa, .slice QB m qb] from hd.2.1, show aa.eval (.tmp 28) = .slice AY kY cY from hd.2.2.1, show aa.eval (.tmp 30) = .slice QC n qc from hd.2.2.2.1]; exact ret_t (rdual_any n m m kY qc qa qb cY qc QC QA QB AY QC Qr qp A C B Y C _ (RqW.new HQ.out (bthen HB.out hb HB.out.size)) ((HY.out.below (bthen HB.out hb HB.out.size)).more (bthen HB.out hb HB.out.size).size) (((RqW.new HQ.out (bthen HB.out hb HB.out.size)).c)) (fun i _ => HsY.out i) (fun i _ => HsC.out i) (fun j _ => dotS (by omega) (fun k _ => HfY.out k) (fun k _ => HfA.out k j)) (by omega) (by omega) (by omega)) (t_iff H2.out)))
                · exact fun aa ww hb he hd => ob_plain rfl (gives_pick true _ _ _ rfl hd.1 ⟨hd.2.1, Below.refl _ _⟩)
                · exact fun _ _ _ he hd => ob_mv rfl rfl hd.1
                · exact fun aa ww hb he hd => ob_on 33 rfl (by kernel_rfl) hd.1 (fld_rpb rfl (by decide) he.2.1)
                · exact fun aa ww hb he hd => ob_on 33 rfl (by kernel_rfl) hd.1 (load_c32 rfl hd.2.1 (Blk.at0 HBx.out hb))
                · exact fun aa ww hb he hd => ob_on 33 rfl (by kernel_rfl) hd.1 (gives_move _ rfl ⟨he.2.2.1, Below.refl _ _⟩)
                · exact fun aa ww hb he hd => ob_on 33 rfl (by kernel_rfl) hd.1 (gives_call2 _ _ _ _ rfl (by kernel_rfl) (by rw [show aa.eval (.tmp 35) = .slice QC n qc from hd.2.1, show aa.eval (.tmp 36) = .slice AX kX cX from hd.2.2.1]; exact rdot_any n kX qc cX QC AX C X _ (((RqW.new HQ.out (bthen HB.out hb HB.out.size)).c)) ((HX.out.below (bthen HB.out hb HB.out.size)).more (bthen HB.out hb HB.out.size).size) (by omega) (by omega) (dotS (by omega) (fun k _ => HfC.out k) (fun k _ => HfX.out k))))
                · exact fun aa ww hb he hd => ob_on 33 rfl (by kernel_rfl) hd.1 (load_qb rfl he.2.2.2.2.1 (Qb.new HV.out hb))
                · exact fun aa ww hb he hd => ob_on 33 rfl (by kernel_rfl) hd.1 (gives_call2 _ _ _ _ rfl (by kernel_rfl) (rcmp_v (x := sm (fun l => C l * X l) n) (y := v) ((dotS (n := n) (f := C) (g := X) (by omega) (fun k _ => HfC.out k) (fun k _ => HfX.out k)).h4 n (Nat.le_refl _)) HsV.out _ _ hd.2.1 hd.2.2.1 _))
                · exact fun aa ww hb he hd => ob_on 33 rfl (by kernel_rfl) hd.1 (gives_eq_int (rcq (sm (fun l => C l * X l) n) v) 0 .i64 _ _ _ _ rfl hd.2.1 rfl ⟨congrArg Value.bool (rcq_eqb.trans (decide_eq_true H3.out)), Below.refl _ _⟩)
                · exact fun aa ww hb he hd => ob_plain rfl (gives_pick true _ _ _ rfl hd.1 ⟨hd.2.1, Below.refl _ _⟩)
                · exact fun _ _ _ he hd => ob_mv rfl rfl hd.1
                · exact fun aa ww hb he hd => ob_on 42 rfl (by kernel_rfl) hd.1 (fld_rpb rfl (by decide) he.2.1)
                · exact fun aa ww hb he hd => ob_on 42 rfl (by kernel_rfl) hd.1 (load_c32 rfl hd.2.1 (Blk.at2 HBx.out hb))
                · exact fun aa ww hb he hd => ob_on 42 rfl (by kernel_rfl) hd.1 (gives_move _ rfl ⟨he.2.2.2.1, Below.refl _ _⟩)
                · exact fun aa ww hb he hd => ob_on 42 rfl (by kernel_rfl) hd.1 (gives_call2 _ _ _ _ rfl (by kernel_rfl) (by rw [show aa.eval (.tmp 44) = .slice QB m qb from hd.2.1, show aa.eval (.tmp 45) = .slice AY kY cY from hd.2.2.1]; exact rdot_any m kY qb cY QB AY B Y _ (((RqW.new HQ.out (bthen HB.out hb HB.out.size)).b)) ((HY.out.below (bthen HB.out hb HB.out.size)).more (bthen HB.out hb HB.out.size).size) (by omega) (by omega) (dotS (by omega) (fun k _ => HfB.out k) (fun k _ => HfY.out k))))
                · exact fun aa ww hb he hd => ob_on 42 rfl (by kernel_rfl) hd.1 (load_qb rfl he.2.2.2.2.1 (Qb.new HV.out hb))
                · exact fun aa ww hb he hd => ob_on 42 rfl (by kernel_rfl) hd.1 (gives_call2 _ _ _ _ rfl (by kernel_rfl) (rcmp_v (x := sm (fun l => B l * Y l) m) (y := v) ((dotS (n := m) (f := B) (g := Y) (by omega) (fun k _ => HfB.out k) (fun k _ => HfY.out k)).h4 m (Nat.le_refl _)) HsV.out _ _ hd.2.1 hd.2.2.1 _))
                · exact fun aa ww hb he hd => ob_on 42 rfl (by kernel_rfl) hd.1 (gives_eq_int (rcq (sm (fun l => B l * Y l) m) v) 0 .i64 _ _ _ _ rfl hd.2.1 rfl ⟨congrArg Value.bool (rcq_eqb.trans (decide_eq_false H4.out)), Below.refl _ _⟩)
                · exact fun aa ww hb he hd => ob_plain rfl (gives_pick true _ _ _ rfl hd.1 ⟨hd.2.1, Below.refl _ _⟩)
                · exact fun aa ww hb he hd => ob_plain rfl (gives_assign _ rfl ⟨hd.1, Below.refl _ _⟩)
              intro vs w4 hb hR
              have e12 : vs 35 = .bool false := hR 35 (by decide)
              clear hR
              simp only [putsL, Nat.zero_add, Nat.reduceAdd, List.take_succ_cons, List.take_zero, Act.put, List.setIfInBounds_toArray, List.set_cons_zero, List.set_cons_succ]
              rw [e12]
              clear e12
              go_wp2_with fail
              go_ret
              exact ⟨false, rfl, bthen HB.out hb HB.out.size, f_iff (fun h => by
                rcases h with ⟨h, q⟩ | ⟨h, q⟩ | ⟨h, q⟩
                · exact H4.out q.2.2.2.2
                · exact absurd h (by decide)
                · exact absurd h (by decide))⟩
            · have H4 := Lib.hid h4; clear h4
              refine wp_region_each (kss := [[], [(0, 16)], [(1, 17)], [(2, 18)], [(3, 19)], [(3, 19)], [(3, 19)], [(3, 19), (6, 22)], [(3, 19), (4, 20), (5, 21), (7, 23)], [(3, 19), (8, 24)], [(9, 25)], [(10, 26)], [(10, 26)], [(10, 26)], [(10, 26), (13, 29)], [(10, 26), (11, 27), (12, 28), (14, 30)], [(10, 26), (15, 31)], [(16, 32)], [(17, 33)], [(17, 33), (18, 34)], [(17, 33)], [(17, 33), (19, 35), (20, 36)], [(17, 33)], [(17, 33), (21, 37), (22, 38)], [(17, 33), (23, 39)], [(17, 33), (24, 40)], [(25, 41)], [(26, 42)], [(26, 42), (27, 43)], [(26, 42)], [(26, 42), (28, 44), (29, 45)], [(26, 42)], [(26, 42), (30, 46), (31, 47)], [(26, 42), (32, 48)], [(26, 42), (33, 49)], [(34, 50)]]) [(4, .slice AR kR cR), (6, .pointer (some ⟨gq, 0, none⟩)), (2, .slice AX kX cX), (3, .slice AY kY cY), (11, .pointer (some ⟨gv, 0, none⟩))] [EV (.slice AR kR cR), EV (.int .i64 ((kR : Int))), EV (.bool true), EV (.bool true), EV (.agg #[.slice QC n qc, .slice QA m qa, .slice QB m qb]), EV (.slice AX kX cX), EV (.pointer (some ⟨gq, 2, none⟩)), EV (.slice QB m qb), EV (.bool true), EV (.bool true), EV (.bool true), EV (.agg #[.slice QC n qc, .slice QA m qa, .slice QB m qb]), EV (.slice AY kY cY), EV (.pointer (some ⟨gq, 0, none⟩)), EV (.slice QC n qc), EV (.bool true), EV (.bool true), EV (.bool true), EV (.pointer (some ⟨gq, 0, none⟩)), EV (.slice QC n qc), EV (.slice AX kX cX), EV (QL (sm (fun l => C l * X l) n)), EV (QL (v)), EV (.int .i64 (rcq (sm (fun l => C l * X l) n) v)), EV (.bool true), EV (.bool true), EV (.bool true), EV (.pointer (some ⟨gq, 2, none⟩)), EV (.slice QB m qb), EV (.slice AY kY cY), EV (QL (sm (fun l => B l * Y l) m)), EV (QL (v)), EV (.int .i64 (rcq (sm (fun l => B l * Y l) m) v)), EV (.bool true), EV (.bool true), EV (.bool true)] (by kernel_rfl) (by kernel_rfl) ⟨rfl, rfl, rfl, rfl, rfl, trivial⟩ ?_ ?_ ?_
              · exact ⟨sI, sI, sI, sI, sI, sI, sI, sI, sI, sI, sI, sI, sI, sI, sI, sI, sI, sI, sI, sI, sI, sI, sI, sI, sI, sI, sI, sI, sI, sI, sI, sI, sI, sI, sI, sI, trivial⟩
              · refine ⟨?_, ?_, ?_, ?_, ?_, ?_, ?_, ?_, ?_, ?_, ?_, ?_, ?_, ?_, ?_, ?_, ?_, ?_, ?_, ?_, ?_, ?_, ?_, ?_, ?_, ?_, ?_, ?_, ?_, ?_, ?_, ?_, ?_, ?_, ?_, ?_, trivial⟩
                · exact fun _ _ _ he hd => ob_mv rfl rfl he.1
                · exact fun aa ww hb he hd => ob_plain rfl (len_c Try.underlying32 rfl hd.1)
                · exact fun aa ww hb he hd => ob_plain rfl (gives_eq_int ((kR : Int)) 0 .i64 _ _ _ _ rfl hd.1 rfl ⟨congrArg Value.bool (keq0.trans (decide_eq_true H0.out)), Below.refl _ _⟩)
                · exact fun _ _ _ he hd => ob_mv rfl rfl hd.1
                · exact fun aa ww hb he hd => ob_on 19 rfl (by kernel_rfl) hd.1 (load_rpb rfl he.2.1 (Blk.keep HBx.out hb))
                · exact fun aa ww hb he hd => ob_on 19 rfl (by kernel_rfl) hd.1 (gives_move _ rfl ⟨he.2.2.1, Below.refl _ _⟩)
                · exact fun aa ww hb he hd => ob_on 19 rfl (by kernel_rfl) hd.1 (fld_rpb rfl (by decide) he.2.1)
                · exact fun aa ww hb he hd => ob_on 19 rfl (by kernel_rfl) hd.1 (load_c32 rfl hd.2.1 (Blk.at2 HBx.out hb))
                · exact fun aa ww hb he hd => ob_on 19 rfl (by kernel_rfl) hd.1 (gives_call3 _ _ _ _ _ rfl (by kernel_rfl) (by rw [show aa.eval (.tmp 20) = .agg #[.slice QC n qc, .slice QA m qa, .slice QB m qb] from hd.2.1, show aa.eval (.tmp 21) = .slice AX kX cX from hd.2.2.1, show aa.eval (.tmp 23) = .slice QB m qb from hd.2.2.2.1]; exact ret_t (rfeas_any n m m kX m qc qa qb cX qb QC QA QB AX QB Qr qp A C B X B _ (RqW.new HQ.out (bthen HB.out hb HB.out.size)) ((HX.out.below (bthen HB.out hb HB.out.size)).more (bthen HB.out hb HB.out.size).size) (((RqW.new HQ.out (bthen HB.out hb HB.out.size)).b)) (by omega) (fun i _ => HsX.out i) (fun i _ => HsB.out i) (fun i _ => dotS (by omega) (fun k _ => HfA.out i k) (fun k _ => HfX.out k)) (by omega) (by omega) (by omega)) (t_iff H1.out)))
                · exact fun aa ww hb he hd => ob_plain rfl (gives_pick true _ _ _ rfl hd.1 ⟨hd.2.1, Below.refl _ _⟩)
                · exact fun _ _ _ he hd => ob_mv rfl rfl hd.1
                · exact fun aa ww hb he hd => ob_on 26 rfl (by kernel_rfl) hd.1 (load_rpb rfl he.2.1 (Blk.keep HBx.out hb))
                · exact fun aa ww hb he hd => ob_on 26 rfl (by kernel_rfl) hd.1 (gives_move _ rfl ⟨he.2.2.2.1, Below.refl _ _⟩)
                · exact fun aa ww hb he hd => ob_on 26 rfl (by kernel_rfl) hd.1 (fld_rpb rfl (by decide) he.2.1)
                · exact fun aa ww hb he hd => ob_on 26 rfl (by kernel_rfl) hd.1 (load_c32 rfl hd.2.1 (Blk.at0 HBx.out hb))
                · exact fun aa ww hb he hd => ob_on 26 rfl (by kernel_rfl) hd.1 (gives_call3 _ _ _ _ _ rfl (by kernel_rfl) (by rw [show aa.eval (.tmp 27) = .agg #[.slice QC n qc, .slice QA m qa, .slice QB m qb] from hd.2.1, show aa.eval (.tmp 28) = .slice AY kY cY from hd.2.2.1, show aa.eval (.tmp 30) = .slice QC n qc from hd.2.2.2.1]; exact ret_t (rdual_any n m m kY qc qa qb cY qc QC QA QB AY QC Qr qp A C B Y C _ (RqW.new HQ.out (bthen HB.out hb HB.out.size)) ((HY.out.below (bthen HB.out hb HB.out.size)).more (bthen HB.out hb HB.out.size).size) (((RqW.new HQ.out (bthen HB.out hb HB.out.size)).c)) (fun i _ => HsY.out i) (fun i _ => HsC.out i) (fun j _ => dotS (by omega) (fun k _ => HfY.out k) (fun k _ => HfA.out k j)) (by omega) (by omega) (by omega)) (t_iff H2.out)))
                · exact fun aa ww hb he hd => ob_plain rfl (gives_pick true _ _ _ rfl hd.1 ⟨hd.2.1, Below.refl _ _⟩)
                · exact fun _ _ _ he hd => ob_mv rfl rfl hd.1
                · exact fun aa ww hb he hd => ob_on 33 rfl (by kernel_rfl) hd.1 (fld_rpb rfl (by decide) he.2.1)
                · exact fun aa ww hb he hd => ob_on 33 rfl (by kernel_rfl) hd.1 (load_c32 rfl hd.2.1 (Blk.at0 HBx.out hb))
                · exact fun aa ww hb he hd => ob_on 33 rfl (by kernel_rfl) hd.1 (gives_move _ rfl ⟨he.2.2.1, Below.refl _ _⟩)
                · exact fun aa ww hb he hd => ob_on 33 rfl (by kernel_rfl) hd.1 (gives_call2 _ _ _ _ rfl (by kernel_rfl) (by rw [show aa.eval (.tmp 35) = .slice QC n qc from hd.2.1, show aa.eval (.tmp 36) = .slice AX kX cX from hd.2.2.1]; exact rdot_any n kX qc cX QC AX C X _ (((RqW.new HQ.out (bthen HB.out hb HB.out.size)).c)) ((HX.out.below (bthen HB.out hb HB.out.size)).more (bthen HB.out hb HB.out.size).size) (by omega) (by omega) (dotS (by omega) (fun k _ => HfC.out k) (fun k _ => HfX.out k))))
                · exact fun aa ww hb he hd => ob_on 33 rfl (by kernel_rfl) hd.1 (load_qb rfl he.2.2.2.2.1 (Qb.new HV.out hb))
                · exact fun aa ww hb he hd => ob_on 33 rfl (by kernel_rfl) hd.1 (gives_call2 _ _ _ _ rfl (by kernel_rfl) (rcmp_v (x := sm (fun l => C l * X l) n) (y := v) ((dotS (n := n) (f := C) (g := X) (by omega) (fun k _ => HfC.out k) (fun k _ => HfX.out k)).h4 n (Nat.le_refl _)) HsV.out _ _ hd.2.1 hd.2.2.1 _))
                · exact fun aa ww hb he hd => ob_on 33 rfl (by kernel_rfl) hd.1 (gives_eq_int (rcq (sm (fun l => C l * X l) n) v) 0 .i64 _ _ _ _ rfl hd.2.1 rfl ⟨congrArg Value.bool (rcq_eqb.trans (decide_eq_true H3.out)), Below.refl _ _⟩)
                · exact fun aa ww hb he hd => ob_plain rfl (gives_pick true _ _ _ rfl hd.1 ⟨hd.2.1, Below.refl _ _⟩)
                · exact fun _ _ _ he hd => ob_mv rfl rfl hd.1
                · exact fun aa ww hb he hd => ob_on 42 rfl (by kernel_rfl) hd.1 (fld_rpb rfl (by decide) he.2.1)
                · exact fun aa ww hb he hd => ob_on 42 rfl (by kernel_rfl) hd.1 (load_c32 rfl hd.2.1 (Blk.at2 HBx.out hb))
                · exact fun aa ww hb he hd => ob_on 42 rfl (by kernel_rfl) hd.1 (gives_move _ rfl ⟨he.2.2.2.1, Below.refl _ _⟩)
                · exact fun aa ww hb he hd => ob_on 42 rfl (by kernel_rfl) hd.1 (gives_call2 _ _ _ _ rfl (by kernel_rfl) (by rw [show aa.eval (.tmp 44) = .slice QB m qb from hd.2.1, show aa.eval (.tmp 45) = .slice AY kY cY from hd.2.2.1]; exact rdot_any m kY qb cY QB AY B Y _ (((RqW.new HQ.out (bthen HB.out hb HB.out.size)).b)) ((HY.out.below (bthen HB.out hb HB.out.size)).more (bthen HB.out hb HB.out.size).size) (by omega) (by omega) (dotS (by omega) (fun k _ => HfB.out k) (fun k _ => HfY.out k))))
                · exact fun aa ww hb he hd => ob_on 42 rfl (by kernel_rfl) hd.1 (load_qb rfl he.2.2.2.2.1 (Qb.new HV.out hb))
                · exact fun aa ww hb he hd => ob_on 42 rfl (by kernel_rfl) hd.1 (gives_call2 _ _ _ _ rfl (by kernel_rfl) (rcmp_v (x := sm (fun l => B l * Y l) m) (y := v) ((dotS (n := m) (f := B) (g := Y) (by omega) (fun k _ => HfB.out k) (fun k _ => HfY.out k)).h4 m (Nat.le_refl _)) HsV.out _ _ hd.2.1 hd.2.2.1 _))
                · exact fun aa ww hb he hd => ob_on 42 rfl (by kernel_rfl) hd.1 (gives_eq_int (rcq (sm (fun l => B l * Y l) m) v) 0 .i64 _ _ _ _ rfl hd.2.1 rfl ⟨congrArg Value.bool (rcq_eqb.trans (decide_eq_true H4.out)), Below.refl _ _⟩)
                · exact fun aa ww hb he hd => ob_plain rfl (gives_pick true _ _ _ rfl hd.1 ⟨hd.2.1, Below.refl _ _⟩)
                · exact fun aa ww hb he hd => ob_plain rfl (gives_assign _ rfl ⟨hd.1, Below.refl _ _⟩)
              intro vs w4 hb hR
              have e12 : vs 35 = .bool true := hR 35 (by decide)
              clear hR
              simp only [putsL, Nat.zero_add, Nat.reduceAdd, List.take_succ_cons, List.take_zero, Act.put, List.setIfInBounds_toArray, List.set_cons_zero, List.set_cons_succ]
              rw [e12]
              clear e12
              go_wp2_with fail
              go_ret
              exact ⟨true, rfl, bthen HB.out hb HB.out.size, t_iff (.inl ⟨rfl, H1.out, H2.out, H0.out, H3.out, H4.out⟩)⟩
  by_cases hz1 : z = 1
  · subst hz1
    go_upto_region 5 with (fail)
    by_cases h0 : kX = 0
    rotate_left
    · have H0 := Lib.hid h0; clear h0
      refine wp_region_each (kss := [[], [(0, 53)], [(1, 54)], [(2, 55)], [(3, 56)], [(3, 56), (4, 57)], [(3, 56), (5, 58)], [(3, 56), (6, 59)], [(7, 60)], [(8, 61)], [(8, 61)], [(8, 61), (9, 62), (10, 63)], [(8, 61), (11, 64)], [(8, 61), (12, 65)], [(13, 66)], [(14, 67)], [(14, 67)], [(14, 67)], [(14, 67), (17, 70)], [(14, 67), (18, 71)], [(14, 67), (19, 72)], [(14, 67), (15, 68), (16, 69), (20, 73)], [(14, 67), (21, 74)], [(22, 75)], [(23, 76)], [(23, 76), (24, 77)], [(23, 76)], [(23, 76), (25, 78), (26, 79)], [(23, 76)], [(23, 76), (27, 80), (28, 81)], [(23, 76), (29, 82)], [(23, 76), (30, 83)], [(31, 84)]]) [(2, .slice AX kX cX), (4, .slice AR kR cR), (11, .pointer (some ⟨gv, 0, none⟩)), (6, .pointer (some ⟨gq, 0, none⟩)), (3, .slice AY kY cY)] [EV (.slice AX kX cX), EV (.int .i64 ((kX : Int))), EV (.bool false), EV (.bool false), UD, UD, UD, EV (.bool false), EV (.bool false), UD, UD, UD, UD, EV (.bool false), EV (.bool false), UD, UD, UD, UD, UD, UD, UD, EV (.bool false), EV (.bool false), UD, UD, UD, UD, UD, UD, UD, EV (.bool false), EV (.bool false)] (by kernel_rfl) (by kernel_rfl) ⟨rfl, rfl, rfl, rfl, rfl, trivial⟩ ?_ ?_ ?_
      · exact ⟨sI, sI, sI, sI, sI, sI, sI, sI, sI, sI, sI, sI, sI, sI, sI, sI, sI, sI, sI, sI, sI, sI, sI, sI, sI, sI, sI, sI, sI, sI, sI, sI, sI, trivial⟩
      · refine ⟨?_, ?_, ?_, ?_, ?_, ?_, ?_, ?_, ?_, ?_, ?_, ?_, ?_, ?_, ?_, ?_, ?_, ?_, ?_, ?_, ?_, ?_, ?_, ?_, ?_, ?_, ?_, ?_, ?_, ?_, ?_, ?_, ?_, trivial⟩
        · exact fun _ _ _ he hd => ob_mv rfl rfl he.1
        · exact fun aa ww hb he hd => ob_plain rfl (len_c Try.underlying32 rfl hd.1)
        · exact fun aa ww hb he hd => ob_plain rfl (gives_eq_int ((kX : Int)) 0 .i64 _ _ _ _ rfl hd.1 rfl ⟨congrArg Value.bool (keq0.trans (decide_eq_false H0.out)), Below.refl _ _⟩)
        · exact fun _ _ _ he hd => ob_mv rfl rfl hd.1
        iterate 3 exact fun aa ww hb he hd => ob_off 56 rfl (by kernel_rfl) hd.1 rfl
        · exact fun aa ww hb he hd => ob_plain rfl (gives_pick false _ _ _ rfl hd.1 ⟨rfl, Below.refl _ _⟩)
        · exact fun _ _ _ he hd => ob_mv rfl rfl hd.1
        iterate 4 exact fun aa ww hb he hd => ob_off 61 rfl (by kernel_rfl) hd.1 rfl
        · exact fun aa ww hb he hd => ob_plain rfl (gives_pick false _ _ _ rfl hd.1 ⟨rfl, Below.refl _ _⟩)
        · exact fun _ _ _ he hd => ob_mv rfl rfl hd.1
        iterate 7 exact fun aa ww hb he hd => ob_off 67 rfl (by kernel_rfl) hd.1 rfl
        · exact fun aa ww hb he hd => ob_plain rfl (gives_pick false _ _ _ rfl hd.1 ⟨rfl, Below.refl _ _⟩)
        · exact fun _ _ _ he hd => ob_mv rfl rfl hd.1
        iterate 7 exact fun aa ww hb he hd => ob_off 76 rfl (by kernel_rfl) hd.1 rfl
        · exact fun aa ww hb he hd => ob_plain rfl (gives_pick false _ _ _ rfl hd.1 ⟨rfl, Below.refl _ _⟩)
        · exact fun aa ww hb he hd => ob_plain rfl (gives_assign _ rfl ⟨hd.1, Below.refl _ _⟩)
      intro vs w4 hb hR
      have e12 : vs 32 = .bool false := hR 32 (by decide)
      clear hR
      simp only [putsL, Nat.zero_add, Nat.reduceAdd, List.take_succ_cons, List.take_zero, Act.put, List.setIfInBounds_toArray, List.set_cons_zero, List.set_cons_succ]
      rw [e12]
      clear e12
      go_wp2_with fail
      go_ret
      exact ⟨false, rfl, bthen HB.out hb HB.out.size, f_iff (fun h => by
        rcases h with ⟨h, q⟩ | ⟨h, q⟩ | ⟨h, q⟩
        · exact absurd h (by decide)
        · exact H0.out q.2.2.1
        · exact absurd h (by decide))⟩
    · have H0 := Lib.hid h0; clear h0
      by_cases h1 : kR = 0
      rotate_left
      · have H1 := Lib.hid h1; clear h1
        refine wp_region_each (kss := [[], [(0, 53)], [(1, 54)], [(2, 55)], [(3, 56)], [(3, 56), (4, 57)], [(3, 56), (5, 58)], [(3, 56), (6, 59)], [(7, 60)], [(8, 61)], [(8, 61)], [(8, 61), (9, 62), (10, 63)], [(8, 61), (11, 64)], [(8, 61), (12, 65)], [(13, 66)], [(14, 67)], [(14, 67)], [(14, 67)], [(14, 67), (17, 70)], [(14, 67), (18, 71)], [(14, 67), (19, 72)], [(14, 67), (15, 68), (16, 69), (20, 73)], [(14, 67), (21, 74)], [(22, 75)], [(23, 76)], [(23, 76), (24, 77)], [(23, 76)], [(23, 76), (25, 78), (26, 79)], [(23, 76)], [(23, 76), (27, 80), (28, 81)], [(23, 76), (29, 82)], [(23, 76), (30, 83)], [(31, 84)]]) [(2, .slice AX kX cX), (4, .slice AR kR cR), (11, .pointer (some ⟨gv, 0, none⟩)), (6, .pointer (some ⟨gq, 0, none⟩)), (3, .slice AY kY cY)] [EV (.slice AX kX cX), EV (.int .i64 ((kX : Int))), EV (.bool true), EV (.bool true), EV (.slice AR kR cR), EV (.int .i64 ((kR : Int))), EV (.bool false), EV (.bool false), EV (.bool false), UD, UD, UD, UD, EV (.bool false), EV (.bool false), UD, UD, UD, UD, UD, UD, UD, EV (.bool false), EV (.bool false), UD, UD, UD, UD, UD, UD, UD, EV (.bool false), EV (.bool false)] (by kernel_rfl) (by kernel_rfl) ⟨rfl, rfl, rfl, rfl, rfl, trivial⟩ ?_ ?_ ?_
        · exact ⟨sI, sI, sI, sI, sI, sI, sI, sI, sI, sI, sI, sI, sI, sI, sI, sI, sI, sI, sI, sI, sI, sI, sI, sI, sI, sI, sI, sI, sI, sI, sI, sI, sI, trivial⟩
        · refine ⟨?_, ?_, ?_, ?_, ?_, ?_, ?_, ?_, ?_, ?_, ?_, ?_, ?_, ?_, ?_, ?_, ?_, ?_, ?_, ?_, ?_, ?_, ?_, ?_, ?_, ?_, ?_, ?_, ?_, ?_, ?_, ?_, ?_, trivial⟩
          · exact fun _ _ _ he hd => ob_mv rfl rfl he.1
          · exact fun aa ww hb he hd => ob_plain rfl (len_c Try.underlying32 rfl hd.1)
          · exact fun aa ww hb he hd => ob_plain rfl (gives_eq_int ((kX : Int)) 0 .i64 _ _ _ _ rfl hd.1 rfl ⟨congrArg Value.bool (keq0.trans (decide_eq_true H0.out)), Below.refl _ _⟩)
          · exact fun _ _ _ he hd => ob_mv rfl rfl hd.1
          · exact fun aa ww hb he hd => ob_on 56 rfl (by kernel_rfl) hd.1 (gives_move _ rfl ⟨he.2.1, Below.refl _ _⟩)
          · exact fun aa ww hb he hd => ob_on 56 rfl (by kernel_rfl) hd.1 (len_c Try.underlying32 rfl hd.2.1)
          · exact fun aa ww hb he hd => ob_on 56 rfl (by kernel_rfl) hd.1 (gives_eq_int ((kR : Int)) 0 .i64 _ _ _ _ rfl hd.2.1 rfl ⟨congrArg Value.bool (keq0.trans (decide_eq_false H1.out)), Below.refl _ _⟩)
          · exact fun aa ww hb he hd => ob_plain rfl (gives_pick true _ _ _ rfl hd.1 ⟨hd.2.1, Below.refl _ _⟩)
          · exact fun _ _ _ he hd => ob_mv rfl rfl hd.1
          iterate 4 exact fun aa ww hb he hd => ob_off 61 rfl (by kernel_rfl) hd.1 rfl
          · exact fun aa ww hb he hd => ob_plain rfl (gives_pick false _ _ _ rfl hd.1 ⟨rfl, Below.refl _ _⟩)
          · exact fun _ _ _ he hd => ob_mv rfl rfl hd.1
          iterate 7 exact fun aa ww hb he hd => ob_off 67 rfl (by kernel_rfl) hd.1 rfl
          · exact fun aa ww hb he hd => ob_plain rfl (gives_pick false _ _ _ rfl hd.1 ⟨rfl, Below.refl _ _⟩)
          · exact fun _ _ _ he hd => ob_mv rfl rfl hd.1
          iterate 7 exact fun aa ww hb he hd => ob_off 76 rfl (by kernel_rfl) hd.1 rfl
          · exact fun aa ww hb he hd => ob_plain rfl (gives_pick false _ _ _ rfl hd.1 ⟨rfl, Below.refl _ _⟩)
          · exact fun aa ww hb he hd => ob_plain rfl (gives_assign _ rfl ⟨hd.1, Below.refl _ _⟩)
        intro vs w4 hb hR
        have e12 : vs 32 = .bool false := hR 32 (by decide)
        clear hR
        simp only [putsL, Nat.zero_add, Nat.reduceAdd, List.take_succ_cons, List.take_zero, Act.put, List.setIfInBounds_toArray, List.set_cons_zero, List.set_cons_succ]
        rw [e12]
        clear e12
        go_wp2_with fail
        go_ret
        exact ⟨false, rfl, bthen HB.out hb HB.out.size, f_iff (fun h => by
          rcases h with ⟨h, q⟩ | ⟨h, q⟩ | ⟨h, q⟩
          · exact absurd h (by decide)
          · exact H1.out q.2.2.2.1
          · exact absurd h (by decide))⟩
      · have H1 := Lib.hid h1; clear h1
        by_cases h2 : v = 0
        rotate_left
        · have H2 := Lib.hid h2; clear h2
          refine wp_region_each (kss := [[], [(0, 53)], [(1, 54)], [(2, 55)], [(3, 56)], [(3, 56), (4, 57)], [(3, 56), (5, 58)], [(3, 56), (6, 59)], [(7, 60)], [(8, 61)], [(8, 61)], [(8, 61), (9, 62), (10, 63)], [(8, 61), (11, 64)], [(8, 61), (12, 65)], [(13, 66)], [(14, 67)], [(14, 67)], [(14, 67)], [(14, 67), (17, 70)], [(14, 67), (18, 71)], [(14, 67), (19, 72)], [(14, 67), (15, 68), (16, 69), (20, 73)], [(14, 67), (21, 74)], [(22, 75)], [(23, 76)], [(23, 76), (24, 77)], [(23, 76)], [(23, 76), (25, 78), (26, 79)], [(23, 76)], [(23, 76), (27, 80), (28, 81)], [(23, 76), (29, 82)], [(23, 76), (30, 83)], [(31, 84)]]) [(2, .slice AX kX cX), (4, .slice AR kR cR), (11, .pointer (some ⟨gv, 0, none⟩)), (6, .pointer (some ⟨gq, 0, none⟩)), (3, .slice AY kY cY)] [EV (.slice AX kX cX), EV (.int .i64 ((kX : Int))), EV (.bool true), EV (.bool true), EV (.slice AR kR cR), EV (.int .i64 ((kR : Int))), EV (.bool true), EV (.bool true), EV (.bool true), EV (QL (v)), EV (QL (0)), EV (.int .i64 (rcq v 0)), EV (.bool false), EV (.bool false), EV (.bool false), UD, UD, UD, UD, UD, UD, UD, EV (.bool false), EV (.bool false), UD, UD, UD, UD, UD, UD, UD, EV (.bool false), EV (.bool false)] (by kernel_rfl) (by kernel_rfl) ⟨rfl, rfl, rfl, rfl, rfl, trivial⟩ ?_ ?_ ?_
          · exact ⟨sI, sI, sI, sI, sI, sI, sI, sI, sI, sI, sI, sI, sI, sI, sI, sI, sI, sI, sI, sI, sI, sI, sI, sI, sI, sI, sI, sI, sI, sI, sI, sI, sI, trivial⟩
          · refine ⟨?_, ?_, ?_, ?_, ?_, ?_, ?_, ?_, ?_, ?_, ?_, ?_, ?_, ?_, ?_, ?_, ?_, ?_, ?_, ?_, ?_, ?_, ?_, ?_, ?_, ?_, ?_, ?_, ?_, ?_, ?_, ?_, ?_, trivial⟩
            · exact fun _ _ _ he hd => ob_mv rfl rfl he.1
            · exact fun aa ww hb he hd => ob_plain rfl (len_c Try.underlying32 rfl hd.1)
            · exact fun aa ww hb he hd => ob_plain rfl (gives_eq_int ((kX : Int)) 0 .i64 _ _ _ _ rfl hd.1 rfl ⟨congrArg Value.bool (keq0.trans (decide_eq_true H0.out)), Below.refl _ _⟩)
            · exact fun _ _ _ he hd => ob_mv rfl rfl hd.1
            · exact fun aa ww hb he hd => ob_on 56 rfl (by kernel_rfl) hd.1 (gives_move _ rfl ⟨he.2.1, Below.refl _ _⟩)
            · exact fun aa ww hb he hd => ob_on 56 rfl (by kernel_rfl) hd.1 (len_c Try.underlying32 rfl hd.2.1)
            · exact fun aa ww hb he hd => ob_on 56 rfl (by kernel_rfl) hd.1 (gives_eq_int ((kR : Int)) 0 .i64 _ _ _ _ rfl hd.2.1 rfl ⟨congrArg Value.bool (keq0.trans (decide_eq_true H1.out)), Below.refl _ _⟩)
            · exact fun aa ww hb he hd => ob_plain rfl (gives_pick true _ _ _ rfl hd.1 ⟨hd.2.1, Below.refl _ _⟩)
            · exact fun _ _ _ he hd => ob_mv rfl rfl hd.1
            · exact fun aa ww hb he hd => ob_on 61 rfl (by kernel_rfl) hd.1 (load_qb rfl he.2.2.1 (Qb.new HV.out hb))
            · exact fun aa ww hb he hd => ob_on 61 rfl (by kernel_rfl) hd.1 (gives_call0 _ _ rfl (by kernel_rfl) (rv_one (rzero_any _)))
            · exact fun aa ww hb he hd => ob_on 61 rfl (by kernel_rfl) hd.1 (gives_call2 _ _ _ _ rfl (by kernel_rfl) (rcmp_v (x := v) (y := 0) HsV.out (⟨by decide, by decide⟩ : Sm 0) _ _ hd.2.1 hd.2.2.1 _))
            · exact fun aa ww hb he hd => ob_on 61 rfl (by kernel_rfl) hd.1 (gives_eq_int (rcq v 0) 0 .i64 _ _ _ _ rfl hd.2.1 rfl ⟨congrArg Value.bool (rcq_eqb.trans (decide_eq_false H2.out)), Below.refl _ _⟩)
            · exact fun aa ww hb he hd => ob_plain rfl (gives_pick true _ _ _ rfl hd.1 ⟨hd.2.1, Below.refl _ _⟩)
            · exact fun _ _ _ he hd => ob_mv rfl rfl hd.1
            iterate 7 exact fun aa ww hb he hd => ob_off 67 rfl (by kernel_rfl) hd.1 rfl
            · exact fun aa ww hb he hd => ob_plain rfl (gives_pick false _ _ _ rfl hd.1 ⟨rfl, Below.refl _ _⟩)
            · exact fun _ _ _ he hd => ob_mv rfl rfl hd.1
            iterate 7 exact fun aa ww hb he hd => ob_off 76 rfl (by kernel_rfl) hd.1 rfl
            · exact fun aa ww hb he hd => ob_plain rfl (gives_pick false _ _ _ rfl hd.1 ⟨rfl, Below.refl _ _⟩)
            · exact fun aa ww hb he hd => ob_plain rfl (gives_assign _ rfl ⟨hd.1, Below.refl _ _⟩)
          intro vs w4 hb hR
          have e12 : vs 32 = .bool false := hR 32 (by decide)
          clear hR
          simp only [putsL, Nat.zero_add, Nat.reduceAdd, List.take_succ_cons, List.take_zero, Act.put, List.setIfInBounds_toArray, List.set_cons_zero, List.set_cons_succ]
          rw [e12]
          clear e12
          go_wp2_with fail
          go_ret
          exact ⟨false, rfl, bthen HB.out hb HB.out.size, f_iff (fun h => by
            rcases h with ⟨h, q⟩ | ⟨h, q⟩ | ⟨h, q⟩
            · exact absurd h (by decide)
            · exact H2.out q.2.2.2.2
            · exact absurd h (by decide))⟩
        · have H2 := Lib.hid h2; clear h2
          by_cases h3 : kY = m ∧ DualF n m A (fun _ => 0) Y
          rotate_left
          · have H3 := Lib.hid h3; clear h3
            refine wp_region_each (kss := [[], [(0, 53)], [(1, 54)], [(2, 55)], [(3, 56)], [(3, 56), (4, 57)], [(3, 56), (5, 58)], [(3, 56), (6, 59)], [(7, 60)], [(8, 61)], [(8, 61)], [(8, 61), (9, 62), (10, 63)], [(8, 61), (11, 64)], [(8, 61), (12, 65)], [(13, 66)], [(14, 67)], [(14, 67)], [(14, 67)], [(14, 67), (17, 70)], [(14, 67), (18, 71)], [(14, 67), (19, 72)], [(14, 67), (15, 68), (16, 69), (20, 73)], [(14, 67), (21, 74)], [(22, 75)], [(23, 76)], [(23, 76), (24, 77)], [(23, 76)], [(23, 76), (25, 78), (26, 79)], [(23, 76)], [(23, 76), (27, 80), (28, 81)], [(23, 76), (29, 82)], [(23, 76), (30, 83)], [(31, 84)]]) [(2, .slice AX kX cX), (4, .slice AR kR cR), (11, .pointer (some ⟨gv, 0, none⟩)), (6, .pointer (some ⟨gq, 0, none⟩)), (3, .slice AY kY cY)] [EV (.slice AX kX cX), EV (.int .i64 ((kX : Int))), EV (.bool true), EV (.bool true), EV (.slice AR kR cR), EV (.int .i64 ((kR : Int))), EV (.bool true), EV (.bool true), EV (.bool true), EV (QL (v)), EV (QL (0)), EV (.int .i64 (rcq v 0)), EV (.bool true), EV (.bool true), EV (.bool true), EV (.agg #[.slice QC n qc, .slice QA m qa, .slice QB m qb]), EV (.slice AY kY cY), EV (.pointer (some ⟨gq, 0, none⟩)), EV (.slice QC n qc), EV (.int .i64 ((n : Int))), fun v w' => ∃ (A0 : Option Addr) (c0 : Nat), v = .slice A0 n c0 ∧ Reads w' w'.heap.size 2 A0 n (qsL (fun _ => 0) n), EV (.bool false), EV (.bool false), EV (.bool false), UD, UD, UD, UD, UD, UD, UD, EV (.bool false), EV (.bool false)] (by kernel_rfl) (by kernel_rfl) ⟨rfl, rfl, rfl, rfl, rfl, trivial⟩ ?_ ?_ ?_
            · exact ⟨sI, sI, sI, sI, sI, sI, sI, sI, sI, sI, sI, sI, sI, sI, sI, sI, sI, sI, sI, sI, fun _ _ _ ⟨A0, c0, h1, h2⟩ hb => ⟨A0, c0, h1, (h2.below hb).more hb.size⟩, sI, sI, sI, sI, sI, sI, sI, sI, sI, sI, sI, sI, trivial⟩
            · refine ⟨?_, ?_, ?_, ?_, ?_, ?_, ?_, ?_, ?_, ?_, ?_, ?_, ?_, ?_, ?_, ?_, ?_, ?_, ?_, ?_, ?_, ?_, ?_, ?_, ?_, ?_, ?_, ?_, ?_, ?_, ?_, ?_, ?_, trivial⟩
              · exact fun _ _ _ he hd => ob_mv rfl rfl he.1
              · exact fun aa ww hb he hd => ob_plain rfl (len_c Try.underlying32 rfl hd.1)
              · exact fun aa ww hb he hd => ob_plain rfl (gives_eq_int ((kX : Int)) 0 .i64 _ _ _ _ rfl hd.1 rfl ⟨congrArg Value.bool (keq0.trans (decide_eq_true H0.out)), Below.refl _ _⟩)
              · exact fun _ _ _ he hd => ob_mv rfl rfl hd.1
              · exact fun aa ww hb he hd => ob_on 56 rfl (by kernel_rfl) hd.1 (gives_move _ rfl ⟨he.2.1, Below.refl _ _⟩)
              · exact fun aa ww hb he hd => ob_on 56 rfl (by kernel_rfl) hd.1 (len_c Try.underlying32 rfl hd.2.1)
              · exact fun aa ww hb he hd => ob_on 56 rfl (by kernel_rfl) hd.1 (gives_eq_int ((kR : Int)) 0 .i64 _ _ _ _ rfl hd.2.1 rfl ⟨congrArg Value.bool (keq0.trans (decide_eq_true H1.out)), Below.refl _ _⟩)
              · exact fun aa ww hb he hd => ob_plain rfl (gives_pick true _ _ _ rfl hd.1 ⟨hd.2.1, Below.refl _ _⟩)
              · exact fun _ _ _ he hd => ob_mv rfl rfl hd.1
              · exact fun aa ww hb he hd => ob_on 61 rfl (by kernel_rfl) hd.1 (load_qb rfl he.2.2.1 (Qb.new HV.out hb))
              · exact fun aa ww hb he hd => ob_on 61 rfl (by kernel_rfl) hd.1 (gives_call0 _ _ rfl (by kernel_rfl) (rv_one (rzero_any _)))
              · exact fun aa ww hb he hd => ob_on 61 rfl (by kernel_rfl) hd.1 (gives_call2 _ _ _ _ rfl (by kernel_rfl) (rcmp_v (x := v) (y := 0) HsV.out (⟨by decide, by decide⟩ : Sm 0) _ _ hd.2.1 hd.2.2.1 _))
              · exact fun aa ww hb he hd => ob_on 61 rfl (by kernel_rfl) hd.1 (gives_eq_int (rcq v 0) 0 .i64 _ _ _ _ rfl hd.2.1 rfl ⟨congrArg Value.bool (rcq_eqb.trans (decide_eq_true H2.out)), Below.refl _ _⟩)
              · exact fun aa ww hb he hd => ob_plain rfl (gives_pick true _ _ _ rfl hd.1 ⟨hd.2.1, Below.refl _ _⟩)
              · exact fun _ _ _ he hd => ob_mv rfl rfl hd.1
              · exact fun aa ww hb he hd => ob_on 67 rfl (by kernel_rfl) hd.1 (load_rpb rfl he.2.2.2.1 (Blk.keep HBx.out hb))
              · exact fun aa ww hb he hd => ob_on 67 rfl (by kernel_rfl) hd.1 (gives_move _ rfl ⟨he.2.2.2.2.1, Below.refl _ _⟩)
              · exact fun aa ww hb he hd => ob_on 67 rfl (by kernel_rfl) hd.1 (fld_rpb rfl (by decide) he.2.2.2.1)
              · exact fun aa ww hb he hd => ob_on 67 rfl (by kernel_rfl) hd.1 (load_c32 rfl hd.2.1 (Blk.at0 HBx.out hb))
              · exact fun aa ww hb he hd => ob_on 67 rfl (by kernel_rfl) hd.1 (len_c Try.underlying32 rfl hd.2.1)
              · exact fun aa ww hb he hd => ob_on 67 rfl (by kernel_rfl) hd.1 (gives_call1 _ _ _ rfl (by kernel_rfl) (by rw [show aa.eval (.tmp 72) = .int .i64 ((n : Int)) from hd.2.1]; exact rzeros_any n _ (by omega)))
              · exact fun aa ww hb he hd => ob_on 67 rfl (by kernel_rfl) hd.1 (gives_call3 _ _ _ _ _ rfl (by kernel_rfl) (by obtain ⟨A0, c0, e0, r0⟩ := hd.2.2.2.1; rw [show aa.eval (.tmp 68) = .agg #[.slice QC n qc, .slice QA m qa, .slice QB m qb] from hd.2.1, show aa.eval (.tmp 69) = .slice AY kY cY from hd.2.2.1, show aa.eval (.tmp 73) = .slice A0 n c0 from e0]; exact ret_t (rdual_any n m m kY qc qa qb cY c0 QC QA QB AY A0 Qr qp A C B Y (fun _ => 0) _ (RqW.new HQ.out (bthen HB.out hb HB.out.size)) ((HY.out.below (bthen HB.out hb HB.out.size)).more (bthen HB.out hb HB.out.size).size) (r0) (fun i _ => HsY.out i) (fun _ _ => ⟨by decide, by decide⟩) (fun j _ => dotS (by omega) (fun k _ => HfY.out k) (fun k _ => HfA.out k j)) (by omega) (by omega) (by omega)) (f_iff H3.out)))
              · exact fun aa ww hb he hd => ob_plain rfl (gives_pick true _ _ _ rfl hd.1 ⟨hd.2.1, Below.refl _ _⟩)
              · exact fun _ _ _ he hd => ob_mv rfl rfl hd.1
              iterate 7 exact fun aa ww hb he hd => ob_off 76 rfl (by kernel_rfl) hd.1 rfl
              · exact fun aa ww hb he hd => ob_plain rfl (gives_pick false _ _ _ rfl hd.1 ⟨rfl, Below.refl _ _⟩)
              · exact fun aa ww hb he hd => ob_plain rfl (gives_assign _ rfl ⟨hd.1, Below.refl _ _⟩)
            intro vs w4 hb hR
            have e12 : vs 32 = .bool false := hR 32 (by decide)
            clear hR
            simp only [putsL, Nat.zero_add, Nat.reduceAdd, List.take_succ_cons, List.take_zero, Act.put, List.setIfInBounds_toArray, List.set_cons_zero, List.set_cons_succ]
            rw [e12]
            clear e12
            go_wp2_with fail
            go_ret
            exact ⟨false, rfl, bthen HB.out hb HB.out.size, f_iff (fun h => by
              rcases h with ⟨h, q⟩ | ⟨h, q⟩ | ⟨h, q⟩
              · exact absurd h (by decide)
              · exact H3.out q.1
              · exact absurd h (by decide))⟩
          · have H3 := Lib.hid h3; clear h3
            have hmy : m ≤ kY := by have := H3.out.1; omega
            by_cases h4 : sm (fun l => B l * Y l) m < 0
            rotate_left
            · have H4 := Lib.hid h4; clear h4
              refine wp_region_each (kss := [[], [(0, 53)], [(1, 54)], [(2, 55)], [(3, 56)], [(3, 56), (4, 57)], [(3, 56), (5, 58)], [(3, 56), (6, 59)], [(7, 60)], [(8, 61)], [(8, 61)], [(8, 61), (9, 62), (10, 63)], [(8, 61), (11, 64)], [(8, 61), (12, 65)], [(13, 66)], [(14, 67)], [(14, 67)], [(14, 67)], [(14, 67), (17, 70)], [(14, 67), (18, 71)], [(14, 67), (19, 72)], [(14, 67), (15, 68), (16, 69), (20, 73)], [(14, 67), (21, 74)], [(22, 75)], [(23, 76)], [(23, 76), (24, 77)], [(23, 76)], [(23, 76), (25, 78), (26, 79)], [(23, 76)], [(23, 76), (27, 80), (28, 81)], [(23, 76), (29, 82)], [(23, 76), (30, 83)], [(31, 84)]]) [(2, .slice AX kX cX), (4, .slice AR kR cR), (11, .pointer (some ⟨gv, 0, none⟩)), (6, .pointer (some ⟨gq, 0, none⟩)), (3, .slice AY kY cY)] [EV (.slice AX kX cX), EV (.int .i64 ((kX : Int))), EV (.bool true), EV (.bool true), EV (.slice AR kR cR), EV (.int .i64 ((kR : Int))), EV (.bool true), EV (.bool true), EV (.bool true), EV (QL (v)), EV (QL (0)), EV (.int .i64 (rcq v 0)), EV (.bool true), EV (.bool true), EV (.bool true), EV (.agg #[.slice QC n qc, .slice QA m qa, .slice QB m qb]), EV (.slice AY kY cY), EV (.pointer (some ⟨gq, 0, none⟩)), EV (.slice QC n qc), EV (.int .i64 ((n : Int))), fun v w' => ∃ (A0 : Option Addr) (c0 : Nat), v = .slice A0 n c0 ∧ Reads w' w'.heap.size 2 A0 n (qsL (fun _ => 0) n), EV (.bool true), EV (.bool true), EV (.bool true), EV (.pointer (some ⟨gq, 2, none⟩)), EV (.slice QB m qb), EV (.slice AY kY cY), EV (QL (sm (fun l => B l * Y l) m)), EV (QL (0)), EV (.int .i64 (rcq (sm (fun l => B l * Y l) m) 0)), EV (.bool false), EV (.bool false), EV (.bool false)] (by kernel_rfl) (by kernel_rfl) ⟨rfl, rfl, rfl, rfl, rfl, trivial⟩ ?_ ?_ ?_
              · exact ⟨sI, sI, sI, sI, sI, sI, sI, sI, sI, sI, sI, sI, sI, sI, sI, sI, sI, sI, sI, sI, fun _ _ _ ⟨A0, c0, h1, h2⟩ hb => ⟨A0, c0, h1, (h2.below hb).more hb.size⟩, sI, sI, sI, sI, sI, sI, sI, sI, sI, sI, sI, sI, trivial⟩
              · refine ⟨?_, ?_, ?_, ?_, ?_, ?_, ?_, ?_, ?_, ?_, ?_, ?_, ?_, ?_, ?_, ?_, ?_, ?_, ?_, ?_, ?_, ?_, ?_, ?_, ?_, ?_, ?_, ?_, ?_, ?_, ?_, ?_, ?_, trivial⟩
                · exact fun _ _ _ he hd => ob_mv rfl rfl he.1
                · exact fun aa ww hb he hd => ob_plain rfl (len_c Try.underlying32 rfl hd.1)
                · exact fun aa ww hb he hd => ob_plain rfl (gives_eq_int ((kX : Int)) 0 .i64 _ _ _ _ rfl hd.1 rfl ⟨congrArg Value.bool (keq0.trans (decide_eq_true H0.out)), Below.refl _ _⟩)
                · exact fun _ _ _ he hd => ob_mv rfl rfl hd.1
                · exact fun aa ww hb he hd => ob_on 56 rfl (by kernel_rfl) hd.1 (gives_move _ rfl ⟨he.2.1, Below.refl _ _⟩)
                · exact fun aa ww hb he hd => ob_on 56 rfl (by kernel_rfl) hd.1 (len_c Try.underlying32 rfl hd.2.1)
                · exact fun aa ww hb he hd => ob_on 56 rfl (by kernel_rfl) hd.1 (gives_eq_int ((kR : Int)) 0 .i64 _ _ _ _ rfl hd.2.1 rfl ⟨congrArg Value.bool (keq0.trans (decide_eq_true H1.out)), Below.refl _ _⟩)
                · exact fun aa ww hb he hd => ob_plain rfl (gives_pick true _ _ _ rfl hd.1 ⟨hd.2.1, Below.refl _ _⟩)
                · exact fun _ _ _ he hd => ob_mv rfl rfl hd.1
                · exact fun aa ww hb he hd => ob_on 61 rfl (by kernel_rfl) hd.1 (load_qb rfl he.2.2.1 (Qb.new HV.out hb))
                · exact fun aa ww hb he hd => ob_on 61 rfl (by kernel_rfl) hd.1 (gives_call0 _ _ rfl (by kernel_rfl) (rv_one (rzero_any _)))
                · exact fun aa ww hb he hd => ob_on 61 rfl (by kernel_rfl) hd.1 (gives_call2 _ _ _ _ rfl (by kernel_rfl) (rcmp_v (x := v) (y := 0) HsV.out (⟨by decide, by decide⟩ : Sm 0) _ _ hd.2.1 hd.2.2.1 _))
                · exact fun aa ww hb he hd => ob_on 61 rfl (by kernel_rfl) hd.1 (gives_eq_int (rcq v 0) 0 .i64 _ _ _ _ rfl hd.2.1 rfl ⟨congrArg Value.bool (rcq_eqb.trans (decide_eq_true H2.out)), Below.refl _ _⟩)
                · exact fun aa ww hb he hd => ob_plain rfl (gives_pick true _ _ _ rfl hd.1 ⟨hd.2.1, Below.refl _ _⟩)
                · exact fun _ _ _ he hd => ob_mv rfl rfl hd.1
                · exact fun aa ww hb he hd => ob_on 67 rfl (by kernel_rfl) hd.1 (load_rpb rfl he.2.2.2.1 (Blk.keep HBx.out hb))
                · exact fun aa ww hb he hd => ob_on 67 rfl (by kernel_rfl) hd.1 (gives_move _ rfl ⟨he.2.2.2.2.1, Below.refl _ _⟩)
                · exact fun aa ww hb he hd => ob_on 67 rfl (by kernel_rfl) hd.1 (fld_rpb rfl (by decide) he.2.2.2.1)
                · exact fun aa ww hb he hd => ob_on 67 rfl (by kernel_rfl) hd.1 (load_c32 rfl hd.2.1 (Blk.at0 HBx.out hb))
                · exact fun aa ww hb he hd => ob_on 67 rfl (by kernel_rfl) hd.1 (len_c Try.underlying32 rfl hd.2.1)
                · exact fun aa ww hb he hd => ob_on 67 rfl (by kernel_rfl) hd.1 (gives_call1 _ _ _ rfl (by kernel_rfl) (by rw [show aa.eval (.tmp 72) = .int .i64 ((n : Int)) from hd.2.1]; exact rzeros_any n _ (by omega)))
                · exact fun aa ww hb he hd => ob_on 67 rfl (by kernel_rfl) hd.1 (gives_call3 _ _ _ _ _ rfl (by kernel_rfl) (by obtain ⟨A0, c0, e0, r0⟩ := hd.2.2.2.1; rw [show aa.eval (.tmp 68) = .agg #[.slice QC n qc, .slice QA m qa, .slice QB m qb] from hd.2.1, show aa.eval (.tmp 69) = .slice AY kY cY from hd.2.2.1, show aa.eval (.tmp 73) = .slice A0 n c0 from e0]; exact ret_t (rdual_any n m m kY qc qa qb cY c0 QC QA QB AY A0 Qr qp A C B Y (fun _ => 0) _ (RqW.new HQ.out (bthen HB.out hb HB.out.size)) ((HY.out.below (bthen HB.out hb HB.out.size)).more (bthen HB.out hb HB.out.size).size) (r0) (fun i _ => HsY.out i) (fun _ _ => ⟨by decide, by decide⟩) (fun j _ => dotS (by omega) (fun k _ => HfY.out k) (fun k _ => HfA.out k j)) (by omega) (by omega) (by omega)) (t_iff H3.out)))
                · exact fun aa ww hb he hd => ob_plain rfl (gives_pick true _ _ _ rfl hd.1 ⟨hd.2.1, Below.refl _ _⟩)
                · exact fun _ _ _ he hd => ob_mv rfl rfl hd.1
                · exact fun aa ww hb he hd => ob_on 76 rfl (by kernel_rfl) hd.1 (fld_rpb rfl (by decide) he.2.2.2.1)
                · exact fun aa ww hb he hd => ob_on 76 rfl (by kernel_rfl) hd.1 (load_c32 rfl hd.2.1 (Blk.at2 HBx.out hb))
                · exact fun aa ww hb he hd => ob_on 76 rfl (by kernel_rfl) hd.1 (gives_move _ rfl ⟨he.2.2.2.2.1, Below.refl _ _⟩)
                · exact fun aa ww hb he hd => ob_on 76 rfl (by kernel_rfl) hd.1 (gives_call2 _ _ _ _ rfl (by kernel_rfl) (by rw [show aa.eval (.tmp 78) = .slice QB m qb from hd.2.1, show aa.eval (.tmp 79) = .slice AY kY cY from hd.2.2.1]; exact rdot_any m kY qb cY QB AY B Y _ (((RqW.new HQ.out (bthen HB.out hb HB.out.size)).b)) ((HY.out.below (bthen HB.out hb HB.out.size)).more (bthen HB.out hb HB.out.size).size) (by omega) (by omega) (dotS (by omega) (fun k _ => HfB.out k) (fun k _ => HfY.out k))))
                · exact fun aa ww hb he hd => ob_on 76 rfl (by kernel_rfl) hd.1 (gives_call0 _ _ rfl (by kernel_rfl) (rv_one (rzero_any _)))
                · exact fun aa ww hb he hd => ob_on 76 rfl (by kernel_rfl) hd.1 (gives_call2 _ _ _ _ rfl (by kernel_rfl) (rcmp_v (x := sm (fun l => B l * Y l) m) (y := 0) ((dotS (n := m) (f := B) (g := Y) (by omega) (fun k _ => HfB.out k) (fun k _ => HfY.out k)).h4 m (Nat.le_refl _)) (⟨by decide, by decide⟩ : Sm 0) _ _ hd.2.1 hd.2.2.1 _))
                · exact fun aa ww hb he hd => ob_on 76 rfl (by kernel_rfl) hd.1 (gives_lt_int (rcq (sm (fun l => B l * Y l) m) 0) 0 .i64 _ _ _ _ rfl hd.2.1 rfl ⟨congrArg Value.bool (rcq_ltd.trans (decide_eq_false H4.out)), Below.refl _ _⟩)
                · exact fun aa ww hb he hd => ob_plain rfl (gives_pick true _ _ _ rfl hd.1 ⟨hd.2.1, Below.refl _ _⟩)
                · exact fun aa ww hb he hd => ob_plain rfl (gives_assign _ rfl ⟨hd.1, Below.refl _ _⟩)
              intro vs w4 hb hR
              have e12 : vs 32 = .bool false := hR 32 (by decide)
              clear hR
              simp only [putsL, Nat.zero_add, Nat.reduceAdd, List.take_succ_cons, List.take_zero, Act.put, List.setIfInBounds_toArray, List.set_cons_zero, List.set_cons_succ]
              rw [e12]
              clear e12
              go_wp2_with fail
              go_ret
              exact ⟨false, rfl, bthen HB.out hb HB.out.size, f_iff (fun h => by
                rcases h with ⟨h, q⟩ | ⟨h, q⟩ | ⟨h, q⟩
                · exact absurd h (by decide)
                · exact H4.out q.2.1
                · exact absurd h (by decide))⟩
            · have H4 := Lib.hid h4; clear h4
              refine wp_region_each (kss := [[], [(0, 53)], [(1, 54)], [(2, 55)], [(3, 56)], [(3, 56), (4, 57)], [(3, 56), (5, 58)], [(3, 56), (6, 59)], [(7, 60)], [(8, 61)], [(8, 61)], [(8, 61), (9, 62), (10, 63)], [(8, 61), (11, 64)], [(8, 61), (12, 65)], [(13, 66)], [(14, 67)], [(14, 67)], [(14, 67)], [(14, 67), (17, 70)], [(14, 67), (18, 71)], [(14, 67), (19, 72)], [(14, 67), (15, 68), (16, 69), (20, 73)], [(14, 67), (21, 74)], [(22, 75)], [(23, 76)], [(23, 76), (24, 77)], [(23, 76)], [(23, 76), (25, 78), (26, 79)], [(23, 76)], [(23, 76), (27, 80), (28, 81)], [(23, 76), (29, 82)], [(23, 76), (30, 83)], [(31, 84)]]) [(2, .slice AX kX cX), (4, .slice AR kR cR), (11, .pointer (some ⟨gv, 0, none⟩)), (6, .pointer (some ⟨gq, 0, none⟩)), (3, .slice AY kY cY)] [EV (.slice AX kX cX), EV (.int .i64 ((kX : Int))), EV (.bool true), EV (.bool true), EV (.slice AR kR cR), EV (.int .i64 ((kR : Int))), EV (.bool true), EV (.bool true), EV (.bool true), EV (QL (v)), EV (QL (0)), EV (.int .i64 (rcq v 0)), EV (.bool true), EV (.bool true), EV (.bool true), EV (.agg #[.slice QC n qc, .slice QA m qa, .slice QB m qb]), EV (.slice AY kY cY), EV (.pointer (some ⟨gq, 0, none⟩)), EV (.slice QC n qc), EV (.int .i64 ((n : Int))), fun v w' => ∃ (A0 : Option Addr) (c0 : Nat), v = .slice A0 n c0 ∧ Reads w' w'.heap.size 2 A0 n (qsL (fun _ => 0) n), EV (.bool true), EV (.bool true), EV (.bool true), EV (.pointer (some ⟨gq, 2, none⟩)), EV (.slice QB m qb), EV (.slice AY kY cY), EV (QL (sm (fun l => B l * Y l) m)), EV (QL (0)), EV (.int .i64 (rcq (sm (fun l => B l * Y l) m) 0)), EV (.bool true), EV (.bool true), EV (.bool true)] (by kernel_rfl) (by kernel_rfl) ⟨rfl, rfl, rfl, rfl, rfl, trivial⟩ ?_ ?_ ?_
              · exact ⟨sI, sI, sI, sI, sI, sI, sI, sI, sI, sI, sI, sI, sI, sI, sI, sI, sI, sI, sI, sI, fun _ _ _ ⟨A0, c0, h1, h2⟩ hb => ⟨A0, c0, h1, (h2.below hb).more hb.size⟩, sI, sI, sI, sI, sI, sI, sI, sI, sI, sI, sI, sI, trivial⟩
              · refine ⟨?_, ?_, ?_, ?_, ?_, ?_, ?_, ?_, ?_, ?_, ?_, ?_, ?_, ?_, ?_, ?_, ?_, ?_, ?_, ?_, ?_, ?_, ?_, ?_, ?_, ?_, ?_, ?_, ?_, ?_, ?_, ?_, ?_, trivial⟩
                · exact fun _ _ _ he hd => ob_mv rfl rfl he.1
                · exact fun aa ww hb he hd => ob_plain rfl (len_c Try.underlying32 rfl hd.1)
                · exact fun aa ww hb he hd => ob_plain rfl (gives_eq_int ((kX : Int)) 0 .i64 _ _ _ _ rfl hd.1 rfl ⟨congrArg Value.bool (keq0.trans (decide_eq_true H0.out)), Below.refl _ _⟩)
                · exact fun _ _ _ he hd => ob_mv rfl rfl hd.1
                · exact fun aa ww hb he hd => ob_on 56 rfl (by kernel_rfl) hd.1 (gives_move _ rfl ⟨he.2.1, Below.refl _ _⟩)
                · exact fun aa ww hb he hd => ob_on 56 rfl (by kernel_rfl) hd.1 (len_c Try.underlying32 rfl hd.2.1)
                · exact fun aa ww hb he hd => ob_on 56 rfl (by kernel_rfl) hd.1 (gives_eq_int ((kR : Int)) 0 .i64 _ _ _ _ rfl hd.2.1 rfl ⟨congrArg Value.bool (keq0.trans (decide_eq_true H1.out)), Below.refl _ _⟩)
                · exact fun aa ww hb he hd => ob_plain rfl (gives_pick true _ _ _ rfl hd.1 ⟨hd.2.1, Below.refl _ _⟩)
                · exact fun _ _ _ he hd => ob_mv rfl rfl hd.1
                · exact fun aa ww hb he hd => ob_on 61 rfl (by kernel_rfl) hd.1 (load_qb rfl he.2.2.1 (Qb.new HV.out hb))
                · exact fun aa ww hb he hd => ob_on 61 rfl (by kernel_rfl) hd.1 (gives_call0 _ _ rfl (by kernel_rfl) (rv_one (rzero_any _)))
                · exact fun aa ww hb he hd => ob_on 61 rfl (by kernel_rfl) hd.1 (gives_call2 _ _ _ _ rfl (by kernel_rfl) (rcmp_v (x := v) (y := 0) HsV.out (⟨by decide, by decide⟩ : Sm 0) _ _ hd.2.1 hd.2.2.1 _))
                · exact fun aa ww hb he hd => ob_on 61 rfl (by kernel_rfl) hd.1 (gives_eq_int (rcq v 0) 0 .i64 _ _ _ _ rfl hd.2.1 rfl ⟨congrArg Value.bool (rcq_eqb.trans (decide_eq_true H2.out)), Below.refl _ _⟩)
                · exact fun aa ww hb he hd => ob_plain rfl (gives_pick true _ _ _ rfl hd.1 ⟨hd.2.1, Below.refl _ _⟩)
                · exact fun _ _ _ he hd => ob_mv rfl rfl hd.1
                · exact fun aa ww hb he hd => ob_on 67 rfl (by kernel_rfl) hd.1 (load_rpb rfl he.2.2.2.1 (Blk.keep HBx.out hb))
                · exact fun aa ww hb he hd => ob_on 67 rfl (by kernel_rfl) hd.1 (gives_move _ rfl ⟨he.2.2.2.2.1, Below.refl _ _⟩)
                · exact fun aa ww hb he hd => ob_on 67 rfl (by kernel_rfl) hd.1 (fld_rpb rfl (by decide) he.2.2.2.1)
                · exact fun aa ww hb he hd => ob_on 67 rfl (by kernel_rfl) hd.1 (load_c32 rfl hd.2.1 (Blk.at0 HBx.out hb))
                · exact fun aa ww hb he hd => ob_on 67 rfl (by kernel_rfl) hd.1 (len_c Try.underlying32 rfl hd.2.1)
                · exact fun aa ww hb he hd => ob_on 67 rfl (by kernel_rfl) hd.1 (gives_call1 _ _ _ rfl (by kernel_rfl) (by rw [show aa.eval (.tmp 72) = .int .i64 ((n : Int)) from hd.2.1]; exact rzeros_any n _ (by omega)))
                · exact fun aa ww hb he hd => ob_on 67 rfl (by kernel_rfl) hd.1 (gives_call3 _ _ _ _ _ rfl (by kernel_rfl) (by obtain ⟨A0, c0, e0, r0⟩ := hd.2.2.2.1; rw [show aa.eval (.tmp 68) = .agg #[.slice QC n qc, .slice QA m qa, .slice QB m qb] from hd.2.1, show aa.eval (.tmp 69) = .slice AY kY cY from hd.2.2.1, show aa.eval (.tmp 73) = .slice A0 n c0 from e0]; exact ret_t (rdual_any n m m kY qc qa qb cY c0 QC QA QB AY A0 Qr qp A C B Y (fun _ => 0) _ (RqW.new HQ.out (bthen HB.out hb HB.out.size)) ((HY.out.below (bthen HB.out hb HB.out.size)).more (bthen HB.out hb HB.out.size).size) (r0) (fun i _ => HsY.out i) (fun _ _ => ⟨by decide, by decide⟩) (fun j _ => dotS (by omega) (fun k _ => HfY.out k) (fun k _ => HfA.out k j)) (by omega) (by omega) (by omega)) (t_iff H3.out)))
                · exact fun aa ww hb he hd => ob_plain rfl (gives_pick true _ _ _ rfl hd.1 ⟨hd.2.1, Below.refl _ _⟩)
                · exact fun _ _ _ he hd => ob_mv rfl rfl hd.1
                · exact fun aa ww hb he hd => ob_on 76 rfl (by kernel_rfl) hd.1 (fld_rpb rfl (by decide) he.2.2.2.1)
                · exact fun aa ww hb he hd => ob_on 76 rfl (by kernel_rfl) hd.1 (load_c32 rfl hd.2.1 (Blk.at2 HBx.out hb))
                · exact fun aa ww hb he hd => ob_on 76 rfl (by kernel_rfl) hd.1 (gives_move _ rfl ⟨he.2.2.2.2.1, Below.refl _ _⟩)
                · exact fun aa ww hb he hd => ob_on 76 rfl (by kernel_rfl) hd.1 (gives_call2 _ _ _ _ rfl (by kernel_rfl) (by rw [show aa.eval (.tmp 78) = .slice QB m qb from hd.2.1, show aa.eval (.tmp 79) = .slice AY kY cY from hd.2.2.1]; exact rdot_any m kY qb cY QB AY B Y _ (((RqW.new HQ.out (bthen HB.out hb HB.out.size)).b)) ((HY.out.below (bthen HB.out hb HB.out.size)).more (bthen HB.out hb HB.out.size).size) (by omega) (by omega) (dotS (by omega) (fun k _ => HfB.out k) (fun k _ => HfY.out k))))
                · exact fun aa ww hb he hd => ob_on 76 rfl (by kernel_rfl) hd.1 (gives_call0 _ _ rfl (by kernel_rfl) (rv_one (rzero_any _)))
                · exact fun aa ww hb he hd => ob_on 76 rfl (by kernel_rfl) hd.1 (gives_call2 _ _ _ _ rfl (by kernel_rfl) (rcmp_v (x := sm (fun l => B l * Y l) m) (y := 0) ((dotS (n := m) (f := B) (g := Y) (by omega) (fun k _ => HfB.out k) (fun k _ => HfY.out k)).h4 m (Nat.le_refl _)) (⟨by decide, by decide⟩ : Sm 0) _ _ hd.2.1 hd.2.2.1 _))
                · exact fun aa ww hb he hd => ob_on 76 rfl (by kernel_rfl) hd.1 (gives_lt_int (rcq (sm (fun l => B l * Y l) m) 0) 0 .i64 _ _ _ _ rfl hd.2.1 rfl ⟨congrArg Value.bool (rcq_ltd.trans (decide_eq_true H4.out)), Below.refl _ _⟩)
                · exact fun aa ww hb he hd => ob_plain rfl (gives_pick true _ _ _ rfl hd.1 ⟨hd.2.1, Below.refl _ _⟩)
                · exact fun aa ww hb he hd => ob_plain rfl (gives_assign _ rfl ⟨hd.1, Below.refl _ _⟩)
              intro vs w4 hb hR
              have e12 : vs 32 = .bool true := hR 32 (by decide)
              clear hR
              simp only [putsL, Nat.zero_add, Nat.reduceAdd, List.take_succ_cons, List.take_zero, Act.put, List.setIfInBounds_toArray, List.set_cons_zero, List.set_cons_succ]
              rw [e12]
              clear e12
              go_wp2_with fail
              go_ret
              exact ⟨true, rfl, bthen HB.out hb HB.out.size, t_iff (.inr (.inl ⟨rfl, H3.out, H4.out, H0.out, H1.out, H2.out⟩))⟩
  by_cases hz2 : z = 2
  · subst hz2
    go_upto_region 7 with (fail)
    by_cases h0 : kY = 0
    rotate_left
    · have H0 := Lib.hid h0; clear h0
      refine wp_region_each (kss := [[], [(0, 87)], [(1, 88)], [(2, 89)], [(3, 90)], [(3, 90)], [(3, 90), (4, 91), (5, 92)], [(3, 90), (6, 93)], [(3, 90), (7, 94)], [(8, 95)], [(9, 96)], [(9, 96)], [(9, 96)], [(9, 96), (12, 99)], [(9, 96), (10, 97), (11, 98), (13, 100)], [(9, 96), (14, 101)], [(15, 102)], [(16, 103)], [(16, 103)], [(16, 103)], [(16, 103), (19, 106)], [(16, 103), (20, 107)], [(16, 103), (21, 108)], [(16, 103), (17, 104), (18, 105), (22, 109)], [(16, 103), (23, 110)], [(24, 111)], [(25, 112)], [(25, 112), (26, 113)], [(25, 112)], [(25, 112), (27, 114), (28, 115)], [(25, 112)], [(25, 112), (29, 116), (30, 117)], [(25, 112), (31, 118)], [(25, 112), (32, 119)], [(33, 120)]]) [(3, .slice AY kY cY), (11, .pointer (some ⟨gv, 0, none⟩)), (6, .pointer (some ⟨gq, 0, none⟩)), (2, .slice AX kX cX), (4, .slice AR kR cR)] [EV (.slice AY kY cY), EV (.int .i64 ((kY : Int))), EV (.bool false), EV (.bool false), UD, UD, UD, UD, EV (.bool false), EV (.bool false), UD, UD, UD, UD, UD, EV (.bool false), EV (.bool false), UD, UD, UD, UD, UD, UD, UD, EV (.bool false), EV (.bool false), UD, UD, UD, UD, UD, UD, UD, EV (.bool false), EV (.bool false)] (by kernel_rfl) (by kernel_rfl) ⟨rfl, rfl, rfl, rfl, rfl, trivial⟩ ?_ ?_ ?_
      · exact ⟨sI, sI, sI, sI, sI, sI, sI, sI, sI, sI, sI, sI, sI, sI, sI, sI, sI, sI, sI, sI, sI, sI, sI, sI, sI, sI, sI, sI, sI, sI, sI, sI, sI, sI, sI, trivial⟩
      · refine ⟨?_, ?_, ?_, ?_, ?_, ?_, ?_, ?_, ?_, ?_, ?_, ?_, ?_, ?_, ?_, ?_, ?_, ?_, ?_, ?_, ?_, ?_, ?_, ?_, ?_, ?_, ?_, ?_, ?_, ?_, ?_, ?_, ?_, ?_, ?_, trivial⟩
        · exact fun _ _ _ he hd => ob_mv rfl rfl he.1
        · exact fun aa ww hb he hd => ob_plain rfl (len_c Try.underlying32 rfl hd.1)
        · exact fun aa ww hb he hd => ob_plain rfl (gives_eq_int ((kY : Int)) 0 .i64 _ _ _ _ rfl hd.1 rfl ⟨congrArg Value.bool (keq0.trans (decide_eq_false H0.out)), Below.refl _ _⟩)
        · exact fun _ _ _ he hd => ob_mv rfl rfl hd.1
        iterate 4 exact fun aa ww hb he hd => ob_off 90 rfl (by kernel_rfl) hd.1 rfl
        · exact fun aa ww hb he hd => ob_plain rfl (gives_pick false _ _ _ rfl hd.1 ⟨rfl, Below.refl _ _⟩)
        · exact fun _ _ _ he hd => ob_mv rfl rfl hd.1
        iterate 5 exact fun aa ww hb he hd => ob_off 96 rfl (by kernel_rfl) hd.1 rfl
        · exact fun aa ww hb he hd => ob_plain rfl (gives_pick false _ _ _ rfl hd.1 ⟨rfl, Below.refl _ _⟩)
        · exact fun _ _ _ he hd => ob_mv rfl rfl hd.1
        iterate 7 exact fun aa ww hb he hd => ob_off 103 rfl (by kernel_rfl) hd.1 rfl
        · exact fun aa ww hb he hd => ob_plain rfl (gives_pick false _ _ _ rfl hd.1 ⟨rfl, Below.refl _ _⟩)
        · exact fun _ _ _ he hd => ob_mv rfl rfl hd.1
        iterate 7 exact fun aa ww hb he hd => ob_off 112 rfl (by kernel_rfl) hd.1 rfl
        · exact fun aa ww hb he hd => ob_plain rfl (gives_pick false _ _ _ rfl hd.1 ⟨rfl, Below.refl _ _⟩)
        · exact fun aa ww hb he hd => ob_plain rfl (gives_assign _ rfl ⟨hd.1, Below.refl _ _⟩)
      intro vs w4 hb hR
      have e12 : vs 34 = .bool false := hR 34 (by decide)
      clear hR
      simp only [putsL, Nat.zero_add, Nat.reduceAdd, List.take_succ_cons, List.take_zero, Act.put, List.setIfInBounds_toArray, List.set_cons_zero, List.set_cons_succ]
      rw [e12]
      clear e12
      go_wp2_with fail
      go_ret
      exact ⟨false, rfl, bthen HB.out hb HB.out.size, f_iff (fun h => by
        rcases h with ⟨h, q⟩ | ⟨h, q⟩ | ⟨h, q⟩
        · exact absurd h (by decide)
        · exact absurd h (by decide)
        · exact H0.out q.2.2.2.1)⟩
    · have H0 := Lib.hid h0; clear h0
      by_cases h1 : v = 0
      rotate_left
      · have H1 := Lib.hid h1; clear h1
        refine wp_region_each (kss := [[], [(0, 87)], [(1, 88)], [(2, 89)], [(3, 90)], [(3, 90)], [(3, 90), (4, 91), (5, 92)], [(3, 90), (6, 93)], [(3, 90), (7, 94)], [(8, 95)], [(9, 96)], [(9, 96)], [(9, 96)], [(9, 96), (12, 99)], [(9, 96), (10, 97), (11, 98), (13, 100)], [(9, 96), (14, 101)], [(15, 102)], [(16, 103)], [(16, 103)], [(16, 103)], [(16, 103), (19, 106)], [(16, 103), (20, 107)], [(16, 103), (21, 108)], [(16, 103), (17, 104), (18, 105), (22, 109)], [(16, 103), (23, 110)], [(24, 111)], [(25, 112)], [(25, 112), (26, 113)], [(25, 112)], [(25, 112), (27, 114), (28, 115)], [(25, 112)], [(25, 112), (29, 116), (30, 117)], [(25, 112), (31, 118)], [(25, 112), (32, 119)], [(33, 120)]]) [(3, .slice AY kY cY), (11, .pointer (some ⟨gv, 0, none⟩)), (6, .pointer (some ⟨gq, 0, none⟩)), (2, .slice AX kX cX), (4, .slice AR kR cR)] [EV (.slice AY kY cY), EV (.int .i64 ((kY : Int))), EV (.bool true), EV (.bool true), EV (QL (v)), EV (QL (0)), EV (.int .i64 (rcq v 0)), EV (.bool false), EV (.bool false), EV (.bool false), UD, UD, UD, UD, UD, EV (.bool false), EV (.bool false), UD, UD, UD, UD, UD, UD, UD, EV (.bool false), EV (.bool false), UD, UD, UD, UD, UD, UD, UD, EV (.bool false), EV (.bool false)] (by kernel_rfl) (by kernel_rfl) ⟨rfl, rfl, rfl, rfl, rfl, trivial⟩ ?_ ?_ ?_
        · exact ⟨sI, sI, sI, sI, sI, sI, sI, sI, sI, sI, sI, sI, sI, sI, sI, sI, sI, sI, sI, sI, sI, sI, sI, sI, sI, sI, sI, sI, sI, sI, sI, sI, sI, sI, sI, trivial⟩
        · refine ⟨?_, ?_, ?_, ?_, ?_, ?_, ?_, ?_, ?_, ?_, ?_, ?_, ?_, ?_, ?_, ?_, ?_, ?_, ?_, ?_, ?_, ?_, ?_, ?_, ?_, ?_, ?_, ?_, ?_, ?_, ?_, ?_, ?_, ?_, ?_, trivial⟩
          · exact fun _ _ _ he hd => ob_mv rfl rfl he.1
          · exact fun aa ww hb he hd => ob_plain rfl (len_c Try.underlying32 rfl hd.1)
          · exact fun aa ww hb he hd => ob_plain rfl (gives_eq_int ((kY : Int)) 0 .i64 _ _ _ _ rfl hd.1 rfl ⟨congrArg Value.bool (keq0.trans (decide_eq_true H0.out)), Below.refl _ _⟩)
          · exact fun _ _ _ he hd => ob_mv rfl rfl hd.1
          · exact fun aa ww hb he hd => ob_on 90 rfl (by kernel_rfl) hd.1 (load_qb rfl he.2.1 (Qb.new HV.out hb))
          · exact fun aa ww hb he hd => ob_on 90 rfl (by kernel_rfl) hd.1 (gives_call0 _ _ rfl (by kernel_rfl) (rv_one (rzero_any _)))
          · exact fun aa ww hb he hd => ob_on 90 rfl (by kernel_rfl) hd.1 (gives_call2 _ _ _ _ rfl (by kernel_rfl) (rcmp_v (x := v) (y := 0) HsV.out (⟨by decide, by decide⟩ : Sm 0) _ _ hd.2.1 hd.2.2.1 _))
          · exact fun aa ww hb he hd => ob_on 90 rfl (by kernel_rfl) hd.1 (gives_eq_int (rcq v 0) 0 .i64 _ _ _ _ rfl hd.2.1 rfl ⟨congrArg Value.bool (rcq_eqb.trans (decide_eq_false H1.out)), Below.refl _ _⟩)
          · exact fun aa ww hb he hd => ob_plain rfl (gives_pick true _ _ _ rfl hd.1 ⟨hd.2.1, Below.refl _ _⟩)
          · exact fun _ _ _ he hd => ob_mv rfl rfl hd.1
          iterate 5 exact fun aa ww hb he hd => ob_off 96 rfl (by kernel_rfl) hd.1 rfl
          · exact fun aa ww hb he hd => ob_plain rfl (gives_pick false _ _ _ rfl hd.1 ⟨rfl, Below.refl _ _⟩)
          · exact fun _ _ _ he hd => ob_mv rfl rfl hd.1
          iterate 7 exact fun aa ww hb he hd => ob_off 103 rfl (by kernel_rfl) hd.1 rfl
          · exact fun aa ww hb he hd => ob_plain rfl (gives_pick false _ _ _ rfl hd.1 ⟨rfl, Below.refl _ _⟩)
          · exact fun _ _ _ he hd => ob_mv rfl rfl hd.1
          iterate 7 exact fun aa ww hb he hd => ob_off 112 rfl (by kernel_rfl) hd.1 rfl
          · exact fun aa ww hb he hd => ob_plain rfl (gives_pick false _ _ _ rfl hd.1 ⟨rfl, Below.refl _ _⟩)
          · exact fun aa ww hb he hd => ob_plain rfl (gives_assign _ rfl ⟨hd.1, Below.refl _ _⟩)
        intro vs w4 hb hR
        have e12 : vs 34 = .bool false := hR 34 (by decide)
        clear hR
        simp only [putsL, Nat.zero_add, Nat.reduceAdd, List.take_succ_cons, List.take_zero, Act.put, List.setIfInBounds_toArray, List.set_cons_zero, List.set_cons_succ]
        rw [e12]
        clear e12
        go_wp2_with fail
        go_ret
        exact ⟨false, rfl, bthen HB.out hb HB.out.size, f_iff (fun h => by
          rcases h with ⟨h, q⟩ | ⟨h, q⟩ | ⟨h, q⟩
          · exact absurd h (by decide)
          · exact absurd h (by decide)
          · exact H1.out q.2.2.2.2)⟩
      · have H1 := Lib.hid h1; clear h1
        by_cases h2 : kX = n ∧ Primal n m A B X
        rotate_left
        · have H2 := Lib.hid h2; clear h2
          refine wp_region_each (kss := [[], [(0, 87)], [(1, 88)], [(2, 89)], [(3, 90)], [(3, 90)], [(3, 90), (4, 91), (5, 92)], [(3, 90), (6, 93)], [(3, 90), (7, 94)], [(8, 95)], [(9, 96)], [(9, 96)], [(9, 96)], [(9, 96), (12, 99)], [(9, 96), (10, 97), (11, 98), (13, 100)], [(9, 96), (14, 101)], [(15, 102)], [(16, 103)], [(16, 103)], [(16, 103)], [(16, 103), (19, 106)], [(16, 103), (20, 107)], [(16, 103), (21, 108)], [(16, 103), (17, 104), (18, 105), (22, 109)], [(16, 103), (23, 110)], [(24, 111)], [(25, 112)], [(25, 112), (26, 113)], [(25, 112)], [(25, 112), (27, 114), (28, 115)], [(25, 112)], [(25, 112), (29, 116), (30, 117)], [(25, 112), (31, 118)], [(25, 112), (32, 119)], [(33, 120)]]) [(3, .slice AY kY cY), (11, .pointer (some ⟨gv, 0, none⟩)), (6, .pointer (some ⟨gq, 0, none⟩)), (2, .slice AX kX cX), (4, .slice AR kR cR)] [EV (.slice AY kY cY), EV (.int .i64 ((kY : Int))), EV (.bool true), EV (.bool true), EV (QL (v)), EV (QL (0)), EV (.int .i64 (rcq v 0)), EV (.bool true), EV (.bool true), EV (.bool true), EV (.agg #[.slice QC n qc, .slice QA m qa, .slice QB m qb]), EV (.slice AX kX cX), EV (.pointer (some ⟨gq, 2, none⟩)), EV (.slice QB m qb), EV (.bool false), EV (.bool false), EV (.bool false), UD, UD, UD, UD, UD, UD, UD, EV (.bool false), EV (.bool false), UD, UD, UD, UD, UD, UD, UD, EV (.bool false), EV (.bool false)] (by kernel_rfl) (by kernel_rfl) ⟨rfl, rfl, rfl, rfl, rfl, trivial⟩ ?_ ?_ ?_
          · exact ⟨sI, sI, sI, sI, sI, sI, sI, sI, sI, sI, sI, sI, sI, sI, sI, sI, sI, sI, sI, sI, sI, sI, sI, sI, sI, sI, sI, sI, sI, sI, sI, sI, sI, sI, sI, trivial⟩
          · refine ⟨?_, ?_, ?_, ?_, ?_, ?_, ?_, ?_, ?_, ?_, ?_, ?_, ?_, ?_, ?_, ?_, ?_, ?_, ?_, ?_, ?_, ?_, ?_, ?_, ?_, ?_, ?_, ?_, ?_, ?_, ?_, ?_, ?_, ?_, ?_, trivial⟩
            · exact fun _ _ _ he hd => ob_mv rfl rfl he.1
            · exact fun aa ww hb he hd => ob_plain rfl (len_c Try.underlying32 rfl hd.1)
            · exact fun aa ww hb he hd => ob_plain rfl (gives_eq_int ((kY : Int)) 0 .i64 _ _ _ _ rfl hd.1 rfl ⟨congrArg Value.bool (keq0.trans (decide_eq_true H0.out)), Below.refl _ _⟩)
            · exact fun _ _ _ he hd => ob_mv rfl rfl hd.1
            · exact fun aa ww hb he hd => ob_on 90 rfl (by kernel_rfl) hd.1 (load_qb rfl he.2.1 (Qb.new HV.out hb))
            · exact fun aa ww hb he hd => ob_on 90 rfl (by kernel_rfl) hd.1 (gives_call0 _ _ rfl (by kernel_rfl) (rv_one (rzero_any _)))
            · exact fun aa ww hb he hd => ob_on 90 rfl (by kernel_rfl) hd.1 (gives_call2 _ _ _ _ rfl (by kernel_rfl) (rcmp_v (x := v) (y := 0) HsV.out (⟨by decide, by decide⟩ : Sm 0) _ _ hd.2.1 hd.2.2.1 _))
            · exact fun aa ww hb he hd => ob_on 90 rfl (by kernel_rfl) hd.1 (gives_eq_int (rcq v 0) 0 .i64 _ _ _ _ rfl hd.2.1 rfl ⟨congrArg Value.bool (rcq_eqb.trans (decide_eq_true H1.out)), Below.refl _ _⟩)
            · exact fun aa ww hb he hd => ob_plain rfl (gives_pick true _ _ _ rfl hd.1 ⟨hd.2.1, Below.refl _ _⟩)
            · exact fun _ _ _ he hd => ob_mv rfl rfl hd.1
            · exact fun aa ww hb he hd => ob_on 96 rfl (by kernel_rfl) hd.1 (load_rpb rfl he.2.2.1 (Blk.keep HBx.out hb))
            · exact fun aa ww hb he hd => ob_on 96 rfl (by kernel_rfl) hd.1 (gives_move _ rfl ⟨he.2.2.2.1, Below.refl _ _⟩)
            · exact fun aa ww hb he hd => ob_on 96 rfl (by kernel_rfl) hd.1 (fld_rpb rfl (by decide) he.2.2.1)
            · exact fun aa ww hb he hd => ob_on 96 rfl (by kernel_rfl) hd.1 (load_c32 rfl hd.2.1 (Blk.at2 HBx.out hb))
            · exact fun aa ww hb he hd => ob_on 96 rfl (by kernel_rfl) hd.1 (gives_call3 _ _ _ _ _ rfl (by kernel_rfl) (by rw [show aa.eval (.tmp 97) = .agg #[.slice QC n qc, .slice QA m qa, .slice QB m qb] from hd.2.1, show aa.eval (.tmp 98) = .slice AX kX cX from hd.2.2.1, show aa.eval (.tmp 100) = .slice QB m qb from hd.2.2.2.1]; exact ret_t (rfeas_any n m m kX m qc qa qb cX qb QC QA QB AX QB Qr qp A C B X B _ (RqW.new HQ.out (bthen HB.out hb HB.out.size)) ((HX.out.below (bthen HB.out hb HB.out.size)).more (bthen HB.out hb HB.out.size).size) (((RqW.new HQ.out (bthen HB.out hb HB.out.size)).b)) (by omega) (fun i _ => HsX.out i) (fun i _ => HsB.out i) (fun i _ => dotS (by omega) (fun k _ => HfA.out i k) (fun k _ => HfX.out k)) (by omega) (by omega) (by omega)) (f_iff H2.out)))
            · exact fun aa ww hb he hd => ob_plain rfl (gives_pick true _ _ _ rfl hd.1 ⟨hd.2.1, Below.refl _ _⟩)
            · exact fun _ _ _ he hd => ob_mv rfl rfl hd.1
            iterate 7 exact fun aa ww hb he hd => ob_off 103 rfl (by kernel_rfl) hd.1 rfl
            · exact fun aa ww hb he hd => ob_plain rfl (gives_pick false _ _ _ rfl hd.1 ⟨rfl, Below.refl _ _⟩)
            · exact fun _ _ _ he hd => ob_mv rfl rfl hd.1
            iterate 7 exact fun aa ww hb he hd => ob_off 112 rfl (by kernel_rfl) hd.1 rfl
            · exact fun aa ww hb he hd => ob_plain rfl (gives_pick false _ _ _ rfl hd.1 ⟨rfl, Below.refl _ _⟩)
            · exact fun aa ww hb he hd => ob_plain rfl (gives_assign _ rfl ⟨hd.1, Below.refl _ _⟩)
          intro vs w4 hb hR
          have e12 : vs 34 = .bool false := hR 34 (by decide)
          clear hR
          simp only [putsL, Nat.zero_add, Nat.reduceAdd, List.take_succ_cons, List.take_zero, Act.put, List.setIfInBounds_toArray, List.set_cons_zero, List.set_cons_succ]
          rw [e12]
          clear e12
          go_wp2_with fail
          go_ret
          exact ⟨false, rfl, bthen HB.out hb HB.out.size, f_iff (fun h => by
            rcases h with ⟨h, q⟩ | ⟨h, q⟩ | ⟨h, q⟩
            · exact absurd h (by decide)
            · exact absurd h (by decide)
            · exact H2.out q.1)⟩
        · have H2 := Lib.hid h2; clear h2
          by_cases h3 : kR = n ∧ Primal n m A (fun _ => 0) R
          rotate_left
          · have H3 := Lib.hid h3; clear h3
            refine wp_region_each (kss := [[], [(0, 87)], [(1, 88)], [(2, 89)], [(3, 90)], [(3, 90)], [(3, 90), (4, 91), (5, 92)], [(3, 90), (6, 93)], [(3, 90), (7, 94)], [(8, 95)], [(9, 96)], [(9, 96)], [(9, 96)], [(9, 96), (12, 99)], [(9, 96), (10, 97), (11, 98), (13, 100)], [(9, 96), (14, 101)], [(15, 102)], [(16, 103)], [(16, 103)], [(16, 103)], [(16, 103), (19, 106)], [(16, 103), (20, 107)], [(16, 103), (21, 108)], [(16, 103), (17, 104), (18, 105), (22, 109)], [(16, 103), (23, 110)], [(24, 111)], [(25, 112)], [(25, 112), (26, 113)], [(25, 112)], [(25, 112), (27, 114), (28, 115)], [(25, 112)], [(25, 112), (29, 116), (30, 117)], [(25, 112), (31, 118)], [(25, 112), (32, 119)], [(33, 120)]]) [(3, .slice AY kY cY), (11, .pointer (some ⟨gv, 0, none⟩)), (6, .pointer (some ⟨gq, 0, none⟩)), (2, .slice AX kX cX), (4, .slice AR kR cR)] [EV (.slice AY kY cY), EV (.int .i64 ((kY : Int))), EV (.bool true), EV (.bool true), EV (QL (v)), EV (QL (0)), EV (.int .i64 (rcq v 0)), EV (.bool true), EV (.bool true), EV (.bool true), EV (.agg #[.slice QC n qc, .slice QA m qa, .slice QB m qb]), EV (.slice AX kX cX), EV (.pointer (some ⟨gq, 2, none⟩)), EV (.slice QB m qb), EV (.bool true), EV (.bool true), EV (.bool true), EV (.agg #[.slice QC n qc, .slice QA m qa, .slice QB m qb]), EV (.slice AR kR cR), EV (.pointer (some ⟨gq, 2, none⟩)), EV (.slice QB m qb), EV (.int .i64 ((m : Int))), fun v w' => ∃ (A0 : Option Addr) (c0 : Nat), v = .slice A0 m c0 ∧ Reads w' w'.heap.size 2 A0 m (qsL (fun _ => 0) m), EV (.bool false), EV (.bool false), EV (.bool false), UD, UD, UD, UD, UD, UD, UD, EV (.bool false), EV (.bool false)] (by kernel_rfl) (by kernel_rfl) ⟨rfl, rfl, rfl, rfl, rfl, trivial⟩ ?_ ?_ ?_
            · exact ⟨sI, sI, sI, sI, sI, sI, sI, sI, sI, sI, sI, sI, sI, sI, sI, sI, sI, sI, sI, sI, sI, sI, fun _ _ _ ⟨A0, c0, h1, h2⟩ hb => ⟨A0, c0, h1, (h2.below hb).more hb.size⟩, sI, sI, sI, sI, sI, sI, sI, sI, sI, sI, sI, sI, trivial⟩
            · refine ⟨?_, ?_, ?_, ?_, ?_, ?_, ?_, ?_, ?_, ?_, ?_, ?_, ?_, ?_, ?_, ?_, ?_, ?_, ?_, ?_, ?_, ?_, ?_, ?_, ?_, ?_, ?_, ?_, ?_, ?_, ?_, ?_, ?_, ?_, ?_, trivial⟩
              · exact fun _ _ _ he hd => ob_mv rfl rfl he.1
              · exact fun aa ww hb he hd => ob_plain rfl (len_c Try.underlying32 rfl hd.1)
              · exact fun aa ww hb he hd => ob_plain rfl (gives_eq_int ((kY : Int)) 0 .i64 _ _ _ _ rfl hd.1 rfl ⟨congrArg Value.bool (keq0.trans (decide_eq_true H0.out)), Below.refl _ _⟩)
              · exact fun _ _ _ he hd => ob_mv rfl rfl hd.1
              · exact fun aa ww hb he hd => ob_on 90 rfl (by kernel_rfl) hd.1 (load_qb rfl he.2.1 (Qb.new HV.out hb))
              · exact fun aa ww hb he hd => ob_on 90 rfl (by kernel_rfl) hd.1 (gives_call0 _ _ rfl (by kernel_rfl) (rv_one (rzero_any _)))
              · exact fun aa ww hb he hd => ob_on 90 rfl (by kernel_rfl) hd.1 (gives_call2 _ _ _ _ rfl (by kernel_rfl) (rcmp_v (x := v) (y := 0) HsV.out (⟨by decide, by decide⟩ : Sm 0) _ _ hd.2.1 hd.2.2.1 _))
              · exact fun aa ww hb he hd => ob_on 90 rfl (by kernel_rfl) hd.1 (gives_eq_int (rcq v 0) 0 .i64 _ _ _ _ rfl hd.2.1 rfl ⟨congrArg Value.bool (rcq_eqb.trans (decide_eq_true H1.out)), Below.refl _ _⟩)
              · exact fun aa ww hb he hd => ob_plain rfl (gives_pick true _ _ _ rfl hd.1 ⟨hd.2.1, Below.refl _ _⟩)
              · exact fun _ _ _ he hd => ob_mv rfl rfl hd.1
              · exact fun aa ww hb he hd => ob_on 96 rfl (by kernel_rfl) hd.1 (load_rpb rfl he.2.2.1 (Blk.keep HBx.out hb))
              · exact fun aa ww hb he hd => ob_on 96 rfl (by kernel_rfl) hd.1 (gives_move _ rfl ⟨he.2.2.2.1, Below.refl _ _⟩)
              · exact fun aa ww hb he hd => ob_on 96 rfl (by kernel_rfl) hd.1 (fld_rpb rfl (by decide) he.2.2.1)
              · exact fun aa ww hb he hd => ob_on 96 rfl (by kernel_rfl) hd.1 (load_c32 rfl hd.2.1 (Blk.at2 HBx.out hb))
              · exact fun aa ww hb he hd => ob_on 96 rfl (by kernel_rfl) hd.1 (gives_call3 _ _ _ _ _ rfl (by kernel_rfl) (by rw [show aa.eval (.tmp 97) = .agg #[.slice QC n qc, .slice QA m qa, .slice QB m qb] from hd.2.1, show aa.eval (.tmp 98) = .slice AX kX cX from hd.2.2.1, show aa.eval (.tmp 100) = .slice QB m qb from hd.2.2.2.1]; exact ret_t (rfeas_any n m m kX m qc qa qb cX qb QC QA QB AX QB Qr qp A C B X B _ (RqW.new HQ.out (bthen HB.out hb HB.out.size)) ((HX.out.below (bthen HB.out hb HB.out.size)).more (bthen HB.out hb HB.out.size).size) (((RqW.new HQ.out (bthen HB.out hb HB.out.size)).b)) (by omega) (fun i _ => HsX.out i) (fun i _ => HsB.out i) (fun i _ => dotS (by omega) (fun k _ => HfA.out i k) (fun k _ => HfX.out k)) (by omega) (by omega) (by omega)) (t_iff H2.out)))
              · exact fun aa ww hb he hd => ob_plain rfl (gives_pick true _ _ _ rfl hd.1 ⟨hd.2.1, Below.refl _ _⟩)
              · exact fun _ _ _ he hd => ob_mv rfl rfl hd.1
              · exact fun aa ww hb he hd => ob_on 103 rfl (by kernel_rfl) hd.1 (load_rpb rfl he.2.2.1 (Blk.keep HBx.out hb))
              · exact fun aa ww hb he hd => ob_on 103 rfl (by kernel_rfl) hd.1 (gives_move _ rfl ⟨he.2.2.2.2.1, Below.refl _ _⟩)
              · exact fun aa ww hb he hd => ob_on 103 rfl (by kernel_rfl) hd.1 (fld_rpb rfl (by decide) he.2.2.1)
              · exact fun aa ww hb he hd => ob_on 103 rfl (by kernel_rfl) hd.1 (load_c32 rfl hd.2.1 (Blk.at2 HBx.out hb))
              · exact fun aa ww hb he hd => ob_on 103 rfl (by kernel_rfl) hd.1 (len_c Try.underlying32 rfl hd.2.1)
              · exact fun aa ww hb he hd => ob_on 103 rfl (by kernel_rfl) hd.1 (gives_call1 _ _ _ rfl (by kernel_rfl) (by rw [show aa.eval (.tmp 108) = .int .i64 ((m : Int)) from hd.2.1]; exact rzeros_any m _ (by omega)))
              · exact fun aa ww hb he hd => ob_on 103 rfl (by kernel_rfl) hd.1 (gives_call3 _ _ _ _ _ rfl (by kernel_rfl) (by obtain ⟨A0, c0, e0, r0⟩ := hd.2.2.2.1; rw [show aa.eval (.tmp 104) = .agg #[.slice QC n qc, .slice QA m qa, .slice QB m qb] from hd.2.1, show aa.eval (.tmp 105) = .slice AR kR cR from hd.2.2.1, show aa.eval (.tmp 109) = .slice A0 m c0 from e0]; exact ret_t (rfeas_any n m m kR m qc qa qb cR c0 QC QA QB AR A0 Qr qp A C B R (fun _ => 0) _ (RqW.new HQ.out (bthen HB.out hb HB.out.size)) ((HR.out.below (bthen HB.out hb HB.out.size)).more (bthen HB.out hb HB.out.size).size) (r0) (by omega) (fun i _ => HsR.out i) (fun _ _ => ⟨by decide, by decide⟩) (fun i _ => dotS (by omega) (fun k _ => HfA.out i k) (fun k _ => HfR.out k)) (by omega) (by omega) (by omega)) (f_iff H3.out)))
              · exact fun aa ww hb he hd => ob_plain rfl (gives_pick true _ _ _ rfl hd.1 ⟨hd.2.1, Below.refl _ _⟩)
              · exact fun _ _ _ he hd => ob_mv rfl rfl hd.1
              iterate 7 exact fun aa ww hb he hd => ob_off 112 rfl (by kernel_rfl) hd.1 rfl
              · exact fun aa ww hb he hd => ob_plain rfl (gives_pick false _ _ _ rfl hd.1 ⟨rfl, Below.refl _ _⟩)
              · exact fun aa ww hb he hd => ob_plain rfl (gives_assign _ rfl ⟨hd.1, Below.refl _ _⟩)
            intro vs w4 hb hR
            have e12 : vs 34 = .bool false := hR 34 (by decide)
            clear hR
            simp only [putsL, Nat.zero_add, Nat.reduceAdd, List.take_succ_cons, List.take_zero, Act.put, List.setIfInBounds_toArray, List.set_cons_zero, List.set_cons_succ]
            rw [e12]
            clear e12
            go_wp2_with fail
            go_ret
            exact ⟨false, rfl, bthen HB.out hb HB.out.size, f_iff (fun h => by
              rcases h with ⟨h, q⟩ | ⟨h, q⟩ | ⟨h, q⟩
              · exact absurd h (by decide)
              · exact absurd h (by decide)
              · exact H3.out q.2.1)⟩
          · have H3 := Lib.hid h3; clear h3
            have hnr : n ≤ kR := by have := H3.out.1; omega
            by_cases h4 : 0 < sm (fun l => C l * R l) n
            rotate_left
            · have H4 := Lib.hid h4; clear h4
              refine wp_region_each (kss := [[], [(0, 87)], [(1, 88)], [(2, 89)], [(3, 90)], [(3, 90)], [(3, 90), (4, 91), (5, 92)], [(3, 90), (6, 93)], [(3, 90), (7, 94)], [(8, 95)], [(9, 96)], [(9, 96)], [(9, 96)], [(9, 96), (12, 99)], [(9, 96), (10, 97), (11, 98), (13, 100)], [(9, 96), (14, 101)], [(15, 102)], [(16, 103)], [(16, 103)], [(16, 103)], [(16, 103), (19, 106)], [(16, 103), (20, 107)], [(16, 103), (21, 108)], [(16, 103), (17, 104), (18, 105), (22, 109)], [(16, 103), (23, 110)], [(24, 111)], [(25, 112)], [(25, 112), (26, 113)], [(25, 112)], [(25, 112), (27, 114), (28, 115)], [(25, 112)], [(25, 112), (29, 116), (30, 117)], [(25, 112), (31, 118)], [(25, 112), (32, 119)], [(33, 120)]]) [(3, .slice AY kY cY), (11, .pointer (some ⟨gv, 0, none⟩)), (6, .pointer (some ⟨gq, 0, none⟩)), (2, .slice AX kX cX), (4, .slice AR kR cR)] [EV (.slice AY kY cY), EV (.int .i64 ((kY : Int))), EV (.bool true), EV (.bool true), EV (QL (v)), EV (QL (0)), EV (.int .i64 (rcq v 0)), EV (.bool true), EV (.bool true), EV (.bool true), EV (.agg #[.slice QC n qc, .slice QA m qa, .slice QB m qb]), EV (.slice AX kX cX), EV (.pointer (some ⟨gq, 2, none⟩)), EV (.slice QB m qb), EV (.bool true), EV (.bool true), EV (.bool true), EV (.agg #[.slice QC n qc, .slice QA m qa, .slice QB m qb]), EV (.slice AR kR cR), EV (.pointer (some ⟨gq, 2, none⟩)), EV (.slice QB m qb), EV (.int .i64 ((m : Int))), fun v w' => ∃ (A0 : Option Addr) (c0 : Nat), v = .slice A0 m c0 ∧ Reads w' w'.heap.size 2 A0 m (qsL (fun _ => 0) m), EV (.bool true), EV (.bool true), EV (.bool true), EV (.pointer (some ⟨gq, 0, none⟩)), EV (.slice QC n qc), EV (.slice AR kR cR), EV (QL (sm (fun l => C l * R l) n)), EV (QL (0)), EV (.int .i64 (rcq (sm (fun l => C l * R l) n) 0)), EV (.bool false), EV (.bool false), EV (.bool false)] (by kernel_rfl) (by kernel_rfl) ⟨rfl, rfl, rfl, rfl, rfl, trivial⟩ ?_ ?_ ?_
              · exact ⟨sI, sI, sI, sI, sI, sI, sI, sI, sI, sI, sI, sI, sI, sI, sI, sI, sI, sI, sI, sI, sI, sI, fun _ _ _ ⟨A0, c0, h1, h2⟩ hb => ⟨A0, c0, h1, (h2.below hb).more hb.size⟩, sI, sI, sI, sI, sI, sI, sI, sI, sI, sI, sI, sI, trivial⟩
              · refine ⟨?_, ?_, ?_, ?_, ?_, ?_, ?_, ?_, ?_, ?_, ?_, ?_, ?_, ?_, ?_, ?_, ?_, ?_, ?_, ?_, ?_, ?_, ?_, ?_, ?_, ?_, ?_, ?_, ?_, ?_, ?_, ?_, ?_, ?_, ?_, trivial⟩
                · exact fun _ _ _ he hd => ob_mv rfl rfl he.1
                · exact fun aa ww hb he hd => ob_plain rfl (len_c Try.underlying32 rfl hd.1)
                · exact fun aa ww hb he hd => ob_plain rfl (gives_eq_int ((kY : Int)) 0 .i64 _ _ _ _ rfl hd.1 rfl ⟨congrArg Value.bool (keq0.trans (decide_eq_true H0.out)), Below.refl _ _⟩)
                · exact fun _ _ _ he hd => ob_mv rfl rfl hd.1
                · exact fun aa ww hb he hd => ob_on 90 rfl (by kernel_rfl) hd.1 (load_qb rfl he.2.1 (Qb.new HV.out hb))
                · exact fun aa ww hb he hd => ob_on 90 rfl (by kernel_rfl) hd.1 (gives_call0 _ _ rfl (by kernel_rfl) (rv_one (rzero_any _)))
                · exact fun aa ww hb he hd => ob_on 90 rfl (by kernel_rfl) hd.1 (gives_call2 _ _ _ _ rfl (by kernel_rfl) (rcmp_v (x := v) (y := 0) HsV.out (⟨by decide, by decide⟩ : Sm 0) _ _ hd.2.1 hd.2.2.1 _))
                · exact fun aa ww hb he hd => ob_on 90 rfl (by kernel_rfl) hd.1 (gives_eq_int (rcq v 0) 0 .i64 _ _ _ _ rfl hd.2.1 rfl ⟨congrArg Value.bool (rcq_eqb.trans (decide_eq_true H1.out)), Below.refl _ _⟩)
                · exact fun aa ww hb he hd => ob_plain rfl (gives_pick true _ _ _ rfl hd.1 ⟨hd.2.1, Below.refl _ _⟩)
                · exact fun _ _ _ he hd => ob_mv rfl rfl hd.1
                · exact fun aa ww hb he hd => ob_on 96 rfl (by kernel_rfl) hd.1 (load_rpb rfl he.2.2.1 (Blk.keep HBx.out hb))
                · exact fun aa ww hb he hd => ob_on 96 rfl (by kernel_rfl) hd.1 (gives_move _ rfl ⟨he.2.2.2.1, Below.refl _ _⟩)
                · exact fun aa ww hb he hd => ob_on 96 rfl (by kernel_rfl) hd.1 (fld_rpb rfl (by decide) he.2.2.1)
                · exact fun aa ww hb he hd => ob_on 96 rfl (by kernel_rfl) hd.1 (load_c32 rfl hd.2.1 (Blk.at2 HBx.out hb))
                · exact fun aa ww hb he hd => ob_on 96 rfl (by kernel_rfl) hd.1 (gives_call3 _ _ _ _ _ rfl (by kernel_rfl) (by rw [show aa.eval (.tmp 97) = .agg #[.slice QC n qc, .slice QA m qa, .slice QB m qb] from hd.2.1, show aa.eval (.tmp 98) = .slice AX kX cX from hd.2.2.1, show aa.eval (.tmp 100) = .slice QB m qb from hd.2.2.2.1]; exact ret_t (rfeas_any n m m kX m qc qa qb cX qb QC QA QB AX QB Qr qp A C B X B _ (RqW.new HQ.out (bthen HB.out hb HB.out.size)) ((HX.out.below (bthen HB.out hb HB.out.size)).more (bthen HB.out hb HB.out.size).size) (((RqW.new HQ.out (bthen HB.out hb HB.out.size)).b)) (by omega) (fun i _ => HsX.out i) (fun i _ => HsB.out i) (fun i _ => dotS (by omega) (fun k _ => HfA.out i k) (fun k _ => HfX.out k)) (by omega) (by omega) (by omega)) (t_iff H2.out)))
                · exact fun aa ww hb he hd => ob_plain rfl (gives_pick true _ _ _ rfl hd.1 ⟨hd.2.1, Below.refl _ _⟩)
                · exact fun _ _ _ he hd => ob_mv rfl rfl hd.1
                · exact fun aa ww hb he hd => ob_on 103 rfl (by kernel_rfl) hd.1 (load_rpb rfl he.2.2.1 (Blk.keep HBx.out hb))
                · exact fun aa ww hb he hd => ob_on 103 rfl (by kernel_rfl) hd.1 (gives_move _ rfl ⟨he.2.2.2.2.1, Below.refl _ _⟩)
                · exact fun aa ww hb he hd => ob_on 103 rfl (by kernel_rfl) hd.1 (fld_rpb rfl (by decide) he.2.2.1)
                · exact fun aa ww hb he hd => ob_on 103 rfl (by kernel_rfl) hd.1 (load_c32 rfl hd.2.1 (Blk.at2 HBx.out hb))
                · exact fun aa ww hb he hd => ob_on 103 rfl (by kernel_rfl) hd.1 (len_c Try.underlying32 rfl hd.2.1)
                · exact fun aa ww hb he hd => ob_on 103 rfl (by kernel_rfl) hd.1 (gives_call1 _ _ _ rfl (by kernel_rfl) (by rw [show aa.eval (.tmp 108) = .int .i64 ((m : Int)) from hd.2.1]; exact rzeros_any m _ (by omega)))
                · exact fun aa ww hb he hd => ob_on 103 rfl (by kernel_rfl) hd.1 (gives_call3 _ _ _ _ _ rfl (by kernel_rfl) (by obtain ⟨A0, c0, e0, r0⟩ := hd.2.2.2.1; rw [show aa.eval (.tmp 104) = .agg #[.slice QC n qc, .slice QA m qa, .slice QB m qb] from hd.2.1, show aa.eval (.tmp 105) = .slice AR kR cR from hd.2.2.1, show aa.eval (.tmp 109) = .slice A0 m c0 from e0]; exact ret_t (rfeas_any n m m kR m qc qa qb cR c0 QC QA QB AR A0 Qr qp A C B R (fun _ => 0) _ (RqW.new HQ.out (bthen HB.out hb HB.out.size)) ((HR.out.below (bthen HB.out hb HB.out.size)).more (bthen HB.out hb HB.out.size).size) (r0) (by omega) (fun i _ => HsR.out i) (fun _ _ => ⟨by decide, by decide⟩) (fun i _ => dotS (by omega) (fun k _ => HfA.out i k) (fun k _ => HfR.out k)) (by omega) (by omega) (by omega)) (t_iff H3.out)))
                · exact fun aa ww hb he hd => ob_plain rfl (gives_pick true _ _ _ rfl hd.1 ⟨hd.2.1, Below.refl _ _⟩)
                · exact fun _ _ _ he hd => ob_mv rfl rfl hd.1
                · exact fun aa ww hb he hd => ob_on 112 rfl (by kernel_rfl) hd.1 (fld_rpb rfl (by decide) he.2.2.1)
                · exact fun aa ww hb he hd => ob_on 112 rfl (by kernel_rfl) hd.1 (load_c32 rfl hd.2.1 (Blk.at0 HBx.out hb))
                · exact fun aa ww hb he hd => ob_on 112 rfl (by kernel_rfl) hd.1 (gives_move _ rfl ⟨he.2.2.2.2.1, Below.refl _ _⟩)
                · exact fun aa ww hb he hd => ob_on 112 rfl (by kernel_rfl) hd.1 (gives_call2 _ _ _ _ rfl (by kernel_rfl) (by rw [show aa.eval (.tmp 114) = .slice QC n qc from hd.2.1, show aa.eval (.tmp 115) = .slice AR kR cR from hd.2.2.1]; exact rdot_any n kR qc cR QC AR C R _ (((RqW.new HQ.out (bthen HB.out hb HB.out.size)).c)) ((HR.out.below (bthen HB.out hb HB.out.size)).more (bthen HB.out hb HB.out.size).size) (by omega) (by omega) (dotS (by omega) (fun k _ => HfC.out k) (fun k _ => HfR.out k))))
                · exact fun aa ww hb he hd => ob_on 112 rfl (by kernel_rfl) hd.1 (gives_call0 _ _ rfl (by kernel_rfl) (rv_one (rzero_any _)))
                · exact fun aa ww hb he hd => ob_on 112 rfl (by kernel_rfl) hd.1 (gives_call2 _ _ _ _ rfl (by kernel_rfl) (rcmp_v (x := sm (fun l => C l * R l) n) (y := 0) ((dotS (n := n) (f := C) (g := R) (by omega) (fun k _ => HfC.out k) (fun k _ => HfR.out k)).h4 n (Nat.le_refl _)) (⟨by decide, by decide⟩ : Sm 0) _ _ hd.2.1 hd.2.2.1 _))
                · exact fun aa ww hb he hd => ob_on 112 rfl (by kernel_rfl) hd.1 (gives_gt_int (rcq (sm (fun l => C l * R l) n) 0) 0 .i64 _ _ _ _ rfl hd.2.1 rfl ⟨congrArg Value.bool (rcq_gtb.trans (decide_eq_false H4.out)), Below.refl _ _⟩)
                · exact fun aa ww hb he hd => ob_plain rfl (gives_pick true _ _ _ rfl hd.1 ⟨hd.2.1, Below.refl _ _⟩)
                · exact fun aa ww hb he hd => ob_plain rfl (gives_assign _ rfl ⟨hd.1, Below.refl _ _⟩)
              intro vs w4 hb hR
              have e12 : vs 34 = .bool false := hR 34 (by decide)
              clear hR
              simp only [putsL, Nat.zero_add, Nat.reduceAdd, List.take_succ_cons, List.take_zero, Act.put, List.setIfInBounds_toArray, List.set_cons_zero, List.set_cons_succ]
              rw [e12]
              clear e12
              go_wp2_with fail
              go_ret
              exact ⟨false, rfl, bthen HB.out hb HB.out.size, f_iff (fun h => by
                rcases h with ⟨h, q⟩ | ⟨h, q⟩ | ⟨h, q⟩
                · exact absurd h (by decide)
                · exact absurd h (by decide)
                · exact H4.out q.2.2.1)⟩
            · have H4 := Lib.hid h4; clear h4
              refine wp_region_each (kss := [[], [(0, 87)], [(1, 88)], [(2, 89)], [(3, 90)], [(3, 90)], [(3, 90), (4, 91), (5, 92)], [(3, 90), (6, 93)], [(3, 90), (7, 94)], [(8, 95)], [(9, 96)], [(9, 96)], [(9, 96)], [(9, 96), (12, 99)], [(9, 96), (10, 97), (11, 98), (13, 100)], [(9, 96), (14, 101)], [(15, 102)], [(16, 103)], [(16, 103)], [(16, 103)], [(16, 103), (19, 106)], [(16, 103), (20, 107)], [(16, 103), (21, 108)], [(16, 103), (17, 104), (18, 105), (22, 109)], [(16, 103), (23, 110)], [(24, 111)], [(25, 112)], [(25, 112), (26, 113)], [(25, 112)], [(25, 112), (27, 114), (28, 115)], [(25, 112)], [(25, 112), (29, 116), (30, 117)], [(25, 112), (31, 118)], [(25, 112), (32, 119)], [(33, 120)]]) [(3, .slice AY kY cY), (11, .pointer (some ⟨gv, 0, none⟩)), (6, .pointer (some ⟨gq, 0, none⟩)), (2, .slice AX kX cX), (4, .slice AR kR cR)] [EV (.slice AY kY cY), EV (.int .i64 ((kY : Int))), EV (.bool true), EV (.bool true), EV (QL (v)), EV (QL (0)), EV (.int .i64 (rcq v 0)), EV (.bool true), EV (.bool true), EV (.bool true), EV (.agg #[.slice QC n qc, .slice QA m qa, .slice QB m qb]), EV (.slice AX kX cX), EV (.pointer (some ⟨gq, 2, none⟩)), EV (.slice QB m qb), EV (.bool true), EV (.bool true), EV (.bool true), EV (.agg #[.slice QC n qc, .slice QA m qa, .slice QB m qb]), EV (.slice AR kR cR), EV (.pointer (some ⟨gq, 2, none⟩)), EV (.slice QB m qb), EV (.int .i64 ((m : Int))), fun v w' => ∃ (A0 : Option Addr) (c0 : Nat), v = .slice A0 m c0 ∧ Reads w' w'.heap.size 2 A0 m (qsL (fun _ => 0) m), EV (.bool true), EV (.bool true), EV (.bool true), EV (.pointer (some ⟨gq, 0, none⟩)), EV (.slice QC n qc), EV (.slice AR kR cR), EV (QL (sm (fun l => C l * R l) n)), EV (QL (0)), EV (.int .i64 (rcq (sm (fun l => C l * R l) n) 0)), EV (.bool true), EV (.bool true), EV (.bool true)] (by kernel_rfl) (by kernel_rfl) ⟨rfl, rfl, rfl, rfl, rfl, trivial⟩ ?_ ?_ ?_
              · exact ⟨sI, sI, sI, sI, sI, sI, sI, sI, sI, sI, sI, sI, sI, sI, sI, sI, sI, sI, sI, sI, sI, sI, fun _ _ _ ⟨A0, c0, h1, h2⟩ hb => ⟨A0, c0, h1, (h2.below hb).more hb.size⟩, sI, sI, sI, sI, sI, sI, sI, sI, sI, sI, sI, sI, trivial⟩
              · refine ⟨?_, ?_, ?_, ?_, ?_, ?_, ?_, ?_, ?_, ?_, ?_, ?_, ?_, ?_, ?_, ?_, ?_, ?_, ?_, ?_, ?_, ?_, ?_, ?_, ?_, ?_, ?_, ?_, ?_, ?_, ?_, ?_, ?_, ?_, ?_, trivial⟩
                · exact fun _ _ _ he hd => ob_mv rfl rfl he.1
                · exact fun aa ww hb he hd => ob_plain rfl (len_c Try.underlying32 rfl hd.1)
                · exact fun aa ww hb he hd => ob_plain rfl (gives_eq_int ((kY : Int)) 0 .i64 _ _ _ _ rfl hd.1 rfl ⟨congrArg Value.bool (keq0.trans (decide_eq_true H0.out)), Below.refl _ _⟩)
                · exact fun _ _ _ he hd => ob_mv rfl rfl hd.1
                · exact fun aa ww hb he hd => ob_on 90 rfl (by kernel_rfl) hd.1 (load_qb rfl he.2.1 (Qb.new HV.out hb))
                · exact fun aa ww hb he hd => ob_on 90 rfl (by kernel_rfl) hd.1 (gives_call0 _ _ rfl (by kernel_rfl) (rv_one (rzero_any _)))
                · exact fun aa ww hb he hd => ob_on 90 rfl (by kernel_rfl) hd.1 (gives_call2 _ _ _ _ rfl (by kernel_rfl) (rcmp_v (x := v) (y := 0) HsV.out (⟨by decide, by decide⟩ : Sm 0) _ _ hd.2.1 hd.2.2.1 _))
                · exact fun aa ww hb he hd => ob_on 90 rfl (by kernel_rfl) hd.1 (gives_eq_int (rcq v 0) 0 .i64 _ _ _ _ rfl hd.2.1 rfl ⟨congrArg Value.bool (rcq_eqb.trans (decide_eq_true H1.out)), Below.refl _ _⟩)
                · exact fun aa ww hb he hd => ob_plain rfl (gives_pick true _ _ _ rfl hd.1 ⟨hd.2.1, Below.refl _ _⟩)
                · exact fun _ _ _ he hd => ob_mv rfl rfl hd.1
                · exact fun aa ww hb he hd => ob_on 96 rfl (by kernel_rfl) hd.1 (load_rpb rfl he.2.2.1 (Blk.keep HBx.out hb))
                · exact fun aa ww hb he hd => ob_on 96 rfl (by kernel_rfl) hd.1 (gives_move _ rfl ⟨he.2.2.2.1, Below.refl _ _⟩)
                · exact fun aa ww hb he hd => ob_on 96 rfl (by kernel_rfl) hd.1 (fld_rpb rfl (by decide) he.2.2.1)
                · exact fun aa ww hb he hd => ob_on 96 rfl (by kernel_rfl) hd.1 (load_c32 rfl hd.2.1 (Blk.at2 HBx.out hb))
                · exact fun aa ww hb he hd => ob_on 96 rfl (by kernel_rfl) hd.1 (gives_call3 _ _ _ _ _ rfl (by kernel_rfl) (by rw [show aa.eval (.tmp 97) = .agg #[.slice QC n qc, .slice QA m qa, .slice QB m qb] from hd.2.1, show aa.eval (.tmp 98) = .slice AX kX cX from hd.2.2.1, show aa.eval (.tmp 100) = .slice QB m qb from hd.2.2.2.1]; exact ret_t (rfeas_any n m m kX m qc qa qb cX qb QC QA QB AX QB Qr qp A C B X B _ (RqW.new HQ.out (bthen HB.out hb HB.out.size)) ((HX.out.below (bthen HB.out hb HB.out.size)).more (bthen HB.out hb HB.out.size).size) (((RqW.new HQ.out (bthen HB.out hb HB.out.size)).b)) (by omega) (fun i _ => HsX.out i) (fun i _ => HsB.out i) (fun i _ => dotS (by omega) (fun k _ => HfA.out i k) (fun k _ => HfX.out k)) (by omega) (by omega) (by omega)) (t_iff H2.out)))
                · exact fun aa ww hb he hd => ob_plain rfl (gives_pick true _ _ _ rfl hd.1 ⟨hd.2.1, Below.refl _ _⟩)
                · exact fun _ _ _ he hd => ob_mv rfl rfl hd.1
                · exact fun aa ww hb he hd => ob_on 103 rfl (by kernel_rfl) hd.1 (load_rpb rfl he.2.2.1 (Blk.keep HBx.out hb))
                · exact fun aa ww hb he hd => ob_on 103 rfl (by kernel_rfl) hd.1 (gives_move _ rfl ⟨he.2.2.2.2.1, Below.refl _ _⟩)
                · exact fun aa ww hb he hd => ob_on 103 rfl (by kernel_rfl) hd.1 (fld_rpb rfl (by decide) he.2.2.1)
                · exact fun aa ww hb he hd => ob_on 103 rfl (by kernel_rfl) hd.1 (load_c32 rfl hd.2.1 (Blk.at2 HBx.out hb))
                · exact fun aa ww hb he hd => ob_on 103 rfl (by kernel_rfl) hd.1 (len_c Try.underlying32 rfl hd.2.1)
                · exact fun aa ww hb he hd => ob_on 103 rfl (by kernel_rfl) hd.1 (gives_call1 _ _ _ rfl (by kernel_rfl) (by rw [show aa.eval (.tmp 108) = .int .i64 ((m : Int)) from hd.2.1]; exact rzeros_any m _ (by omega)))
                · exact fun aa ww hb he hd => ob_on 103 rfl (by kernel_rfl) hd.1 (gives_call3 _ _ _ _ _ rfl (by kernel_rfl) (by obtain ⟨A0, c0, e0, r0⟩ := hd.2.2.2.1; rw [show aa.eval (.tmp 104) = .agg #[.slice QC n qc, .slice QA m qa, .slice QB m qb] from hd.2.1, show aa.eval (.tmp 105) = .slice AR kR cR from hd.2.2.1, show aa.eval (.tmp 109) = .slice A0 m c0 from e0]; exact ret_t (rfeas_any n m m kR m qc qa qb cR c0 QC QA QB AR A0 Qr qp A C B R (fun _ => 0) _ (RqW.new HQ.out (bthen HB.out hb HB.out.size)) ((HR.out.below (bthen HB.out hb HB.out.size)).more (bthen HB.out hb HB.out.size).size) (r0) (by omega) (fun i _ => HsR.out i) (fun _ _ => ⟨by decide, by decide⟩) (fun i _ => dotS (by omega) (fun k _ => HfA.out i k) (fun k _ => HfR.out k)) (by omega) (by omega) (by omega)) (t_iff H3.out)))
                · exact fun aa ww hb he hd => ob_plain rfl (gives_pick true _ _ _ rfl hd.1 ⟨hd.2.1, Below.refl _ _⟩)
                · exact fun _ _ _ he hd => ob_mv rfl rfl hd.1
                · exact fun aa ww hb he hd => ob_on 112 rfl (by kernel_rfl) hd.1 (fld_rpb rfl (by decide) he.2.2.1)
                · exact fun aa ww hb he hd => ob_on 112 rfl (by kernel_rfl) hd.1 (load_c32 rfl hd.2.1 (Blk.at0 HBx.out hb))
                · exact fun aa ww hb he hd => ob_on 112 rfl (by kernel_rfl) hd.1 (gives_move _ rfl ⟨he.2.2.2.2.1, Below.refl _ _⟩)
                · exact fun aa ww hb he hd => ob_on 112 rfl (by kernel_rfl) hd.1 (gives_call2 _ _ _ _ rfl (by kernel_rfl) (by rw [show aa.eval (.tmp 114) = .slice QC n qc from hd.2.1, show aa.eval (.tmp 115) = .slice AR kR cR from hd.2.2.1]; exact rdot_any n kR qc cR QC AR C R _ (((RqW.new HQ.out (bthen HB.out hb HB.out.size)).c)) ((HR.out.below (bthen HB.out hb HB.out.size)).more (bthen HB.out hb HB.out.size).size) (by omega) (by omega) (dotS (by omega) (fun k _ => HfC.out k) (fun k _ => HfR.out k))))
                · exact fun aa ww hb he hd => ob_on 112 rfl (by kernel_rfl) hd.1 (gives_call0 _ _ rfl (by kernel_rfl) (rv_one (rzero_any _)))
                · exact fun aa ww hb he hd => ob_on 112 rfl (by kernel_rfl) hd.1 (gives_call2 _ _ _ _ rfl (by kernel_rfl) (rcmp_v (x := sm (fun l => C l * R l) n) (y := 0) ((dotS (n := n) (f := C) (g := R) (by omega) (fun k _ => HfC.out k) (fun k _ => HfR.out k)).h4 n (Nat.le_refl _)) (⟨by decide, by decide⟩ : Sm 0) _ _ hd.2.1 hd.2.2.1 _))
                · exact fun aa ww hb he hd => ob_on 112 rfl (by kernel_rfl) hd.1 (gives_gt_int (rcq (sm (fun l => C l * R l) n) 0) 0 .i64 _ _ _ _ rfl hd.2.1 rfl ⟨congrArg Value.bool (rcq_gtb.trans (decide_eq_true H4.out)), Below.refl _ _⟩)
                · exact fun aa ww hb he hd => ob_plain rfl (gives_pick true _ _ _ rfl hd.1 ⟨hd.2.1, Below.refl _ _⟩)
                · exact fun aa ww hb he hd => ob_plain rfl (gives_assign _ rfl ⟨hd.1, Below.refl _ _⟩)
              intro vs w4 hb hR
              have e12 : vs 34 = .bool true := hR 34 (by decide)
              clear hR
              simp only [putsL, Nat.zero_add, Nat.reduceAdd, List.take_succ_cons, List.take_zero, Act.put, List.setIfInBounds_toArray, List.set_cons_zero, List.set_cons_succ]
              rw [e12]
              clear e12
              go_wp2_with fail
              go_ret
              exact ⟨true, rfl, bthen HB.out hb HB.out.size, t_iff (.inr (.inr ⟨rfl, H2.out, H3.out, H4.out, H0.out, H1.out⟩))⟩
  go_wp2_with fail
  go_ret
  exact ⟨false, rfl, HB.out, f_iff (fun h => by rcases h with ⟨h, _⟩ | ⟨h, _⟩ | ⟨h, _⟩ <;> contradiction)⟩
end Go.Proofs.Ytamcibmjpmibdaa
