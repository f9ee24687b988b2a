/-
Contracts of simplex.feasible and bounds. Regions printed by gen/sc.py.
Plain: what certificates of linear programs say of each other.
Operations on problems and solutions: boxes, fields, makes, builds.
Rows of fractions and of Smalls; contracts of law28.qs and Rats. Regions printed by gen/sqs.py.
Opens arguments that hold Smalls.
Contract of simplex.valid.
-/
import Derived.Test.YtamcibmjpmibdaaK10
import Derived.Test.YtamcibmjpmibdaaK9
import Derived.Test.YtamcibmjpmibdaaK1
import Derived.Deep.SlicePairs
namespace Go.Proofs.Ytamcibmjpmibdaa
open Go.RowKit
set_option linter.unusedVariables false
set_option linter.unusedSimpArgs false

/-- A Bool that says P. -/
def BRet (P : Prop) (w : World) (e : Ending) (w' : World) : Prop := ∃ t : Bool, e = .returned (.bool t) ∧ Below w.heap.size w w' ∧ (t = true ↔ P)
theorem f_iff {P : Prop} (h : ¬ P) : false = true ↔ P := ⟨fun e => absurd e (by decide), fun e => absurd e h⟩
theorem t_iff {P : Prop} (h : P) : true = true ↔ P := ⟨fun _ => h, fun _ => rfl⟩
theorem ret_t {f : FuncId} {args : Array Value} {w : World} {P : Prop} {t : Bool} (h : Calls Try.prog f args w (BRet P w)) (ht : t = true ↔ P) : Calls Try.prog f args w (RV w (fun u _ => u = .bool t)) :=
  h.mono fun _ _ ⟨t', he, hb, hp⟩ => ⟨_, he, by
    have : t' = t := Bool.eq_iff_iff.2 (hp.trans ht.symm)
    rw [this], hb⟩
theorem rcq_gtb {x y : Rat} : decide (rcq x y > 0) = decide (y < x) := by
  by_cases h : x < y
  · rw [rcq_lt h, decide_eq_false (show ¬ y < x by grind)]; rfl
  · by_cases h2 : y < x
    · rw [rcq_gt h2, decide_eq_true h2]; rfl
    · rw [rcq_eq (by grind), decide_eq_false h2]; rfl
theorem rcq_ltd {x y : Rat} : decide (rcq x y < 0) = decide (x < y) := by
  by_cases h : x < y
  · rw [rcq_lt h, decide_eq_true h]; rfl
  · by_cases h2 : y < x
    · rw [rcq_gt h2, decide_eq_false h]; rfl
    · rw [rcq_eq (by grind), decide_eq_false h]; rfl
set_option maxRecDepth 100000 in
set_option maxHeartbeats 8000000 in
theorem sfeas_any (n m kX cC cA cB cX b bx : Nat) (AC AA AB AX : Option Addr) (Ar : Nat → Option Addr) (ln cp : Nat → Nat) (A : Nat → Nat → Rat) (C B X : Nat → Rat) (w : World) (hP : PrW w b n m m AC AA AB Ar ln cp A C B) (hl : ∀ i, i < m → ln i = n) (hX : Rs w w.heap.size AX kX (PW w bx X))
    (hn : n ≤ 1000) (hm : m ≤ 1000) (hb1 : b ≤ 1400) (hbx : bx ≤ 1400) (hcap : n * (b + bx + 1) ≤ 2000) :
    Calls Try.prog 45 #[.agg #[.slice AC n cC, .slice AA m cA, .slice AB m cB], .slice AX kX cX] w (BRet (kX = n ∧ Primal n m A B X) w) := by
  have HP := Lib.hid hP; have HX := Lib.hid hX; have HL := Lib.hid hl; have HCap := Lib.hid hcap; clear hP hX hl hcap
  go_enter Try.func45, Try.ntmps45
  go_upto_region 1 with (fail)
  have HQ := Lib.hid (Blk.new w 31 #[.slice AC n cC, .slice AA m cA, .slice AB m cB])
  have HB := Lib.hid (al w (.cells #[.slice AC n cC, .slice AA m cA, .slice AB m cB] 31))
  obtain ⟨gq, hgq⟩ : ∃ gq, gq = w.heap.size := ⟨_, rfl⟩
  rw [← hgq] at HQ ⊢
  clear hgq
  generalize w.alloc (.cells #[.slice AC n cC, .slice AA m cA, .slice AB m cB] 31) = w1 at *
  by_cases hk : kX = n
  rotate_left
  · have HK := Lib.hid hk; clear hk
    refine wp_region_seq (kss := [[], [(0, 7)], [], [(2, 9)], [(3, 10)], [(1, 8), (4, 11)], [(5, 12)], [(6, 13)], [(6, 13), (7, 14)], [(6, 13), (8, 15)], [(6, 13), (9, 16)]]) [(1, .slice AX kX cX), (2, .pointer (some ⟨gq, 0, none⟩))] [EV (.slice AX kX cX), EV (.int .i64 ((kX : Int))), EV (.pointer (some ⟨gq, 0, none⟩)), EV (.slice AC n cC), EV (.int .i64 ((n : Int))), EV (.bool true), EV (.bool true), EV (undef), EV (undef), EV (undef), EV (.bool true)] (by kernel_rfl) ⟨rfl, rfl, trivial⟩ ?_ ?_ ?_
    · exact ⟨eI, eI, eI, eI, eI, eI, eI, eI, eI, eI, eI, trivial⟩
    · refine ⟨?_, ?_, ?_, ?_, ?_, ?_, ?_, ?_, ?_, ?_, ?_, trivial⟩
      · exact fun _ _ _ he hd => ob_mv rfl rfl he.1
      · exact fun aa ww hb he hd => ob_plain rfl (len_c Try.underlying28 rfl hd.1)
      · exact fun aa ww hb he hd => ob_plain rfl (fld_prb rfl (by decide) he.2.1)
      · exact fun aa ww hb he hd => ob_plain rfl (load_c28 rfl hd.1 (Blk.at0 HQ.out hb))
      · exact fun aa ww hb he hd => ob_plain rfl (len_c Try.underlying28 rfl hd.1)
      · exact fun aa ww hb he hd => ob_plain rfl (gives_ne_int ((kX : Int)) ((n : Int)) .i64 _ _ _ _ rfl hd.1 hd.2.1 ⟨congrArg Value.bool (by simp; have := HK.out; omega), Below.refl _ _⟩)
      · exact fun _ _ _ he hd => ob_mv rfl rfl hd.1
      · exact fun aa ww hb he hd => ob_off 13 rfl (by kernel_rfl) hd.1 rfl
      · exact fun aa ww hb he hd => ob_off 13 rfl (by kernel_rfl) hd.1 rfl
      · exact fun aa ww hb he hd => ob_off 13 rfl (by kernel_rfl) hd.1 rfl
      · exact fun aa ww hb he hd => ob_plain rfl (gives_pick true _ _ _ rfl hd.1 ⟨rfl, Below.refl _ _⟩)
    intro vs w2 hb hR
    have e17 : vs 10 = .bool true := hR 10 (by decide)
    clear hR
    simp only [putsL, Nat.zero_add, Nat.reduceAdd, List.take_succ_cons, List.take_zero, Act.put, List.setIfInBounds_toArray, List.set_cons_zero, List.set_cons_succ]
    rw [e17]
    clear e17
    go_wp2_with fail
    go_ret
    exact ⟨false, rfl, bthen HB.out hb HB.out.size, by simp; intro h; exact absurd h HK.out⟩
  · subst hk
    obtain ⟨n, hn'⟩ : ∃ n, n = kX := ⟨_, rfl⟩
    subst hn'
    by_cases hp : ∀ l, l < n → 0 ≤ X l
    rotate_left
    · have HPp := Lib.hid hp
      refine wp_region_seq (kss := [[], [(0, 7)], [], [(2, 9)], [(3, 10)], [(1, 8), (4, 11)], [(5, 12)], [(6, 13)], [(6, 13), (7, 14)], [(6, 13), (8, 15)], [(6, 13), (9, 16)]]) [(1, .slice AX n cX), (2, .pointer (some ⟨gq, 0, none⟩))] [EV (.slice AX n cX), EV (.int .i64 ((n : Int))), EV (.pointer (some ⟨gq, 0, none⟩)), EV (.slice AC n cC), EV (.int .i64 ((n : Int))), EV (.bool false), EV (.bool false), EV (.slice AX n cX), EV (.bool false), EV (.bool true), EV (.bool true)] (by kernel_rfl) ⟨rfl, rfl, trivial⟩ ?_ ?_ ?_
      · exact ⟨eI, eI, eI, eI, eI, eI, eI, eI, eI, eI, eI, trivial⟩
      · refine ⟨?_, ?_, ?_, ?_, ?_, ?_, ?_, ?_, ?_, ?_, ?_, trivial⟩
        · exact fun _ _ _ he hd => ob_mv rfl rfl he.1
        · exact fun aa ww hb he hd => ob_plain rfl (len_c Try.underlying28 rfl hd.1)
        · exact fun aa ww hb he hd => ob_plain rfl (fld_prb rfl (by decide) he.2.1)
        · exact fun aa ww hb he hd => ob_plain rfl (load_c28 rfl hd.1 (Blk.at0 HQ.out hb))
        · exact fun aa ww hb he hd => ob_plain rfl (len_c Try.underlying28 rfl hd.1)
        · exact fun aa ww hb he hd => ob_plain rfl (gives_ne_int ((n : Int)) ((n : Int)) .i64 _ _ _ _ rfl hd.1 hd.2.1 ⟨congrArg Value.bool (by simp), Below.refl _ _⟩)
        · exact fun _ _ _ he hd => ob_mv rfl rfl hd.1
        · exact fun aa ww hb he hd => ob_on 13 rfl (by kernel_rfl) hd.1 (gives_move _ rfl ⟨he.1, Below.refl _ _⟩)
        · exact fun aa ww hb he hd => ob_on 13 rfl (by kernel_rfl) hd.1 (gives_call1 _ _ _ rfl (by kernel_rfl) (by rw [show aa.eval (.tmp 14) = .slice AX n cX from hd.2.1]; exact ret_t (nonneg_any n cX bx AX X _ (Rs.newW HX.out (bthen HB.out hb HB.out.size)) (by omega)) (f_iff hp)))
        · exact fun aa ww hb he hd => ob_on 13 rfl (by kernel_rfl) hd.1 (gives_not false _ _ rfl hd.2.1 ⟨rfl, Below.refl _ _⟩)
        · exact fun aa ww hb he hd => ob_plain rfl (gives_pick false _ _ _ rfl hd.1 ⟨hd.2.1, Below.refl _ _⟩)
      intro vs w2 hb hR
      have e17 : vs 10 = .bool true := hR 10 (by decide)
      clear hR
      simp only [putsL, Nat.zero_add, Nat.reduceAdd, List.take_succ_cons, List.take_zero, Act.put, List.setIfInBounds_toArray, List.set_cons_zero, List.set_cons_succ]
      rw [e17]
      clear e17
      clear hp
      go_wp2_with fail
      go_ret
      exact ⟨false, rfl, bthen HB.out hb HB.out.size, by simp; intro h; exact HPp.out h.nonneg⟩
    · have HPp := Lib.hid hp
      refine wp_region_seq (kss := [[], [(0, 7)], [], [(2, 9)], [(3, 10)], [(1, 8), (4, 11)], [(5, 12)], [(6, 13)], [(6, 13), (7, 14)], [(6, 13), (8, 15)], [(6, 13), (9, 16)]]) [(1, .slice AX n cX), (2, .pointer (some ⟨gq, 0, none⟩))] [EV (.slice AX n cX), EV (.int .i64 ((n : Int))), EV (.pointer (some ⟨gq, 0, none⟩)), EV (.slice AC n cC), EV (.int .i64 ((n : Int))), EV (.bool false), EV (.bool false), EV (.slice AX n cX), EV (.bool true), EV (.bool false), EV (.bool false)] (by kernel_rfl) ⟨rfl, rfl, trivial⟩ ?_ ?_ ?_
      · exact ⟨eI, eI, eI, eI, eI, eI, eI, eI, eI, eI, eI, trivial⟩
      · refine ⟨?_, ?_, ?_, ?_, ?_, ?_, ?_, ?_, ?_, ?_, ?_, trivial⟩
        · exact fun _ _ _ he hd => ob_mv rfl rfl he.1
        · exact fun aa ww hb he hd => ob_plain rfl (len_c Try.underlying28 rfl hd.1)
        · exact fun aa ww hb he hd => ob_plain rfl (fld_prb rfl (by decide) he.2.1)
        · exact fun aa ww hb he hd => ob_plain rfl (load_c28 rfl hd.1 (Blk.at0 HQ.out hb))
        · exact fun aa ww hb he hd => ob_plain rfl (len_c Try.underlying28 rfl hd.1)
        · exact fun aa ww hb he hd => ob_plain rfl (gives_ne_int ((n : Int)) ((n : Int)) .i64 _ _ _ _ rfl hd.1 hd.2.1 ⟨congrArg Value.bool (by simp), Below.refl _ _⟩)
        · exact fun _ _ _ he hd => ob_mv rfl rfl hd.1
        · exact fun aa ww hb he hd => ob_on 13 rfl (by kernel_rfl) hd.1 (gives_move _ rfl ⟨he.1, Below.refl _ _⟩)
        · exact fun aa ww hb he hd => ob_on 13 rfl (by kernel_rfl) hd.1 (gives_call1 _ _ _ rfl (by kernel_rfl) (by rw [show aa.eval (.tmp 14) = .slice AX n cX from hd.2.1]; exact ret_t (nonneg_any n cX bx AX X _ (Rs.newW HX.out (bthen HB.out hb HB.out.size)) (by omega)) (t_iff hp)))
        · exact fun aa ww hb he hd => ob_on 13 rfl (by kernel_rfl) hd.1 (gives_not true _ _ rfl hd.2.1 ⟨rfl, Below.refl _ _⟩)
        · exact fun aa ww hb he hd => ob_plain rfl (gives_pick false _ _ _ rfl hd.1 ⟨hd.2.1, Below.refl _ _⟩)
      intro vs w2 hb hR
      have e17 : vs 10 = .bool false := hR 10 (by decide)
      clear hR
      simp only [putsL, Nat.zero_add, Nat.reduceAdd, List.take_succ_cons, List.take_zero, Act.put, List.setIfInBounds_toArray, List.set_cons_zero, List.set_cons_succ]
      rw [e17]
      clear e17
      clear hp
      have HQ2 := Lib.hid (HQ.out.keep hb)
      have HB2 := Lib.hid (bthen HB.out hb HB.out.size)
      clear HQ HB hb
      have c0 := HQ2.out.at0 (Below.refl _ _); have c1 := HQ2.out.at1 (Below.refl _ _); have c2 := HQ2.out.at2 (Below.refl _ _)
      go_wp2_with fail
      clear c0 c1 c2
      go_loopg [21] m (fun g iv wr => ∃ i : Nat, iv = .int .i64 i ∧ i + g = m ∧ Hid ((∀ l, l < i → sm (fun j => A l j * X j) n ≤ B l) ∧ Blk wr gq 31 #[.slice AC n cC, .slice AA m cA, .slice AB m cB] ∧ Below w.heap.size w wr))
      case atStart => exact ⟨0, rfl, by omega, Lib.hid ⟨fun l hl => absurd hl (by omega), HQ2.out, HB2.out⟩⟩
      case round =>
        obtain ⟨i, rfl, him, HI⟩ := hrel
        clear HQ2 HB2
        have HS := Lib.hid HI.out.1
        have HQ := Lib.hid HI.out.2.1
        have HB := Lib.hid HI.out.2.2
        clear HI
        by_cases hi : i < m
        · have i1 : ((i : Int) < (m : Int)) := by omega
          have i0 : (0 : Int) ≤ (i : Int) := by omega
          have hr0 := (HP.out.new HB.out).at_ hi
          rw [HL.out i hi] at hr0
          obtain ⟨ad, rfl, had, hr⟩ := hr0
          have HRow := Lib.hid (HP.out.row i hi)
          rw [HL.out i hi] at HRow
          have HBB := Lib.hid HP.out.bb
          obtain ⟨adb, -, -, -, -, -, -, -, rfl, -⟩ := HBB.out.at_ hi
          clear had
          generalize Ar i = Ai at hr HRow
          generalize cp i = ci at hr
          go_upto_region 6 with (fail)
          clear hr
          by_cases hq0 : B i < sm (fun j => A i j * X j) n
          · have hq : decide (rcq (sm (fun l => A i l * X l) n) (B i) > 0) = true := rcq_gtb.trans (decide_eq_true hq0)
            refine wp_region_each (kss := [[], [], [(0, 26), (1, 27)], [], [(3, 29)], [], [(4, 30), (5, 31)], [(6, 32)], [(2, 28), (7, 33)], [(8, 34)]]) [(6, .slice Ai n ci), (1, .slice AX n cX), (2, .pointer (some ⟨gq, 0, none⟩)), (5, .int .i64 ((i : Int)))] [EV (.slice Ai n ci), EV (.slice AX n cX), Rw (2 + n * (b + bx + 1)) (sm (fun l => (A i) l * X l) n), EV (.pointer (some ⟨gq, 2, none⟩)), EV (.slice (some adb) m cB), EV (.int .i64 ((i : Int))), EV (.pointer (some (Addr.add adb (i * 3)))), Rw (b) (B i), EV (.int .i64 (rcq (sm (fun l => (A i) l * X l) n) (B i))), EV (.bool true)] (by kernel_rfl) (by kernel_rfl) ⟨rfl, rfl, rfl, rfl, trivial⟩ ?_ ?_ ?_
            · exact ⟨eI, eI, fun _ _ _ h hb => h.new hb, eI, eI, eI, eI, fun _ _ _ h hb => h.new hb, eI, eI, trivial⟩
            · refine ⟨?_, ?_, ?_, ?_, ?_, ?_, ?_, ?_, ?_, ?_, trivial⟩
              · exact fun _ _ _ he hd => ob_mv rfl rfl he.1
              · exact fun _ _ _ he hd => ob_mv rfl rfl he.2.1
              · exact fun aa ww hb he hd => ob_plain rfl (gives_call2 _ _ _ _ rfl (by kernel_rfl) (by rw [show aa.eval (.tmp 26) = .slice Ai n ci from hd.1, show aa.eval (.tmp 27) = .slice AX n cX from hd.2.1]; exact dot_any n n ci cX b bx _ _ (A i) X _ (Rs.newW HRow.out (bthen HB.out hb HB.out.size)) (Rs.newW HX.out (bthen HB.out hb HB.out.size)) (by omega) (by omega) (by omega) (by omega) HCap.out))
              · exact fun aa ww hb he hd => ob_plain rfl (fld_prb rfl (by decide) he.2.2.1)
              · exact fun aa ww hb he hd => ob_plain rfl (load_c28 rfl hd.1 (Blk.at2 HQ.out hb))
              · exact fun _ _ _ he hd => ob_mv rfl rfl he.2.2.2.1
              · exact fun aa ww hb he hd => ob_plain rfl (idx_rs (by omega) rfl hd.1 hd.2.1)
              · exact fun aa ww hb he hd => ob_plain rfl (load_rw rfl hd.1 (Rs.newW HBB.out (bthen HB.out hb HB.out.size)) (by omega))
              · exact fun aa ww hb he hd => ob_plain rfl (gives_call2 _ _ _ _ rfl (by kernel_rfl) (cmp_v (hd.1) (hd.2.1) (by have := HCap.out; omega)))
              · exact fun aa ww hb he hd => ob_plain rfl (gives_gt_int (rcq (sm (fun l => (A i) l * X l) n) (B i)) 0 .i64 _ _ _ _ rfl hd.1 rfl ⟨congrArg Value.bool (hq), Below.refl _ _⟩)
            intro vs w4 hb hR
            have e35 : vs 9 = .bool true := hR 9 (by decide)
            clear hR
            simp only [putsL, Nat.zero_add, Nat.reduceAdd, List.take_succ_cons, List.take_zero, Act.put, List.setIfInBounds_toArray, List.set_cons_zero, List.set_cons_succ]
            rw [e35]
            clear e35
            go_wp2_with fail
            go_ret
            exact ⟨false, rfl, bthen HB.out hb HB.out.size, by simp; intro h; have := h.le i hi; grind⟩
          · have hq : decide (rcq (sm (fun l => A i l * X l) n) (B i) > 0) = false := rcq_gtb.trans (decide_eq_false hq0)
            refine wp_region_each (kss := [[], [], [(0, 26), (1, 27)], [], [(3, 29)], [], [(4, 30), (5, 31)], [(6, 32)], [(2, 28), (7, 33)], [(8, 34)]]) [(6, .slice Ai n ci), (1, .slice AX n cX), (2, .pointer (some ⟨gq, 0, none⟩)), (5, .int .i64 ((i : Int)))] [EV (.slice Ai n ci), EV (.slice AX n cX), Rw (2 + n * (b + bx + 1)) (sm (fun l => (A i) l * X l) n), EV (.pointer (some ⟨gq, 2, none⟩)), EV (.slice (some adb) m cB), EV (.int .i64 ((i : Int))), EV (.pointer (some (Addr.add adb (i * 3)))), Rw (b) (B i), EV (.int .i64 (rcq (sm (fun l => (A i) l * X l) n) (B i))), EV (.bool false)] (by kernel_rfl) (by kernel_rfl) ⟨rfl, rfl, rfl, rfl, trivial⟩ ?_ ?_ ?_
            · exact ⟨eI, eI, fun _ _ _ h hb => h.new hb, eI, eI, eI, eI, fun _ _ _ h hb => h.new hb, eI, eI, trivial⟩
            · refine ⟨?_, ?_, ?_, ?_, ?_, ?_, ?_, ?_, ?_, ?_, trivial⟩
              · exact fun _ _ _ he hd => ob_mv rfl rfl he.1
              · exact fun _ _ _ he hd => ob_mv rfl rfl he.2.1
              · exact fun aa ww hb he hd => ob_plain rfl (gives_call2 _ _ _ _ rfl (by kernel_rfl) (by rw [show aa.eval (.tmp 26) = .slice Ai n ci from hd.1, show aa.eval (.tmp 27) = .slice AX n cX from hd.2.1]; exact dot_any n n ci cX b bx _ _ (A i) X _ (Rs.newW HRow.out (bthen HB.out hb HB.out.size)) (Rs.newW HX.out (bthen HB.out hb HB.out.size)) (by omega) (by omega) (by omega) (by omega) HCap.out))
              · exact fun aa ww hb he hd => ob_plain rfl (fld_prb rfl (by decide) he.2.2.1)
              · exact fun aa ww hb he hd => ob_plain rfl (load_c28 rfl hd.1 (Blk.at2 HQ.out hb))
              · exact fun _ _ _ he hd => ob_mv rfl rfl he.2.2.2.1
              · exact fun aa ww hb he hd => ob_plain rfl (idx_rs (by omega) rfl hd.1 hd.2.1)
              · exact fun aa ww hb he hd => ob_plain rfl (load_rw rfl hd.1 (Rs.newW HBB.out (bthen HB.out hb HB.out.size)) (by omega))
              · exact fun aa ww hb he hd => ob_plain rfl (gives_call2 _ _ _ _ rfl (by kernel_rfl) (cmp_v (hd.1) (hd.2.1) (by have := HCap.out; omega)))
              · exact fun aa ww hb he hd => ob_plain rfl (gives_gt_int (rcq (sm (fun l => (A i) l * X l) n) (B i)) 0 .i64 _ _ _ _ rfl hd.1 rfl ⟨congrArg Value.bool (hq), Below.refl _ _⟩)
            intro vs w4 hb hR
            have e35 : vs 9 = .bool false := hR 9 (by decide)
            clear hR
            simp only [putsL, Nat.zero_add, Nat.reduceAdd, List.take_succ_cons, List.take_zero, Act.put, List.setIfInBounds_toArray, List.set_cons_zero, List.set_cons_succ]
            rw [e35]
            clear e35
            have HQn := Lib.hid (HQ.out.keep hb)
            have HBn := Lib.hid (bthen HB.out hb HB.out.size)
            clear hq hb HQ HB
            go_wp2_with fail
            go_roundg (gk - 1)
            case measure => omega
            case rel => exact ⟨i + 1, by go_num, by omega, Lib.hid ⟨fun l hl => by
              by_cases hli : l = i
              · rw [hli]; grind
              · exact HS.out l (by omega), HQn.out, HBn.out⟩⟩
        · obtain rfl : m = i := by omega
          go_wp2_with fail
          go_ret
          exact ⟨true, rfl, HB.out, by simp; exact ⟨HPp.out, HS.out⟩⟩
set_option maxRecDepth 100000 in
set_option maxHeartbeats 8000000 in
theorem bounds_any (n m kY nl cC cA cB cY cL b by_ bl : Nat) (AC AA AB AY AL : Option Addr) (Ar : Nat → Option Addr) (ln cp : Nat → Nat) (A : Nat → Nat → Rat) (C B Y L : Nat → Rat) (w : World) (hP : PrW w b n m m AC AA AB Ar ln cp A C B) (hl : ∀ i, i < m → ln i = n) (hY : Rs w w.heap.size AY kY (PW w by_ Y)) (hLs : Rs w w.heap.size AL nl (PW w bl L)) (hnl : n ≤ nl)
    (hn : n ≤ 1000) (hm : m ≤ 1000) (hb1 : b ≤ 1400) (hby : by_ ≤ 1400) (hbl : bl ≤ 1400) (hcap : m * (by_ + b + 1) ≤ 2000) :
    Calls Try.prog 46 #[.agg #[.slice AC n cC, .slice AA m cA, .slice AB m cB], .slice AY kY cY, .slice AL nl cL] w (BRet (kY = m ∧ DualF n m A L Y) w) := by
  have HP := Lib.hid hP; have HY := Lib.hid hY; have HL := Lib.hid hl; have HLs := Lib.hid hLs; clear hP hY hl hLs
  obtain ⟨c, hc⟩ : ∃ c, c = by_ + b + 1 := ⟨_, rfl⟩
  rw [← hc] at hcap
  have HC := Lib.hid hc; clear hc
  have HCap := Lib.hid hcap; clear hcap
  go_enter Try.func46, Try.ntmps46
  go_upto_region 1 with (fail)
  have HQ := Lib.hid (Blk.new w 31 #[.slice AC n cC, .slice AA m cA, .slice AB m cB])
  have HB := Lib.hid (al w (.cells #[.slice AC n cC, .slice AA m cA, .slice AB m cB] 31))
  obtain ⟨gq, hgq⟩ : ∃ gq, gq = w.heap.size := ⟨_, rfl⟩
  rw [← hgq] at HQ ⊢
  clear hgq
  generalize w.alloc (.cells #[.slice AC n cC, .slice AA m cA, .slice AB m cB] 31) = w1 at *
  by_cases hk : kY = m
  rotate_left
  · have HK := Lib.hid hk; clear hk
    refine wp_region_seq (kss := [[], [(0, 11)], [], [(2, 13)], [(3, 14)], [(1, 12), (4, 15)], [(5, 16)], [(6, 17)], [(6, 17), (7, 18)], [(6, 17), (8, 19)], [(6, 17), (9, 20)]]) [(1, .slice AY kY cY), (3, .pointer (some ⟨gq, 0, none⟩))] [EV (.slice AY kY cY), EV (.int .i64 ((kY : Int))), EV (.pointer (some ⟨gq, 2, none⟩)), EV (.slice AB m cB), EV (.int .i64 ((m : Int))), EV (.bool true), EV (.bool true), EV (undef), EV (undef), EV (undef), EV (.bool true)] (by kernel_rfl) ⟨rfl, rfl, trivial⟩ ?_ ?_ ?_
    · exact ⟨eI, eI, eI, eI, eI, eI, eI, eI, eI, eI, eI, trivial⟩
    · refine ⟨?_, ?_, ?_, ?_, ?_, ?_, ?_, ?_, ?_, ?_, ?_, trivial⟩
      · exact fun _ _ _ he hd => ob_mv rfl rfl he.1
      · exact fun aa ww hb he hd => ob_plain rfl (len_c Try.underlying28 rfl hd.1)
      · exact fun aa ww hb he hd => ob_plain rfl (fld_prb rfl (by decide) he.2.1)
      · exact fun aa ww hb he hd => ob_plain rfl (load_c28 rfl hd.1 (Blk.at2 HQ.out hb))
      · exact fun aa ww hb he hd => ob_plain rfl (len_c Try.underlying28 rfl hd.1)
      · exact fun aa ww hb he hd => ob_plain rfl (gives_ne_int ((kY : Int)) ((m : Int)) .i64 _ _ _ _ rfl hd.1 hd.2.1 ⟨congrArg Value.bool (by simp; have := HK.out; omega), Below.refl _ _⟩)
      · exact fun _ _ _ he hd => ob_mv rfl rfl hd.1
      · exact fun aa ww hb he hd => ob_off 17 rfl (by kernel_rfl) hd.1 rfl
      · exact fun aa ww hb he hd => ob_off 17 rfl (by kernel_rfl) hd.1 rfl
      · exact fun aa ww hb he hd => ob_off 17 rfl (by kernel_rfl) hd.1 rfl
      · exact fun aa ww hb he hd => ob_plain rfl (gives_pick true _ _ _ rfl hd.1 ⟨rfl, Below.refl _ _⟩)
    intro vs w2 hb hR
    have e21 : vs 10 = .bool true := hR 10 (by decide)
    clear hR
    simp only [putsL, Nat.zero_add, Nat.reduceAdd, List.take_succ_cons, List.take_zero, Act.put, List.setIfInBounds_toArray, List.set_cons_zero, List.set_cons_succ]
    rw [e21]
    clear e21
    go_wp2_with fail
    go_ret
    exact ⟨false, rfl, bthen HB.out hb HB.out.size, by simp; intro h; exact absurd h HK.out⟩
  · subst hk
    obtain ⟨m, hn'⟩ : ∃ m, m = kY := ⟨_, rfl⟩
    subst hn'
    by_cases hp : ∀ l, l < m → 0 ≤ Y l
    rotate_left
    · have HPp := Lib.hid hp
      refine wp_region_seq (kss := [[], [(0, 11)], [], [(2, 13)], [(3, 14)], [(1, 12), (4, 15)], [(5, 16)], [(6, 17)], [(6, 17), (7, 18)], [(6, 17), (8, 19)], [(6, 17), (9, 20)]]) [(1, .slice AY m cY), (3, .pointer (some ⟨gq, 0, none⟩))] [EV (.slice AY m cY), EV (.int .i64 ((m : Int))), EV (.pointer (some ⟨gq, 2, none⟩)), EV (.slice AB m cB), EV (.int .i64 ((m : Int))), EV (.bool false), EV (.bool false), EV (.slice AY m cY), EV (.bool false), EV (.bool true), EV (.bool true)] (by kernel_rfl) ⟨rfl, rfl, trivial⟩ ?_ ?_ ?_
      · exact ⟨eI, eI, eI, eI, eI, eI, eI, eI, eI, eI, eI, trivial⟩
      · refine ⟨?_, ?_, ?_, ?_, ?_, ?_, ?_, ?_, ?_, ?_, ?_, trivial⟩
        · exact fun _ _ _ he hd => ob_mv rfl rfl he.1
        · exact fun aa ww hb he hd => ob_plain rfl (len_c Try.underlying28 rfl hd.1)
        · exact fun aa ww hb he hd => ob_plain rfl (fld_prb rfl (by decide) he.2.1)
        · exact fun aa ww hb he hd => ob_plain rfl (load_c28 rfl hd.1 (Blk.at2 HQ.out hb))
        · exact fun aa ww hb he hd => ob_plain rfl (len_c Try.underlying28 rfl hd.1)
        · exact fun aa ww hb he hd => ob_plain rfl (gives_ne_int ((m : Int)) ((m : Int)) .i64 _ _ _ _ rfl hd.1 hd.2.1 ⟨congrArg Value.bool (by simp), Below.refl _ _⟩)
        · exact fun _ _ _ he hd => ob_mv rfl rfl hd.1
        · exact fun aa ww hb he hd => ob_on 17 rfl (by kernel_rfl) hd.1 (gives_move _ rfl ⟨he.1, Below.refl _ _⟩)
        · exact fun aa ww hb he hd => ob_on 17 rfl (by kernel_rfl) hd.1 (gives_call1 _ _ _ rfl (by kernel_rfl) (by rw [show aa.eval (.tmp 18) = .slice AY m cY from hd.2.1]; exact ret_t (nonneg_any m cY by_ AY Y _ (Rs.newW HY.out (bthen HB.out hb HB.out.size)) (by omega)) (f_iff hp)))
        · exact fun aa ww hb he hd => ob_on 17 rfl (by kernel_rfl) hd.1 (gives_not false _ _ rfl hd.2.1 ⟨rfl, Below.refl _ _⟩)
        · exact fun aa ww hb he hd => ob_plain rfl (gives_pick false _ _ _ rfl hd.1 ⟨hd.2.1, Below.refl _ _⟩)
      intro vs w2 hb hR
      have e21 : vs 10 = .bool true := hR 10 (by decide)
      clear hR
      simp only [putsL, Nat.zero_add, Nat.reduceAdd, List.take_succ_cons, List.take_zero, Act.put, List.setIfInBounds_toArray, List.set_cons_zero, List.set_cons_succ]
      rw [e21]
      clear e21
      clear hp
      go_wp2_with fail
      go_ret
      exact ⟨false, rfl, bthen HB.out hb HB.out.size, by simp; intro h; exact HPp.out h.nonneg⟩
    · have HPp := Lib.hid hp
      refine wp_region_seq (kss := [[], [(0, 11)], [], [(2, 13)], [(3, 14)], [(1, 12), (4, 15)], [(5, 16)], [(6, 17)], [(6, 17), (7, 18)], [(6, 17), (8, 19)], [(6, 17), (9, 20)]]) [(1, .slice AY m cY), (3, .pointer (some ⟨gq, 0, none⟩))] [EV (.slice AY m cY), EV (.int .i64 ((m : Int))), EV (.pointer (some ⟨gq, 2, none⟩)), EV (.slice AB m cB), EV (.int .i64 ((m : Int))), EV (.bool false), EV (.bool false), EV (.slice AY m cY), EV (.bool true), EV (.bool false), EV (.bool false)] (by kernel_rfl) ⟨rfl, rfl, trivial⟩ ?_ ?_ ?_
      · exact ⟨eI, eI, eI, eI, eI, eI, eI, eI, eI, eI, eI, trivial⟩
      · refine ⟨?_, ?_, ?_, ?_, ?_, ?_, ?_, ?_, ?_, ?_, ?_, trivial⟩
        · exact fun _ _ _ he hd => ob_mv rfl rfl he.1
        · exact fun aa ww hb he hd => ob_plain rfl (len_c Try.underlying28 rfl hd.1)
        · exact fun aa ww hb he hd => ob_plain rfl (fld_prb rfl (by decide) he.2.1)
        · exact fun aa ww hb he hd => ob_plain rfl (load_c28 rfl hd.1 (Blk.at2 HQ.out hb))
        · exact fun aa ww hb he hd => ob_plain rfl (len_c Try.underlying28 rfl hd.1)
        · exact fun aa ww hb he hd => ob_plain rfl (gives_ne_int ((m : Int)) ((m : Int)) .i64 _ _ _ _ rfl hd.1 hd.2.1 ⟨congrArg Value.bool (by simp), Below.refl _ _⟩)
        · exact fun _ _ _ he hd => ob_mv rfl rfl hd.1
        · exact fun aa ww hb he hd => ob_on 17 rfl (by kernel_rfl) hd.1 (gives_move _ rfl ⟨he.1, Below.refl _ _⟩)
        · exact fun aa ww hb he hd => ob_on 17 rfl (by kernel_rfl) hd.1 (gives_call1 _ _ _ rfl (by kernel_rfl) (by rw [show aa.eval (.tmp 18) = .slice AY m cY from hd.2.1]; exact ret_t (nonneg_any m cY by_ AY Y _ (Rs.newW HY.out (bthen HB.out hb HB.out.size)) (by omega)) (t_iff hp)))
        · exact fun aa ww hb he hd => ob_on 17 rfl (by kernel_rfl) hd.1 (gives_not true _ _ rfl hd.2.1 ⟨rfl, Below.refl _ _⟩)
        · exact fun aa ww hb he hd => ob_plain rfl (gives_pick false _ _ _ rfl hd.1 ⟨hd.2.1, Below.refl _ _⟩)
      intro vs w2 hb hR
      have e21 : vs 10 = .bool false := hR 10 (by decide)
      clear hR
      simp only [putsL, Nat.zero_add, Nat.reduceAdd, List.take_succ_cons, List.take_zero, Act.put, List.setIfInBounds_toArray, List.set_cons_zero, List.set_cons_succ]
      rw [e21]
      clear e21
      clear hp
      have HQ2 := Lib.hid (HQ.out.keep hb)
      have HB2 := Lib.hid (bthen HB.out hb HB.out.size)
      clear HQ HB hb
      have c0 := HQ2.out.at0 (Below.refl _ _); have c1 := HQ2.out.at1 (Below.refl _ _); have c2 := HQ2.out.at2 (Below.refl _ _)
      go_wp2_with fail
      clear c0 c1 c2
      go_loopg [25] n (fun g iv wr => ∃ j : Nat, iv = .int .i64 j ∧ j + g = n ∧ Hid ((∀ l, l < j → L l ≤ sm (fun i => Y i * A i l) m) ∧ Blk wr gq 31 #[.slice AC n cC, .slice AA m cA, .slice AB m cB] ∧ Below w.heap.size w wr))
      case atStart => exact ⟨0, rfl, by omega, Lib.hid ⟨fun l hl => absurd hl (by omega), HQ2.out, HB2.out⟩⟩
      case round =>
        obtain ⟨j, rfl, hjn, HI⟩ := hrel
        clear HQ2 HB2
        have HJ := Lib.hid HI.out.1
        have HQ := Lib.hid HI.out.2.1
        have HB := Lib.hid HI.out.2.2
        clear HI
        obtain ⟨G, hG⟩ : ∃ G, G = gk := ⟨_, rfl⟩
        subst hG
        obtain ⟨w6, hw6⟩ : ∃ w6, w6 = wr := ⟨_, rfl⟩
        subst hw6
        by_cases hj : j < n
        · have j1 : ((j : Int) < (n : Int)) := by omega
          go_upto_region 6 with (fail)
          refine wp_region_joins (kss := [[], []]) [] [Rv (2) (((0 : Int) : Rat)), Zb w6.heap.size] 2 (by kernel_rfl) trivial [false, true] ?_ ?_ ?_
          · exact ⟨fun _ _ _ h hb => h.new hb, fun _ _ _ h hb => Zb.new h hb, trivial⟩
          · refine ⟨?_, ?_, trivial⟩
            · exact fun aa ww hb he hd => ob_plain rfl (gives_call1 _ _ _ rfl (by kernel_rfl) (int_w (0) (by omega) (by omega) _ rfl _))
            · exact fun aa ww hb he hd => ⟨by simp [Region.wanted], alloc_rat rfl hb⟩
          intro vs w3 hb hR
          have r28 : Rv (2) (((0 : Int) : Rat)) (vs 0) w3 := hR 0 (by decide)
          have r8 : Zb w6.heap.size (vs 1) w3 := hR 1 (by decide)
          clear hR
          simp only [putsL, Nat.zero_add, Nat.reduceAdd, List.take_succ_cons, List.take_zero, Act.put, List.setIfInBounds_toArray, List.set_cons_zero, List.set_cons_succ]
          obtain ⟨g8, k8, z8⟩ := r8
          rw [k8]
          clear k8
          show wpOps _ _ _ [2] _ _
          refine wpOps_next rfl rfl (store_row (v := vs 0) (g := g8) (j := 0) (n := 1) (b := 2) (x := ((0 : Int) : Rat)) rfl rfl rfl rfl z8.rb (by omega) r28.rw ?_)
          intro wa kp hg hsz hR8
          have hlow : w.heap.size ≤ g8 := by have := z8.1; have := HB.out.size; omega
          have HX0 := Lib.hid (RB.bx (hR8 (fun _ v => Rw 2 (sm (fun l => Y l * A l j) 0) v wa) (fun l u hl hne _ => absurd hl (by omega)) (by
            have h := r28.rw.keepN kp
            rw [show ((0 : Int) : Rat) = sm (fun l => Y l * A l j) 0 from by simp [sm]] at h
            exact h)))
          have HW := Lib.hid hlow
          have HBa := Lib.hid (show Below w.heap.size w wa from (bthen HB.out hb HB.out.size).grown hg (bthen HB.out hb HB.out.size).size (fun x hx => by cases hx; exact HW.out))
          have HQa := Lib.hid ((HQ.out.keep hb).grown hg (fun e => by injection e with e; have := z8.1; have := HQ.out.lt; omega))
          have hq8 : gq ≠ g8 := by have := z8.1; have := HQ.out.lt; omega
          have HN8 := Lib.hid hq8
          clear hb kp hg hsz hR8 r28 z8 HB HQ hlow hq8
          show Exit.then _ _ _ _ _
          have c0 := HQa.out.at0 (Below.refl _ _); have c1 := HQa.out.at1 (Below.refl _ _); have c2 := HQa.out.at2 (Below.refl _ _)
          go_wp2_with fail
          clear c0 c1 c2
          go_loopg [32] m (fun g iv wr => ∃ i : Nat, iv = .int .i64 i ∧ i + g = m ∧ Hid (Bx (2 + i * c) (sm (fun l => Y l * A l j) i) g8 wr ∧ Blk wr gq 31 #[.slice AC n cC, .slice AA m cA, .slice AB m cB] ∧ Below w.heap.size w wr))
          case atStart => exact ⟨0, rfl, by omega, Lib.hid ⟨by rw [Nat.zero_mul]; exact HX0.out, HQa.out, HBa.out⟩⟩
          case round =>
            obtain ⟨i, rfl, him, HI⟩ := hrel
            clear HX0 HQa HBa
            obtain ⟨bk, hbk⟩ : ∃ bk, bk = 2 + i * c := ⟨_, rfl⟩
            have HS := Lib.hid HI.out.1
            rw [← hbk] at HS
            have HQ2 := Lib.hid HI.out.2.1
            have HB2 := Lib.hid HI.out.2.2
            clear HI
            have hkc : i * c ≤ m * c := Nat.mul_le_mul_right c (by omega)
            have hbk2 : bk ≤ 2002 := by have := HCap.out; omega
            have HBk := Lib.hid hbk; clear hbk hkc
            by_cases hi : i < m
            · have i1 : ((i : Int) < (m : Int)) := by omega
              have i0 : (0 : Int) ≤ (i : Int) := by omega
              have hr0 := (HP.out.new HB2.out).at_ hi
              rw [HL.out i hi] at hr0
              obtain ⟨ad, rfl, had, hr⟩ := hr0
              have HR := Lib.hid (HP.out.row i hi)
              rw [HL.out i hi] at HR
              clear had
              obtain ⟨adr, -, -, -, -, -, -, -, hadr, -⟩ := HR.out.at_ hj
              rw [hadr] at hr HR
              clear hadr
              obtain ⟨adY, -, -, -, -, -, -, -, rfl, -⟩ := HY.out.at_ hi
              go_upto_region 10 with (fail)
              clear hr
              refine wp_region_join (kss := [[], [], [], [(1, 38), (2, 39)], [(3, 40)], [], [], [(5, 42), (6, 43)], [(7, 44)], [(4, 41), (8, 45)], [(0, 37), (9, 46)]]) [(8, .pointer (some ⟨g8, 0, none⟩)), (1, .slice (some adY) m cY), (9, .int .i64 ((i : Int))), (10, .slice (some adr) n (cp i)), (7, .int .i64 ((j : Int)))] [Rw (bk) (sm (fun l => Y l * A l j) i), EV (.slice (some adY) m cY), EV (.int .i64 ((i : Int))), EV (.pointer (some (Addr.add adY (i * 3)))), Rw (by_) (Y i), EV (.slice (some adr) n (cp i)), EV (.int .i64 ((j : Int))), EV (.pointer (some (Addr.add adr (j * 3)))), Rw (b) ((A i) j), Rv (by_ + b) ((Y i) * ((A i) j)), Rv (bk + (by_ + b) + 1) ((sm (fun l => Y l * A l j) i) + ((Y i) * ((A i) j)))] 11 [] (by kernel_rfl) (by kernel_rfl) ⟨rfl, rfl, rfl, rfl, rfl, trivial⟩ [false, false, false, false, false, false, false, false, false, false, false] ?_ ?_ ?_ ?_
              · exact fun i hi => absurd hi (by simp)
              · exact ⟨fun _ _ _ h hb => h.new hb, eI, eI, eI, fun _ _ _ h hb => h.new hb, eI, eI, eI, fun _ _ _ h hb => h.new hb, fun _ _ _ h hb => h.new hb, fun _ _ _ h hb => h.new hb, trivial⟩
              · refine ⟨?_, ?_, ?_, ?_, ?_, ?_, ?_, ?_, ?_, ?_, ?_, trivial⟩
                · exact fun aa ww hb he hd => ob_plain rfl (load_bx rfl he.1 (Bx.new HS.out hb))
                · exact fun _ _ _ he hd => ob_mv rfl rfl he.2.1
                · exact fun _ _ _ he hd => ob_mv rfl rfl he.2.2.1
                · exact fun aa ww hb he hd => ob_plain rfl (idx_rs (by omega) rfl hd.1 hd.2.1)
                · exact fun aa ww hb he hd => ob_plain rfl (load_rw rfl hd.1 (Rs.newW HY.out (bthen HB2.out hb HB2.out.size)) (by omega))
                · exact fun _ _ _ he hd => ob_mv rfl rfl he.2.2.2.1
                · exact fun _ _ _ he hd => ob_mv rfl rfl he.2.2.2.2.1
                · exact fun aa ww hb he hd => ob_plain rfl (idx_rs (by omega) rfl hd.1 hd.2.1)
                · exact fun aa ww hb he hd => ob_plain rfl (load_rw rfl hd.1 (Rs.newW HR.out (bthen HB2.out hb HB2.out.size)) (by omega))
                · exact fun aa ww hb he hd => ob_plain rfl (gives_call2 _ _ _ _ rfl (by kernel_rfl) (mul_v (hd.1) (hd.2.1) (by have := HCap.out; omega)))
                · exact fun aa ww hb he hd => ob_plain rfl (gives_call2 _ _ _ _ rfl (by kernel_rfl) (add_v (hd.1) (hd.2.1.rw) (by have := HCap.out; omega)))
              intro vs w5 hb hR _
              have r47 : Rv (bk + (by_ + b) + 1) ((sm (fun l => Y l * A l j) i) + ((Y i) * ((A i) j))) (vs 10) w5 := hR 10 (by decide)
              clear hR
              simp only [putsL, Nat.zero_add, Nat.reduceAdd, List.take_succ_cons, List.take_zero, Act.put, List.setIfInBounds_toArray, List.set_cons_zero, List.set_cons_succ]
              show wpAny _ _ _ _ 1 _ _ _
              refine wpAny_next (i := 11) (by kernel_rfl) rfl rfl (store_row (v := vs 10) (g := g8) (j := 0) (n := 1) (b := bk + (by_ + b) + 1) (x := sm (fun l => Y l * A l j) i + Y i * A i j) rfl rfl rfl rfl (HS.out.new hb).rb (by omega) r47.rw ?_)
              intro wb kp hg hsz hR
              have hbe : bk + (by_ + b) + 1 = 2 + (i + 1) * c := by rw [HBk.out, Nat.succ_mul, HC.out]; omega
              have HXa := Lib.hid (RB.bx (hR (fun _ v => Rw (2 + (i + 1) * c) (sm (fun l => Y l * A l j) (i + 1)) v wb) (fun l u hl hne _ => absurd hl (by omega)) (by
                have h := r47.rw.keepN kp
                rw [hbe] at h
                exact h)))
              have HQa := Lib.hid ((HQ2.out.keep hb).grown hg (fun e => by injection e with e; exact HN8.out e))
              have HBa := Lib.hid (show Below w.heap.size w wb from (bthen HB2.out hb HB2.out.size).grown hg (bthen HB2.out hb HB2.out.size).size (fun x hx => by cases hx; exact HW.out))
              clear hb kp hg hsz hR r47 hbe
              refine wpAny_end (by kernel_rfl) (calm_normal ?_) _
              go_wp2_with fail
              go_roundg (gk - 1)
              case measure => omega
              case rel => exact ⟨i + 1, by go_num, by omega, Lib.hid ⟨HXa.out, HQa.out, HBa.out⟩⟩
            · obtain rfl : m = i := by omega
              obtain ⟨adL, -, -, -, -, -, -, -, rfl, -⟩ := HLs.out.at_ (show j < nl by omega)
              go_upto_region 12 with (fail)
              by_cases hq0 : sm (fun l => Y l * A l j) m < L j
              · have hq : decide (rcq (sm (fun l => Y l * A l j) m) (L j) < 0) = true := rcq_ltd.trans (decide_eq_true hq0)
                refine wp_region_each (kss := [[], [], [], [(1, 50), (2, 51)], [(3, 52)], [(0, 49), (4, 53)], [(5, 54)]]) [(8, .pointer (some ⟨g8, 0, none⟩)), (2, .slice (some adL) nl cL), (7, .int .i64 ((j : Int)))] [Rw (bk) (sm (fun l => Y l * A l j) m), EV (.slice (some adL) nl cL), EV (.int .i64 ((j : Int))), EV (.pointer (some (Addr.add adL (j * 3)))), Rw (bl) (L j), EV (.int .i64 (rcq (sm (fun l => Y l * A l j) m) (L j))), EV (.bool true)] (by kernel_rfl) (by kernel_rfl) ⟨rfl, rfl, rfl, trivial⟩ ?_ ?_ ?_
                · exact ⟨fun _ _ _ h hb => h.new hb, eI, eI, eI, fun _ _ _ h hb => h.new hb, eI, eI, trivial⟩
                · refine ⟨?_, ?_, ?_, ?_, ?_, ?_, ?_, trivial⟩
                  · exact fun aa ww hb he hd => ob_plain rfl (load_bx rfl he.1 (Bx.new HS.out hb))
                  · exact fun _ _ _ he hd => ob_mv rfl rfl he.2.1
                  · exact fun _ _ _ he hd => ob_mv rfl rfl he.2.2.1
                  · exact fun aa ww hb he hd => ob_plain rfl (idx_rs (by omega) rfl hd.1 hd.2.1)
                  · exact fun aa ww hb he hd => ob_plain rfl (load_rw rfl hd.1 (Rs.newW HLs.out (bthen HB2.out hb HB2.out.size)) (by omega))
                  · exact fun aa ww hb he hd => ob_plain rfl (gives_call2 _ _ _ _ rfl (by kernel_rfl) (cmp_v (hd.1) (hd.2.1) (by have := HCap.out; omega)))
                  · exact fun aa ww hb he hd => ob_plain rfl (gives_lt_int (rcq (sm (fun l => Y l * A l j) m) (L j)) 0 .i64 _ _ _ _ rfl hd.1 rfl ⟨congrArg Value.bool (hq), Below.refl _ _⟩)
                intro vs w5 hb hR
                have e55 : vs 6 = .bool true := hR 6 (by decide)
                clear hR
                simp only [putsL, Nat.zero_add, Nat.reduceAdd, List.take_succ_cons, List.take_zero, Act.put, List.setIfInBounds_toArray, List.set_cons_zero, List.set_cons_succ]
                rw [e55]
                clear e55
                go_wp2_with fail
                go_ret
                exact ⟨false, rfl, bthen HB2.out hb HB2.out.size, by simp; intro h; have := h.ge j hj; grind⟩
              · have hq : decide (rcq (sm (fun l => Y l * A l j) m) (L j) < 0) = false := rcq_ltd.trans (decide_eq_false hq0)
                refine wp_region_each (kss := [[], [], [], [(1, 50), (2, 51)], [(3, 52)], [(0, 49), (4, 53)], [(5, 54)]]) [(8, .pointer (some ⟨g8, 0, none⟩)), (2, .slice (some adL) nl cL), (7, .int .i64 ((j : Int)))] [Rw (bk) (sm (fun l => Y l * A l j) m), EV (.slice (some adL) nl cL), EV (.int .i64 ((j : Int))), EV (.pointer (some (Addr.add adL (j * 3)))), Rw (bl) (L j), EV (.int .i64 (rcq (sm (fun l => Y l * A l j) m) (L j))), EV (.bool false)] (by kernel_rfl) (by kernel_rfl) ⟨rfl, rfl, rfl, trivial⟩ ?_ ?_ ?_
                · exact ⟨fun _ _ _ h hb => h.new hb, eI, eI, eI, fun _ _ _ h hb => h.new hb, eI, eI, trivial⟩
                · refine ⟨?_, ?_, ?_, ?_, ?_, ?_, ?_, trivial⟩
                  · exact fun aa ww hb he hd => ob_plain rfl (load_bx rfl he.1 (Bx.new HS.out hb))
                  · exact fun _ _ _ he hd => ob_mv rfl rfl he.2.1
                  · exact fun _ _ _ he hd => ob_mv rfl rfl he.2.2.1
                  · exact fun aa ww hb he hd => ob_plain rfl (idx_rs (by omega) rfl hd.1 hd.2.1)
                  · exact fun aa ww hb he hd => ob_plain rfl (load_rw rfl hd.1 (Rs.newW HLs.out (bthen HB2.out hb HB2.out.size)) (by omega))
                  · exact fun aa ww hb he hd => ob_plain rfl (gives_call2 _ _ _ _ rfl (by kernel_rfl) (cmp_v (hd.1) (hd.2.1) (by have := HCap.out; omega)))
                  · exact fun aa ww hb he hd => ob_plain rfl (gives_lt_int (rcq (sm (fun l => Y l * A l j) m) (L j)) 0 .i64 _ _ _ _ rfl hd.1 rfl ⟨congrArg Value.bool (hq), Below.refl _ _⟩)
                intro vs w5 hb hR
                have e55 : vs 6 = .bool false := hR 6 (by decide)
                clear hR
                simp only [putsL, Nat.zero_add, Nat.reduceAdd, List.take_succ_cons, List.take_zero, Act.put, List.setIfInBounds_toArray, List.set_cons_zero, List.set_cons_succ]
                rw [e55]
                clear e55
                have HQn := Lib.hid (HQ2.out.keep hb)
                have HBn := Lib.hid (bthen HB2.out hb HB2.out.size)
                clear hq hb HQ2 HB2
                go_wp2_with fail
                go_roundg (G - 1)
                case measure => omega
                case rel => exact ⟨j + 1, by go_num, by omega, Lib.hid ⟨fun l hl => by
                  by_cases hli : l = j
                  · rw [hli]; grind
                  · exact HJ.out l (by omega), HQn.out, HBn.out⟩⟩
        · obtain rfl : n = j := by omega
          go_wp2_with fail
          go_ret
          exact ⟨true, rfl, HB.out, by simp; exact ⟨HPp.out, HJ.out⟩⟩
end Go.Proofs.Ytamcibmjpmibdaa
namespace Go.Proofs.Ytamcibmjpmibdaa
set_option linter.unusedVariables false

theorem sm_mulr (a : Rat) (f : Nat → Rat) (n : Nat) : sm (fun i => f i * a) n = sm f n * a := by
  rw [sm_congr (g := fun i => a * f i) (fun i _ => by grind), sm_mul]; grind
theorem sm_dual (n m : Nat) (A : Nat → Nat → Rat) (x y : Nat → Rat) : sm (fun j => sm (fun i => y i * A i j) m * x j) n = sm (fun i => y i * sm (fun j => A i j * x j) n) m := by
  rw [sm_congr (g := fun j => sm (fun i => y i * A i j * x j) m) (fun j _ => by rw [sm_mulr])]
  rw [sm_swap]
  refine sm_congr fun i _ => ?_
  rw [← sm_mul]
  exact sm_congr fun j _ => by grind
theorem mul_le_r {a b c : Rat} (h : a ≤ b) (hc : 0 ≤ c) : a * c ≤ b * c := Rat.mul_le_mul_of_nonneg_right h hc
theorem mul_le_l {a b c : Rat} (h : a ≤ b) (hc : 0 ≤ c) : c * a ≤ c * b := Rat.mul_le_mul_of_nonneg_left h hc
section
variable {n m : Nat} {A : Nat → Nat → Rat} {B C x y : Nat → Rat}
/-- Weak duality. -/
theorem weak (hx : Primal n m A B x) (hy : DualF n m A C y) : sm (fun j => C j * x j) n ≤ sm (fun i => B i * y i) m := by
  have h1 : sm (fun j => C j * x j) n ≤ sm (fun j => sm (fun i => y i * A i j) m * x j) n := sm_le fun j hj => mul_le_r (hy.ge j hj) (hx.nonneg j hj)
  have h2 : sm (fun i => y i * sm (fun j => A i j * x j) n) m ≤ sm (fun i => B i * y i) m := sm_le fun i hi => by
    have := mul_le_l (hx.le i hi) (hy.nonneg i hi)
    grind
  rw [sm_dual] at h1
  grind
theorem not_inf (hx : Primal n m A B x) (hy : DualF n m A (fun _ => 0) y) (hn : sm (fun i => B i * y i) m < 0) : False := by
  have h := weak hx hy
  rw [sm_zero (fun j _ => by grind)] at h
  grind
theorem not_unb {r : Nat → Rat} (hr : Primal n m A (fun _ => 0) r) (hy : DualF n m A C y) (hp : 0 < sm (fun j => C j * r j) n) : False := by
  have h := weak hr hy
  rw [sm_zero (f := fun i => (0 : Rat) * y i) (fun j _ => by grind)] at h
  grind
variable {out : Nat} {X Y Ray : Nat → Rat} {v : Rat}
theorem Cert.no1 (h : Cert n m A B C out X Y Ray v) (hx : Primal n m A B x) : out ≠ 1 := by
  rcases h with ⟨rfl, _⟩ | ⟨rfl, h1, h2, _⟩ | ⟨rfl, _⟩
  · omega
  · exact absurd (not_inf hx h1 h2) (by simp)
  · omega
theorem Cert.no2 (h : Cert n m A B C out X Y Ray v) (hy : DualF n m A C y) : out ≠ 2 := by
  rcases h with ⟨rfl, _⟩ | ⟨rfl, _⟩ | ⟨rfl, h1, h2, h3, _⟩
  · omega
  · omega
  · exact absurd (not_unb h2 hy h3) (by simp)
theorem Cert.no0 (h : Cert n m A B C out X Y Ray v) {r : Nat → Rat} (hr : Primal n m A (fun _ => 0) r) (hp : 0 < sm (fun j => C j * r j) n) : out ≠ 0 := by
  rcases h with ⟨rfl, h1, h2, _⟩ | ⟨rfl, _⟩ | ⟨rfl, _⟩
  · exact absurd (not_unb hr h2 hp) (by simp)
  · omega
  · omega
theorem Cert.lt (h : Cert n m A B C out X Y Ray v) : out < 3 := by
  rcases h with ⟨rfl, _⟩ | ⟨rfl, _⟩ | ⟨rfl, _⟩ <;> omega
theorem Cert.of0 (h : Cert n m A B C 0 X Y Ray v) : Primal n m A B X ∧ DualF n m A C Y ∧ sm (fun j => C j * X j) n = v ∧ sm (fun i => B i * Y i) m = v := by
  rcases h with ⟨_, h⟩ | ⟨h, _⟩ | ⟨h, _⟩
  · exact h
  · omega
  · omega
theorem Cert.of2 (h : Cert n m A B C 2 X Y Ray v) : Primal n m A B X ∧ Primal n m A (fun _ => 0) Ray ∧ 0 < sm (fun j => C j * Ray j) n ∧ v = 0 := by
  rcases h with ⟨h, _⟩ | ⟨h, _⟩ | ⟨_, h⟩
  · omega
  · omega
  · exact h
theorem Cert.outs (h : Cert n m A B C out X Y Ray v) : out = 0 ∨ out = 1 ∨ out = 2 := by
  have := h.lt; omega
/-- The optimum is its own: any point and dual point of one value. -/
theorem Cert.opt (h : Cert n m A B C out X Y Ray v) (hx : Primal n m A B x) (hy : DualF n m A C y) {u : Rat} (h1 : sm (fun j => C j * x j) n = u) (h2 : sm (fun i => B i * y i) m = u) : out = 0 ∧ v = u := by
  have ho : out = 0 := by have := h.no1 hx; have := h.no2 hy; have := h.lt; omega
  subst ho
  obtain ⟨g1, g2, g3, g4⟩ := h.of0
  have a1 := weak hx g2
  have a2 := weak g1 hy
  refine ⟨rfl, ?_⟩
  grind
variable {out' : Nat} {X' Y' Ray' : Nat → Rat} {v' : Rat}
end
/-- The example of the document. -/
def exA (i j : Nat) : Rat := if i = 0 then (if j = 0 then 1 else 2) else (if j = 0 then 3 else 1)
def exB (i : Nat) : Rat := if i = 0 then 4 else 6
theorem example_opt {out : Nat} {X Y Ray : Nat → Rat} {v : Rat} (h : Cert 2 2 exA exB (fun _ => 1) out X Y Ray v) : out = 0 ∧ v = 14 / 5 := by
  refine h.opt (x := fun j => if j = 0 then 8 / 5 else 6 / 5) (y := fun i => if i = 0 then 2 / 5 else 1 / 5) ⟨fun j hj => ?_, fun i hi => ?_⟩ ⟨fun j hj => ?_, fun i hi => ?_⟩ ?_ ?_
  · have : j = 0 ∨ j = 1 := by omega
    rcases this with rfl | rfl <;> simp <;> grind
  · have : i = 0 ∨ i = 1 := by omega
    rcases this with rfl | rfl <;> simp [sm, exA, exB] <;> grind
  · have : j = 0 ∨ j = 1 := by omega
    rcases this with rfl | rfl <;> simp <;> grind
  · have : i = 0 ∨ i = 1 := by omega
    rcases this with rfl | rfl <;> simp [sm, exA, exB] <;> grind
  · simp [sm]; grind
  · simp [sm, exB]; grind
end Go.Proofs.Ytamcibmjpmibdaa
namespace Go.Proofs.Ytamcibmjpmibdaa
open Go.RowKit
set_option linter.unusedVariables false
set_option linter.unusedSimpArgs false

abbrev UD : Value → World → Prop := fun zz _ => zz = undef
theorem sI {x : Value} : ∀ (v : Value) (w w' : World), (fun (zz : Value) (_ : World) => zz = x) v w → Below w.heap.size w w' → (fun (zz : Value) (_ : World) => zz = x) v w' := fun _ _ _ h _ => h
theorem rcq_eqb {x y : Rat} : (rcq x y == 0) = decide (x = y) := by
  by_cases h : x < y
  · rw [rcq_lt h, decide_eq_false (by grind)]; rfl
  · by_cases h2 : y < x
    · rw [rcq_gt h2, decide_eq_false (by grind)]; rfl
    · rw [rcq_eq (by grind), decide_eq_true (by grind)]; rfl
theorem keq0 {k : Nat} : ((k : Int) == 0) = decide (k = 0) := by
  by_cases h : k = 0
  · subst h; rfl
  · rw [decide_eq_false h]; simp; exact h
theorem sign_ltd {x : Rat} : decide (x.num.sign < 0) = decide (x < 0) := sign_lt
theorem sign_gtd {x : Rat} : decide (x.num.sign > 0) = decide (0 < x) := by
  rcases sign_cases x with ⟨h1, h2⟩ | ⟨h1, h2⟩ | ⟨h1, h2⟩ <;> rw [h2]
  · rw [decide_eq_false (show ¬ 0 < x by grind)]; rfl
  · rw [decide_eq_false (show ¬ 0 < x by grind)]; rfl
  · rw [decide_eq_true (show 0 < x by grind)]; rfl
section
variable {o : Oper} {a : Act} {w : World} {t u : Tmp}
theorem RB.newW {w w' : World} {g n b : Nat} {f : Nat → Rat} (h : RB w g n (PW w b f)) (hb : Below w.heap.size w w') : RB w' g n (PW w' b f) := h.below hb fun _ _ _ hv => PW.keep hv (KeepsN.below hb)
theorem gives_mkrat {n : Nat} {x y : Operand} (ho : o.op = .makeSlice 28 x y) (hx : a.eval x = .int .i64 (n : Int)) (hy : a.eval y = .int .i64 (n : Int)) (hn : n ≤ 1000000) : gives Try.prog o a.eval w (fun v w' => (∃ g, v = .slice (some ⟨g, 0, none⟩) n n ∧ RB w' g n (PW w' 1 (fun _ => 0))) ∧ Below w.heap.size w w') := by
  have h : (execOp a.eval o).run Try.prog w = .ok (.value (.slice (some ⟨w.heap.size, 0, none⟩) n n)) (w.alloc (.cells (zrow n) 41)) := by
    unfold execOp
    rw [ho]
    simp only [hx, hy]
    simp [Sem.run_bind, mk_rat n hn w]
  unfold gives
  rw [h]
  exact ⟨⟨_, rfl, rb_zrow w n _ (fun _ _ => rw_zero _)⟩, al _ _⟩
theorem gives_built3 {ty : TypeId} {i j k : Nat} {x y z : Operand} {u v r : Value} {cells : Array Value} (ho : o.op = .build ty #[(i, x), (j, y), (k, z)]) (hx : a.eval x = u) (hy : a.eval y = v) (hz : a.eval z = r) (hf : Try.prog.built ty [(i, u), (j, v), (k, r)] = some cells) : gives Try.prog o a.eval w (fun v w' => v = .agg cells ∧ Below w.heap.size w w') := by
  refine gives_val (.agg cells) ?_ ⟨rfl, Below.refl _ _⟩
  have e : (#[(i, x), (j, y), (k, z)].map fun (i, x) => (i, a.eval x)).toList = [(i, u), (j, v), (k, r)] := by simp [hx, hy, hz]
  unfold execOp
  simp only [ho, Sem.run_bind]
  rw [run_build w ty _ cells (by rw [e]; exact hf)]
  rfl
theorem gives_built2 {ty : TypeId} {i j : Nat} {x y : Operand} {u v : Value} {cells : Array Value} (ho : o.op = .build ty #[(i, x), (j, y)]) (hx : a.eval x = u) (hy : a.eval y = v) (hf : Try.prog.built ty [(i, u), (j, v)] = some cells) : gives Try.prog o a.eval w (fun v w' => v = .agg cells ∧ Below w.heap.size w w') := by
  refine gives_val (.agg cells) ?_ ⟨rfl, Below.refl _ _⟩
  have e : (#[(i, x), (j, y)].map fun (i, x) => (i, a.eval x)).toList = [(i, u), (j, v)] := by simp [hx, hy]
  unfold execOp
  simp only [ho, Sem.run_bind]
  rw [run_build w ty _ cells (by rw [e]; exact hf)]
  rfl
/-- A new box for a problem. -/
def Zp (B : Nat) (v : Value) (w : World) : Prop := ∃ g, v = .pointer (some ⟨g, 0, none⟩) ∧ B ≤ g ∧ Blk w g 31 #[.slice none 0 0, .slice none 0 0, .slice none 0 0]
theorem Zp.new {B : Nat} {v : Value} {w w' : World} (h : Zp B v w) (hb : Below w.heap.size w w') : Zp B v w' := by
  obtain ⟨g, h1, h2, h3⟩ := h
  exact ⟨g, h1, h2, h3.keep hb⟩
theorem alloc_prb {w0 : World} (ho : o.op = .alloc 31) (hb : Below w0.heap.size w0 w) : gives Try.prog o a.eval w (fun v w' => (Zp w0.heap.size v w' ∧ Below w.heap.size w w') ∧ Fresh v w w') := by
  have hr : (execOp a.eval o).run Try.prog w = .ok (.value (.pointer (some ⟨w.heap.size, 0, none⟩))) (w.alloc (.cells #[.slice none 0 0, .slice none 0 0, .slice none 0 0] 31)) := by
    unfold execOp
    rw [ho]
    go_simp
  unfold gives
  rw [hr]
  exact ⟨⟨⟨_, rfl, hb.size, Blk.new _ _ _⟩, al _ _⟩, _, rfl, Nat.le_refl _, by simp⟩
theorem fld_sol {g k : Nat} (ho : o.op = .fieldAddr 43 (.tmp t) k) (hk : k < 5) (h : tv a t = .pointer (some ⟨g, 0, none⟩)) : gives Try.prog o a.eval w (fun v w' => v = .pointer (some ⟨g, k, none⟩) ∧ Below w.heap.size w w') := by
  refine gives_val (.pointer (some ⟨g, k, none⟩)) ?_ ⟨rfl, Below.refl _ _⟩
  have : k = 0 ∨ k = 1 ∨ k = 2 ∨ k = 3 ∨ k = 4 := by omega
  rcases this with rfl | rfl | rfl | rfl | rfl <;> (unfold execOp; rw [ho]; simp only [eval_tmp, h]; go_simp)
theorem load_sv {g b : Nat} {x : Rat} {v0 v1 v2 v3 : Value} {s : Bool} {A B : Option Addr} {k c m d : Nat} (ho : o.op = .load 41 (.tmp t)) (hx : tv a t = .pointer (some ⟨g, 4, none⟩)) (hb : Blk w g 43 #[v0, v1, v2, v3, .bool s, .slice A k c, .slice B m d]) (hv : Rw b x (.agg #[.bool s, .slice A k c, .slice B m d]) w) : gives Try.prog o a.eval w (fun v w' => Rw b x v w' ∧ Below w.heap.size w w') := by
  have hl := run_load_rat w ⟨g, 4, none⟩ (.bool s) (.slice A k c) (.slice B m d) (by rw [hb.cell]; rfl) (by show w.cell? ⟨g, 5, none⟩ = _; rw [hb.cell]; rfl) (by show w.cell? ⟨g, 6, none⟩ = _; rw [hb.cell]; rfl)
  refine gives_val (.agg #[.bool s, .slice A k c, .slice B m d]) ?_ ⟨hv, Below.refl _ _⟩
  unfold execOp
  rw [ho]
  simp only [eval_tmp, hx, Instr.loadAt, Instr.sureAddr, Sem.run_bind, Sem.run_pure, Result.andThen_ok, hl]
theorem load_sol {g : Nat} {v0 v1 v2 v3 v4 v5 v6 : Value} (ho : o.op = .load 43 (.tmp t)) (hx : tv a t = .pointer (some ⟨g, 0, none⟩)) (hb : Blk w g 43 #[v0, v1, v2, v3, v4, v5, v6]) : gives Try.prog o a.eval w (fun v w' => v = .agg #[v0, v1, v2, v3, v4, v5, v6] ∧ Below w.heap.size w w') :=
  gives_load_blk 43 (.tmp t) ho g 43 _ _ hx hb Try.underlying43 rfl (by kernel_rfl) ⟨rfl, Below.refl _ _⟩
end
theorem built_prb (AC AA AB : Option Addr) (n cC m cA k cB : Nat) : Try.prog.built 31 [(0, .slice AC n cC), (1, .slice AA m cA), (2, .slice AB k cB)] = some #[.slice AC n cC, .slice AA m cA, .slice AB k cB] := by kernel_rfl
/-- Stored whole: a problem into its box. -/
theorem store_prb {o : Oper} {a : Act} {w : World} {t u : Tmp} {g : Nat} {v0 v1 v2 u0 u1 u2 : Value} {K : Act → World → Prop} {Q : Exit → Act → World → Prop} (ho : o.op = .store 31 (.tmp t) (.tmp u)) (hd : o.dst = none) (ht : a.eval (.tmp t) = .pointer (some ⟨g, 0, none⟩)) (hu : a.eval (.tmp u) = .agg #[u0, u1, u2])
    (hr : Blk w g 31 #[v0, v1, v2]) (hcl : ∀ u ∈ [v0, v1, v2], ∀ x, u ≠ .int .u32 x) (h1 : #[u0, u1, u2].all (·.oneCell') = true)
    (next : ∀ w', KeepsN w w' → w.grownBy w' (some g) → w'.heap.size = w.heap.size → Blk w' g 31 #[u0, u1, u2] → K a w') : o.wp Try.prog a w K Q := by
  refine wp_store_mid 31 (.tmp t) (.tmp u) ho g 0 #[u0, u1, u2] ht hu (fun i hi => ⟨?_, hr.frozen _⟩) (by kernel_rfl) h1 ?_
  · rw [hr.cell]
    have hi7 : i < 3 := by simpa using hi
    rw [Nat.zero_add, Array.getElem?_eq_getElem hi7]; rfl
  · rw [hd]
    have b0 : Blk (w.setCell ⟨g, 0, none⟩ u0) g 31 #[u0, v1, v2] := hr.set_ 0 u0
    have b1 : Blk ((w.setCell ⟨g, 0, none⟩ u0).setCell ⟨g, 1, none⟩ u1) g 31 #[u0, u1, v2] := b0.set_ 1 u1
    have b2 : Blk (((w.setCell ⟨g, 0, none⟩ u0).setCell ⟨g, 1, none⟩ u1).setCell ⟨g, 2, none⟩ u2) g 31 #[u0, u1, u2] := b1.set_ 2 u2
    have q0 : ∀ x, v0 ≠ .int .u32 x := hcl v0 (by simp)
    have q1 : ∀ x, v1 ≠ .int .u32 x := hcl v1 (by simp)
    have q2 : ∀ x, v2 ≠ .int .u32 x := hcl v2 (by simp)
    have kp := ((KeepsN.blk hr (i := 0) (by show 0 < 3; omega) (by intro x; simpa using q0 x) u0).trans
      (KeepsN.blk b0 (i := 1) (by show 1 < 3; omega) (by intro x; simpa using q1 x) u1)).trans
      (KeepsN.blk b1 (i := 2) (by show 2 < 3; omega) (by intro x; simpa using q2 x) u2)
    exact next _ kp (only_setCells _ _ _ (World.grownBy.refl w _)) (by show (((w.setCell _ _).setCell _ _).setCell _ _).heap.size = _; simp only [size_setCell]) b2
end Go.Proofs.Ytamcibmjpmibdaa
namespace Go.Proofs.Ytamcibmjpmibdaa
open Go.RowKit
set_option linter.unusedVariables false
set_option linter.unusedSimpArgs false

/-- The cells of a row of pairs. -/
def pr2 (u v : Nat → Value) : Nat → List Value
  | 0 => []
  | n + 1 => pr2 u v n ++ [u n, v n]
theorem pr2_length (u v : Nat → Value) : ∀ n, (pr2 u v n).length = n * 2
  | 0 => rfl
  | n + 1 => by rw [pr2, List.length_append, pr2_length u v n]; simp; omega
theorem pr2_at {u v : Nat → Value} : ∀ {n k : Nat}, k < n → (pr2 u v n)[k * 2]? = some (u k) ∧ (pr2 u v n)[k * 2 + 1]? = some (v k)
  | 0, k, h => by omega
  | n + 1, k, h => by
    have hl := pr2_length u v n
    by_cases hk : k < n
    · have h1 := pr2_at (u := u) (v := v) hk
      rw [pr2, List.getElem?_append_left (by omega), List.getElem?_append_left (by omega)]
      exact h1
    · obtain rfl : k = n := by omega
      rw [pr2, List.getElem?_append_right (by omega), List.getElem?_append_right (by omega), hl]
      simp [show k * 2 + 1 - k * 2 = 1 by omega]
/-- The cells of a row of fractions. -/
def qsL (f : Nat → Rat) (n : Nat) : List Value := pr2 (fun i => .int .i64 (f i).num) (fun i => .int .i64 ((f i).den : Int)) n
def smL (N : Nat → Int) (D : Nat → Nat) (n : Nat) : List Value := pr2 (fun i => .int .i8 (N i)) (fun i => .int .u8 (D i : Int)) n
/-- Smalls as the types hold them. -/
def SmB (N : Nat → Int) (D : Nat → Nat) (n : Nat) : Prop := ∀ i, i < n → -128 ≤ N i ∧ N i ≤ 127 ∧ D i ≤ 255
theorem info_q : (Try.prog.info? 58).map (fun i => (i.zero, i.size, i.bytes)) = some (some (.agg #[.int .i64 0, .int .i64 0]), 2, 16) := by kernel_rfl
theorem info_small : (Try.prog.info? 52).map (fun i => (i.zero, i.size, i.bytes)) = some (some (.agg #[.int .i8 0, .int .u8 0]), 2, 2) := by kernel_rfl
theorem info_qrows : (Try.prog.info? 32).map (fun i => (i.zero, i.size, i.bytes)) = some (some (.slice none 0 0), 1, 24) := by kernel_rfl
section
variable {ops : Array Oper} {o : Oper} {a : Act} {w : World} {K : Act → World → Prop} {Q : Exit → Act → World → Prop} {E : Prop} {t : Tmp}
theorem wp_app_q (s x : Operand) (ho : o.op = .call { callee := .builtin .append, args := #[s, x], argTypes := #[32, 32] })
    (base : Nat) (v : Value) (n : Nat) (xs : List Value) (hs : a.eval s = v) (hown : OwnC w base 58 2 v n xs) (g : Nat) (y z : Int) (hx : a.eval x = .slice (some ⟨g, 0, none⟩) 1 1) (hb : Blk w g 58 #[.int .i64 y, .int .i64 z])
    (hk : n ≤ 1000000) (hbase : base ≤ w.heap.size)
    (h : ∀ v' w', OwnC w' base 58 2 v' (n + 1) (xs ++ [.int .i64 y, .int .i64 z]) → w.grownBy w' v.ownBlock → (v'.ownBlock = v.ownBlock ∨ v'.ownBlock = some w.heap.size) → KeepsN w w' → K (a.put o.dst v') w') : o.wp Try.prog a w K Q := by
  obtain ⟨i, hi, hz, hs1, hby⟩ := info_parts info_q
  have hr : Reads w w.heap.size 2 (some ⟨g, 0, none⟩) 1 [.int .i64 y, .int .i64 z] := ⟨rfl, fun _ => ⟨_, rfl, hb.lt, fun j u hu => by
    rw [addr_zero, hb.cell]; simpa using hu⟩⟩
  refine wp_append_clean s x 32 ho base 58 i _ 2 16 Try.underlying32 hi hz hs1 hby rfl (by omega) (by intro u hu z hz'; simp [Value.cells] at hu; subst hu; cases hz') v n xs hs hown w.heap.size _ 1 1 _ hx hr (by simp; exact ⟨rfl, rfl⟩) (by intro u hu z hz'; simp at hu; rcases hu with rfl | rfl <;> cases hz') (by simp only [maxLen]; omega) (by omega) hbase h
theorem wp_app_qrows (s x : Operand) (ho : o.op = .call { callee := .builtin .append, args := #[s, x], argTypes := #[33, 33] })
    (base : Nat) (v : Value) (n : Nat) (xs : List Value) (hs : a.eval s = v) (hown : OwnC w base 32 1 v n xs) (g : Nat) (A : Option Addr) (k c : Nat) (hx : a.eval x = .slice (some ⟨g, 0, none⟩) 1 1) (hb : Blk w g 32 #[.slice A k c])
    (hk : n ≤ 1000000) (hbase : base ≤ w.heap.size)
    (h : ∀ v' w', OwnC w' base 32 1 v' (n + 1) (xs ++ [.slice A k c]) → w.grownBy w' v.ownBlock → (v'.ownBlock = v.ownBlock ∨ v'.ownBlock = some w.heap.size) → KeepsN w w' → K (a.put o.dst v') w') : o.wp Try.prog a w K Q := by
  obtain ⟨i, hi, hz, hs1, hby⟩ := info_parts info_qrows
  have hr : Reads w w.heap.size 1 (some ⟨g, 0, none⟩) 1 [.slice A k c] := ⟨rfl, fun _ => ⟨_, rfl, hb.lt, fun j u hu => by
    rw [addr_zero, hb.cell]; simpa using hu⟩⟩
  refine wp_append_clean s x 33 ho base 32 i _ 1 24 Try.underlying33 hi hz hs1 hby rfl (by omega) (by intro u hu z hz'; simp [Value.cells] at hu; subst hu; cases hz') v n xs hs hown w.heap.size _ 1 1 _ hx hr (by simp; rfl) (by intro u hu z hz'; simp at hu; subst hu; cases hz') (by simp only [maxLen]; omega) (by omega) hbase h
theorem bs_q {y z : Int} (ho : o.op = .buildSlice 32 1 #[(0, .tmp t)]) (h : tv a t = .agg #[.int .i64 y, .int .i64 z]) (hK : K (a.put o.dst (.slice (some ⟨w.heap.size, 0, none⟩) 1 1)) (w.alloc (.cells #[.int .i64 y, .int .i64 z] 58))) : o.wp Try.prog a w K Q := by
  unfold Oper.wp execOp
  rw [ho]
  have hh : a.tmps[t]?.getD undef = .agg #[.int .i64 y, .int .i64 z] := by simpa [tv] using h
  go_simp
  exact hK
theorem bs_rat {s : Bool} {A B : Option Addr} {k c m d : Nat} (ho : o.op = .buildSlice 28 1 #[(0, .tmp t)]) (h : tv a t = .agg #[.bool s, .slice A k c, .slice B m d]) (hK : K (a.put o.dst (.slice (some ⟨w.heap.size, 0, none⟩) 1 1)) (w.alloc (.cells #[.bool s, .slice A k c, .slice B m d] 41))) : o.wp Try.prog a w K Q := by
  unfold Oper.wp execOp
  rw [ho]
  have hh : a.tmps[t]?.getD undef = .agg #[.bool s, .slice A k c, .slice B m d] := by simpa [tv] using h
  go_simp
  exact hK
/-- Elements of rows of pairs. -/
theorem idx_qs {ad : Addr} {n c k : Nat} {y : Operand} (hk : k < n) (ho : o.op = .indexAddr 32 (.tmp t) y) (h : tv a t = .slice (some ad) n c) (h2 : a.eval y = .int .i64 (k : Int)) : gives Try.prog o a.eval w (fun v w' => v = .pointer (some (ad.add (k * 2))) ∧ Below w.heap.size w w') := by
  refine gives_val (.pointer (some (ad.add (k * 2)))) ?_ ⟨rfl, Below.refl _ _⟩
  have i1 : (0 : Int) ≤ (k : Int) := by omega
  have i2 : (k : Int) < (n : Int) := by omega
  unfold execOp; rw [ho]; simp only [eval_tmp, h, h2]; go_simp
theorem idx_small {ad : Addr} {n c k : Nat} {y : Operand} (hk : k < n) (ho : o.op = .indexAddr 22 (.tmp t) y) (h : tv a t = .slice (some ad) n c) (h2 : a.eval y = .int .i64 (k : Int)) : gives Try.prog o a.eval w (fun v w' => v = .pointer (some (ad.add (k * 2))) ∧ Below w.heap.size w w') := by
  refine gives_val (.pointer (some (ad.add (k * 2)))) ?_ ⟨rfl, Below.refl _ _⟩
  have i1 : (0 : Int) ≤ (k : Int) := by omega
  have i2 : (k : Int) < (n : Int) := by omega
  unfold execOp; rw [ho]; simp only [eval_tmp, h, h2]; go_simp
theorem fld_q {p : Addr} {k : Nat} (ho : o.op = .fieldAddr 58 (.tmp t) k) (hk : k < 2) (h : tv a t = .pointer (some p)) : gives Try.prog o a.eval w (fun v w' => v = .pointer (some (p.add k)) ∧ Below w.heap.size w w') := by
  refine gives_val (.pointer (some (p.add k))) ?_ ⟨rfl, Below.refl _ _⟩
  have : k = 0 ∨ k = 1 := by omega
  rcases this with rfl | rfl <;> (unfold execOp; rw [ho]; simp only [eval_tmp, h]; go_simp)
end
theorem run_load_small (w : World) (p : Addr) (x y : Value) (h0 : w.cell? p = some x) (h1 : w.cell? (p.add 1) = some y) : (loadVar 52 p).run Try.prog w = .ok (.agg #[x, y]) w := by
  obtain ⟨i, hi, hz, hs1, hby⟩ := info_parts info_small
  have hl := run_loadCells_list (P := Try.prog) w p [x, y] (fun j v hv => by
    match j with
    | 0 => simp at hv; subst hv; simpa [Addr.add] using h0
    | 1 => simp at hv; subst hv; exact h1
    | j + 2 => simp at hv)
  have hagg : (isAgg 52).run Try.prog w = .ok true w := by
    unfold isAgg
    rw [Sem.run_bind, run_underlying Try.underlying52 w]
    rfl
  simp only [List.length_cons, List.length_nil, Nat.zero_add, Nat.reduceAdd] at hl
  simp [loadVar, Sem.run_bind, hagg, sizeOf, typeInfo, hi, hs1, hl]
theorem run_load_q (w : World) (p : Addr) (x y : Value) (h0 : w.cell? p = some x) (h1 : w.cell? (p.add 1) = some y) : (loadVar 58 p).run Try.prog w = .ok (.agg #[x, y]) w := by
  obtain ⟨i, hi, hz, hs1, hby⟩ := info_parts info_q
  have hl := run_loadCells_list (P := Try.prog) w p [x, y] (fun j v hv => by
    match j with
    | 0 => simp at hv; subst hv; simpa [Addr.add] using h0
    | 1 => simp at hv; subst hv; exact h1
    | j + 2 => simp at hv)
  have hagg : (isAgg 58).run Try.prog w = .ok true w := by
    unfold isAgg
    rw [Sem.run_bind, run_underlying Try.underlying58 w]
    rfl
  simp only [List.length_cons, List.length_nil, Nat.zero_add, Nat.reduceAdd] at hl
  simp [loadVar, Sem.run_bind, hagg, sizeOf, typeInfo, hi, hs1, hl]
theorem Reads.pr {w : World} {B n k : Nat} {A : Option Addr} {u v : Nat → Value} (h : Reads w B 2 A n (pr2 u v n)) (hk : k < n) : ∃ ad, A = some ad ∧ ad.block < B ∧ w.cell? (ad.add (k * 2)) = some (u k) ∧ w.cell? ((ad.add (k * 2)).add 1) = some (v k) := by
  obtain ⟨ad, e, hb, hc⟩ := h.2 (by omega)
  obtain ⟨h1, h2⟩ := pr2_at (u := u) (v := v) hk
  exact ⟨ad, e, hb, hc _ _ h1, by rw [add_of_add]; exact hc _ _ h2⟩
section
variable {o : Oper} {a : Act} {w : World} {t : Tmp}
theorem load_small {B n k : Nat} {ad : Addr} {N : Nat → Int} {D : Nat → Nat} (ho : o.op = .load 52 (.tmp t)) (hx : tv a t = .pointer (some (ad.add (k * 2)))) (h : Reads w B 2 (some ad) n (smL N D n)) (hk : k < n) : gives Try.prog o a.eval w (fun v w' => v = .agg #[.int .i8 (N k), .int .u8 (D k : Int)] ∧ Below w.heap.size w w') := by
  obtain ⟨ad', e, hb, h0, h1⟩ := Reads.pr h hk
  injection e with e
  subst e
  refine gives_val (.agg #[.int .i8 (N k), .int .u8 (D k : Int)]) ?_ ⟨rfl, Below.refl _ _⟩
  unfold execOp
  rw [ho]
  simp only [eval_tmp, hx, Instr.loadAt, Instr.sureAddr, Sem.run_bind, Sem.run_pure, Result.andThen_ok, run_load_small w _ _ _ h0 h1]
theorem load_qs {B n k : Nat} {ad : Addr} {f : Nat → Rat} (ho : o.op = .load 58 (.tmp t)) (hx : tv a t = .pointer (some (ad.add (k * 2)))) (h : Reads w B 2 (some ad) n (qsL f n)) (hk : k < n) : gives Try.prog o a.eval w (fun v w' => v = QL (f k) ∧ Below w.heap.size w w') := by
  obtain ⟨ad', e, hb, h0, h1⟩ := Reads.pr h hk
  injection e with e
  subst e
  refine gives_val (QL (f k)) ?_ ⟨rfl, Below.refl _ _⟩
  unfold execOp
  rw [ho]
  simp only [eval_tmp, hx, Instr.loadAt, Instr.sureAddr, Sem.run_bind, Sem.run_pure, Result.andThen_ok, run_load_q w _ _ _ h0 h1]
  rfl
theorem load_qn {B n k : Nat} {ad : Addr} {f : Nat → Rat} (ho : o.op = .load 2 (.tmp t)) (hx : tv a t = .pointer (some ((ad.add (k * 2)).add 0))) (h : Reads w B 2 (some ad) n (qsL f n)) (hk : k < n) : gives Try.prog o a.eval w (fun v w' => v = .int .i64 (f k).num ∧ Below w.heap.size w w') := by
  obtain ⟨ad', e, hb, h0, h1⟩ := Reads.pr h hk
  injection e with e
  subst e
  exact load_i64 ho hx (by rw [show (ad.add (k * 2)).add 0 = ad.add (k * 2) from by simp [Addr.add]]; exact h0)
theorem load_qd {B n k : Nat} {ad : Addr} {f : Nat → Rat} (ho : o.op = .load 2 (.tmp t)) (hx : tv a t = .pointer (some ((ad.add (k * 2)).add 1))) (h : Reads w B 2 (some ad) n (qsL f n)) (hk : k < n) : gives Try.prog o a.eval w (fun v w' => v = .int .i64 ((f k).den : Int) ∧ Below w.heap.size w w') := by
  obtain ⟨ad', e, hb, h0, h1⟩ := Reads.pr h hk
  injection e with e
  subst e
  exact load_i64 ho hx h1
end
theorem RB.bn {b g : Nat} {x : Rat} {w : World} (h : RB w g 1 (fun _ v => Rv b x v w)) : Bn b x g w := by
  obtain ⟨cs, h1, h2, h3⟩ := h
  obtain ⟨s, A, k, c, B, m, d, q0, q1, q2, q3⟩ := h3 0 (by omega)
  have e : cs = #[.bool s, .slice A k c, .slice B m d] := by
    have hl : cs.toList.length = 3 := by rw [h2]
    apply Array.ext'
    match hcs : cs.toList, hl with
    | [a0, a1, a2], _ =>
      rw [hcs] at q0 q1 q2
      simp at q0 q1 q2
      rw [q0, q1, q2]
  subst e
  obtain ⟨s', A', n', c', B', m', d', e, h⟩ := q3
  injection e with e; injection e with e; injection e with e0 e; injection e with e1 e; injection e with e2 _
  injection e0 with e0; injection e1 with e1 e1' e1''; injection e2 with e2 e2' e2''
  subst e0 e1 e1' e1'' e2 e2' e2''
  exact ⟨_, _, _, _, _, _, _, h1, h⟩
theorem of_q (x : Rat) (h1 : x.num.natAbs ≤ 1073741824) (h2 : x.den ≤ 1073741824) (w : World) : Calls Try.prog 52 #[.int .i64 x.num, .int .i64 (x.den : Int)] w (RV w (Dv 2 x)) := by
  refine (qof_any x.num (x.den : Int) (by omega) (by omega) (by omega) (by omega)).mono ?_
  rintro e w' ⟨-, h⟩
  obtain ⟨s, A, k, c, B, m, k', rfl, h3, h4⟩ := h (by have := x.den_nz; omega)
  rw [self_frac x] at h3
  exact ⟨_, rfl, ⟨_, rfl, s, A, k, c, B, m, k', rfl, h3⟩, h4⟩
/-- A row of Rats of a call's own. -/
def OR (w : World) (base : Nat) (v : Value) (n : Nat) (P : Nat → Value → Prop) : Prop := ∃ xs, OwnC w base 41 3 v n xs ∧ RL P n xs
theorem RL.nil (P : Nat → Value → Prop) : RL P 0 [] := ⟨rfl, fun j hj => absurd hj (by omega)⟩
theorem OR.nil (w : World) (base : Nat) (P : Nat → Value → Prop) : OR w base (.slice none 0 0) 0 P := ⟨[], OwnC.nil _ _ _ _, RL.nil _⟩
section
variable {w w' : World} {base n : Nat} {v : Value} {P Q : Nat → Value → Prop}
theorem OR.rs {A : Option Addr} {c : Nat} (h : OR w base (.slice A n c) n P) : Rs w w.heap.size A n P := by
  obtain ⟨xs, h1, h2⟩ := h
  exact ⟨xs, Reads.of_own h1.own, h2⟩
theorem OR.form (h : OR w base v n P) : ∃ A c, v = .slice A n c := by
  obtain ⟨xs, h1, h2⟩ := h
  exact own_form h1.own
theorem OR.below (h : OR w base v n P) (hb : Below w.heap.size w w') (hq : ∀ j u, j < n → P j u → Q j u) : OR w' base v n Q := by
  obtain ⟨xs, h1, h2⟩ := h
  exact ⟨xs, h1.below hb, h2.mono hq⟩
theorem OR.newN {b : Nat} {f : Nat → Rat} (h : OR w base v n (PN w b f)) (hb : Below w.heap.size w w') : OR w' base v n (PN w' b f) := h.below hb fun _ _ _ hv => PN.keep hv (KeepsN.below hb)
theorem OR.blk {t : TypeId} {g : Nat} {cs : Array Value} (h : OR w base v n P) (hb : Blk w g t cs) (hne : t ≠ 41) (hg : w.grownBy w' (some g)) (hq : ∀ j u, j < n → P j u → Q j u) : OR w' base v n Q := by
  obtain ⟨ys, h1, h2⟩ := h
  exact ⟨ys, h1.blk hb (Ne.symm hne) hg, h2.mono hq⟩
end
/-- A Rat is put behind an own row of Rats. -/
theorem wp_push_rat {o : Oper} {a : Act} {w : World} {K : Act → World → Prop} {Q : Exit → Act → World → Prop} (s x : Operand) (ho : o.op = .call { callee := .builtin .append, args := #[s, x], argTypes := #[28, 28] })
    (base : Nat) (v : Value) (n : Nat) (P : Nat → Value → Prop) (hs : a.eval s = v) (hown : OR w base v n P) (g : Nat) (b : Bool) (A B : Option Addr) (k c m d : Nat) (hx : a.eval x = .slice (some ⟨g, 0, none⟩) 1 1) (hb : Blk w g 41 #[.bool b, .slice A k c, .slice B m d])
    (hk : n ≤ 1000000) (hbase : base ≤ w.heap.size)
    (h : ∀ v' w', (∀ R : Nat → Value → Prop, (∀ j u, j < n → P j u → R j u) → R n (.agg #[.bool b, .slice A k c, .slice B m d]) → OR w' base v' (n + 1) R) → w.grownBy w' v.ownBlock → (v'.ownBlock = v.ownBlock ∨ v'.ownBlock = some w.heap.size) → KeepsN w w' → K (a.put o.dst v') w') : o.wp Try.prog a w K Q := by
  obtain ⟨xs, h1, h2⟩ := hown
  refine wp_app_rat s x ho base v n xs hs h1 g b A B k c m d hx hb hk hbase ?_
  intro v' w' g1 g2 g3 g4
  exact h v' w' (fun R hR hn => ⟨_, g1, (h2.mono hR).app hn⟩) g2 g3 g4
/-- What qs answers. -/
def QsRet (n : Nat) (f : Nat → Rat) (w : World) (e : Ending) (w' : World) : Prop := ∃ A c, e = .returned (.slice A n c) ∧ OwnC w' w.heap.size 58 2 (.slice A n c) n (qsL f n) ∧ Below w.heap.size w w'
/-- .. and Rats. -/
def RatsRet (n : Nat) (f : Nat → Rat) (w : World) (e : Ending) (w' : World) : Prop := ∃ A c, e = .returned (.slice A n c) ∧ OR w' w.heap.size (.slice A n c) n (PN w' 2 f) ∧ Below w.heap.size w w'
set_option maxRecDepth 100000 in
set_option maxHeartbeats 8000000 in
theorem qs_any (n c : Nat) (A : Option Addr) (N : Nat → Int) (D : Nat → Nat) (w : World) (hA : Reads w w.heap.size 2 A n (smL N D n)) (hS : SmB N D n) (hn : n ≤ 1000000) :
    Calls Try.prog 19 #[.slice A n c] w (QsRet n (fun i => smq (N i) (D i)) w) := by
  have HA := Lib.hid hA; have HS := Lib.hid hS; clear hA hS
  go_enter Try.func19, Try.ntmps19
  go_wp2_with fail
  go_loopg [4, 3] n (fun q iv ov wr => ∃ (i c' : Nat) (A' : Option Addr), iv = .int .i64 i ∧ ov = .slice A' i c' ∧ i + q = n ∧ Hid (OwnC wr w.heap.size 58 2 (.slice A' i c') i (qsL (fun i => smq (N i) (D i)) i) ∧ Below w.heap.size w wr))
  case atStart => exact ⟨0, 0, none, rfl, rfl, by omega, Lib.hid ⟨OwnC.nil _ _ _ _, Below.refl _ _⟩⟩
  case round =>
    obtain ⟨i, c', A', rfl, rfl, hin, HI⟩ := hrel
    have HO := Lib.hid HI.out.1
    have HB := Lib.hid HI.out.2
    clear HI
    by_cases hi : i < n
    · have i1 : ((i : Int) < (n : Int)) := by omega
      obtain ⟨ad, rfl, -⟩ := Reads.pr HA.out hi
      go_upto_region 5 with (fail)
      refine wp_region_joins (kss := [[], [], [], [(1, 12), (2, 13)], [(3, 14)], [(4, 15)]]) [(3, .slice A' i c'), (0, .slice ((some ad)) n c), (4, .int .i64 ((i : Int)))] [EV (.slice A' i c'), EV (.slice ((some ad)) n c), EV (.int .i64 ((i : Int))), EV (.pointer (some (Addr.add ad (i * 2)))), EV (.agg #[.int .i8 ((N i)), .int .u8 ((D i : Int))]), EV (QL (smq (N i) (D i)))] 6 (by kernel_rfl) ⟨rfl, rfl, rfl, trivial⟩ [false, false, false, false, false, false] ?_ ?_ ?_
      · exact ⟨eI, eI, eI, eI, eI, eI, trivial⟩
      · refine ⟨?_, ?_, ?_, ?_, ?_, ?_, trivial⟩
        · exact fun _ _ _ he hd => ob_mv rfl rfl he.1
        · exact fun _ _ _ he hd => ob_mv rfl rfl he.2.1
        · exact fun _ _ _ he hd => ob_mv rfl rfl he.2.2.1
        · exact fun aa ww hb he hd => ob_plain rfl (idx_small (by omega) rfl hd.1 hd.2.1)
        · exact fun aa ww hb he hd => ob_plain rfl (load_small rfl hd.1 ((HA.out.below (HB.out)).below (hb.mono HB.out.size)) (by omega))
        · exact fun aa ww hb he hd => ob_plain rfl (gives_call1 _ _ _ rfl (by kernel_rfl) (by rw [show aa.eval (.tmp 15) = .agg #[.int .i8 ((N i)), .int .u8 ((D i : Int))] from hd.1]; exact rv_one (q_any _ _ (HS.out i (by omega)).1 (HS.out i (by omega)).2.1 (HS.out i (by omega)).2.2 _)))
      intro vs w2 hb hR
      have e11 : vs 0 = .slice A' i c' := hR 0 (by decide)
      have e16 : vs 5 = QL (smq (N i) (D i)) := hR 5 (by decide)
      clear hR
      simp only [putsL, Nat.zero_add, Nat.reduceAdd, List.take_succ_cons, List.take_zero, Act.put, List.setIfInBounds_toArray, List.set_cons_zero, List.set_cons_succ]
      rw [e11, e16]
      clear e11 e16
      show wpOps _ _ _ [6, 7, 8] _ _
      refine wpOps_next rfl rfl (bs_q (y := (smq (N i) (D i)).num) (z := ((smq (N i) (D i)).den : Int)) rfl rfl ?_)
      simp only [Act.put, List.setIfInBounds_toArray, List.set_cons_zero, List.set_cons_succ]
      refine wpOps_next rfl rfl (wp_app_q _ _ rfl w.heap.size (.slice A' i c') i _ rfl ((HO.out.below hb).alloc _) w2.heap.size _ _ rfl (Blk.new _ _ _) (by omega) (by have := HB.out.size; have := hb.size; simp; omega) ?_)
      intro v' w3 ho hg hor kp
      have HBa := Lib.hid (show Below w.heap.size w w3 from Below.appended (bthen (bthen HB.out hb HB.out.size) (al w2 _) (by have := HB.out.size; have := hb.size; omega)) ((HO.out.below hb).alloc _).own hg (by have := HB.out.size; have := hb.size; simp; omega) (Nat.le_refl _))
      obtain ⟨A9, c9, rfl⟩ := own_form ho.own
      have HOa := Lib.hid (show OwnC w3 w.heap.size 58 2 (.slice A9 (i + 1) c9) (i + 1) (qsL (fun i => smq (N i) (D i)) (i + 1)) from ho)
      clear hb ho hg hor kp HO HB
      simp only [Act.put, List.setIfInBounds_toArray, List.set_cons_zero, List.set_cons_succ]
      refine wpOps_next rfl rfl (wp_assign 3 (.tmp 18) rfl rfl (.slice A9 (i + 1) c9) rfl ?_)
      simp only [Act.put, List.setIfInBounds_toArray, List.set_cons_zero, List.set_cons_succ]
      unfold wpOps
      go_wp2_with fail
      go_roundg (gk - 1)
      case measure => omega
      case rel => exact ⟨i + 1, c9, A9, by go_num, rfl, by omega, Lib.hid ⟨HOa.out, HBa.out⟩⟩
    · obtain rfl : n = i := by omega
      go_wp2_with fail
      go_ret
      exact ⟨A', c', rfl, HO.out, HB.out⟩
set_option maxRecDepth 100000 in
set_option maxHeartbeats 8000000 in
theorem Rats_any (n c : Nat) (A : Option Addr) (f : Nat → Rat) (w : World) (hA : Reads w w.heap.size 2 A n (qsL f n)) (hS : ∀ i, i < n → Sm (f i)) (hn : n ≤ 1000000) :
    Calls Try.prog 18 #[.slice A n c] w (RatsRet n f w) := by
  have HA := Lib.hid hA; have HS := Lib.hid hS; clear hA hS
  go_enter Try.func18, Try.ntmps18
  go_wp2_with fail
  go_loopg [4, 3] n (fun q iv ov wr => ∃ (i c' : Nat) (A' : Option Addr), iv = .int .i64 i ∧ ov = .slice A' i c' ∧ i + q = n ∧ Hid (OR wr w.heap.size (.slice A' i c') i (PN wr 2 f) ∧ Below w.heap.size w wr))
  case atStart => exact ⟨0, 0, none, rfl, rfl, by omega, Lib.hid ⟨OR.nil _ _ _, Below.refl _ _⟩⟩
  case round =>
    obtain ⟨i, c', A', rfl, rfl, hin, HI⟩ := hrel
    have HO := Lib.hid HI.out.1
    have HB := Lib.hid HI.out.2
    clear HI
    by_cases hi : i < n
    · have i1 : ((i : Int) < (n : Int)) := by omega
      obtain ⟨ad, rfl, -⟩ := Reads.pr HA.out hi
      have hs1 : (f i).num.natAbs ≤ 1073741824 := (HS.out i hi).1
      have hs2 : (f i).den ≤ 1073741824 := (HS.out i hi).2
      go_upto_region 5 with (fail)
      refine wp_region_join (kss := [[], [], [(0, 14), (1, 15)], [(2, 16)], [(3, 17)], [], [], [(5, 19), (6, 20)], [(7, 21)], [(8, 22)], [(4, 18), (9, 23)], [(10, 24)], [(11, 13)], [(11, 13)], []]) [(0, .slice ((some ad)) n c), (4, .int .i64 ((i : Int)))] [EV (.slice ((some ad)) n c), EV (.int .i64 ((i : Int))), EV (.pointer (some (Addr.add ad (i * 2)))), EV (.pointer (some (Addr.add (Addr.add ad (i * 2)) 0))), EV (.int .i64 ((f i).num)), EV (.slice ((some ad)) n c), EV (.int .i64 ((i : Int))), EV (.pointer (some (Addr.add ad (i * 2)))), EV (.pointer (some (Addr.add (Addr.add ad (i * 2)) 1))), EV (.int .i64 ((((f i).den : Nat) : Int))), Dv (2) (f i), Dv (2) (f i), Rv (2) (f i), EV (.int .i64 0), Zb wr.heap.size] 15 [13] (by kernel_rfl) (by kernel_rfl) ⟨rfl, rfl, trivial⟩ [false, false, false, false, false, false, false, false, false, false, false, false, false, false, true] ?_ ?_ ?_ ?_
      · intro i hi
        simp only [List.mem_cons, List.not_mem_nil, or_false] at hi
        subst hi
        exact ⟨rfl, fun o ks ho hk => by cases ho; cases hk; exact fun a w _ _ hd => late_e rfl rfl hd.1⟩
      · exact ⟨eI, eI, eI, eI, eI, eI, eI, eI, eI, eI, fun _ _ _ h hb => h.new hb, fun _ _ _ h hb => h.new hb, fun _ _ _ h hb => h.new hb, eI, fun _ _ _ h hb => Zb.new h hb, trivial⟩
      · refine ⟨?_, ?_, ?_, ?_, ?_, ?_, ?_, ?_, ?_, ?_, ?_, ?_, ?_, ?_, ?_, trivial⟩
        · exact fun _ _ _ he hd => ob_mv rfl rfl he.1
        · exact fun _ _ _ he hd => ob_mv rfl rfl he.2.1
        · exact fun aa ww hb he hd => ob_plain rfl (idx_qs (by omega) rfl hd.1 hd.2.1)
        · exact fun aa ww hb he hd => ob_plain rfl (fld_q rfl (by decide) hd.1)
        · exact fun aa ww hb he hd => ob_plain rfl (load_qn rfl hd.1 ((HA.out.below (HB.out)).below (hb.mono HB.out.size)) (by omega))
        · exact fun _ _ _ he hd => ob_mv rfl rfl he.1
        · exact fun _ _ _ he hd => ob_mv rfl rfl he.2.1
        · exact fun aa ww hb he hd => ob_plain rfl (idx_qs (by omega) rfl hd.1 hd.2.1)
        · exact fun aa ww hb he hd => ob_plain rfl (fld_q rfl (by decide) hd.1)
        · exact fun aa ww hb he hd => ob_plain rfl (load_qd rfl hd.1 ((HA.out.below (HB.out)).below (hb.mono HB.out.size)) (by omega))
        · exact fun aa ww hb he hd => ob_plain rfl (gives_call2 _ _ _ _ rfl (by kernel_rfl) (by rw [show aa.eval (.tmp 18) = .int .i64 ((f i).num) from hd.1, show aa.eval (.tmp 23) = .int .i64 ((((f i).den : Nat) : Int)) from hd.2.1]; exact of_q (f i) (by omega) (by omega) _))
        · exact fun _ _ _ he hd => ob_mv rfl rfl hd.1
        · exact fun aa ww hb he hd => ob_plain rfl (ext_q rfl hd.1)
        · exact fun aa ww hb he hd => ob_plain rfl (ext_e rfl hd.1)
        · exact fun aa ww hb he hd => ⟨by simp [Region.wanted], alloc_rat rfl hb⟩
      intro vs w2 hb hR _
      have r25 : Rv (2) (f i) (vs 12) w2 := hR 12 (by decide)
      have r5 : Zb wr.heap.size (vs 14) w2 := hR 14 (by decide)
      have e26 : vs 13 = .int .i64 0 := hR 13 (by decide)
      clear hR
      simp only [putsL, Nat.zero_add, Nat.reduceAdd, List.take_succ_cons, List.take_zero, Act.put, List.setIfInBounds_toArray, List.set_cons_zero, List.set_cons_succ]
      rw [e26]
      clear e26
      obtain ⟨g5, k5, z5⟩ := r5
      rw [k5]
      clear k5
      show wpAny _ _ _ _ 2 _ _ _
      refine wpAny_next (i := 15) (by kernel_rfl) rfl rfl (store_row (v := vs 12) (g := g5) (j := 0) (n := 1) (b := 2) (x := f i) rfl rfl rfl rfl z5.rb (by omega) r25.rw ?_)
      intro w3 kp hg hsz hR5
      have hlow : w.heap.size ≤ g5 := by have := z5.1; have := HB.out.size; omega
      have HX := Lib.hid (RB.bn (hR5 (fun _ v => Rv 2 (f i) v w3) (fun l u hl hne _ => absurd hl (by omega)) (r25.keepN kp)))
      have h5' : (Value.slice A' i c').ownBlock ≠ some g5 := by
        intro he
        obtain ⟨xs, h1, -⟩ := HO.out
        have := (h1.own.lt g5 he).2
        have := z5.1
        omega
      have HO3 := Lib.hid (show OR w3 w.heap.size (.slice A' i c') i (PN w3 2 f) from by
        obtain ⟨xs, h1, h2⟩ := HO.out.newN hb
        exact ⟨xs, h1.kept hg (.inr h5'), h2.mono fun j u _ hv => PN.keep hv kp⟩)
      have HB3 := Lib.hid (show Below w.heap.size w w3 from (bthen HB.out hb HB.out.size).grown hg (bthen HB.out hb HB.out.size).size (fun x hx => by cases hx; exact hlow))
      clear hb kp hg hsz hR5 r25 z5 HB HO h5' hlow
      refine wpAny_next (i := 16) (by kernel_rfl) rfl rfl (wp_assign 6 (.tmp 26) rfl rfl (.int .i64 0) rfl ?_)
      simp only [Act.put, List.setIfInBounds_toArray, List.set_cons_zero, List.set_cons_succ]
      refine wpAny_end (by kernel_rfl) (calm_normal ?_) _
      go_upto_region 6 with (fail)
      refine wp_region_joins (kss := [[], []]) [(3, .slice A' i c'), (5, .pointer (some ⟨g5, 0, none⟩))] [EV (.slice A' i c'), Rv (2) (f i)] 2 (by kernel_rfl) ⟨rfl, rfl, trivial⟩ [false, false] ?_ ?_ ?_
      · exact ⟨eI, fun _ _ _ h hb => h.new hb, trivial⟩
      · refine ⟨?_, ?_, trivial⟩
        · exact fun _ _ _ he hd => ob_mv rfl rfl he.1
        · exact fun aa ww hb he hd => ob_plain rfl (load_bn rfl he.2.1 (Bn.new HX.out hb))
      intro vs w4 hb hR
      have e27 : vs 0 = .slice A' i c' := hR 0 (by decide)
      have r28 : Rv (2) (f i) (vs 1) w4 := hR 1 (by decide)
      clear hR
      simp only [putsL, Nat.zero_add, Nat.reduceAdd, List.take_succ_cons, List.take_zero, Act.put, List.setIfInBounds_toArray, List.set_cons_zero, List.set_cons_succ]
      rw [e27]
      clear e27
      have r28' : Rv 2 (f i) (vs 1) w4 := r28
      obtain ⟨s, A1, k1, c1, B1, m1, d1, e28, h28⟩ := r28
      rw [e28] at r28' ⊢
      show wpOps _ _ _ [2, 3, 4] _ _
      refine wpOps_next rfl rfl (bs_rat (s := s) (A := A1) (k := k1) (c := c1) (B := B1) (m := m1) (d := d1) rfl rfl ?_)
      simp only [Act.put, List.setIfInBounds_toArray, List.set_cons_zero, List.set_cons_succ]
      refine wpOps_next rfl rfl (wp_push_rat _ _ rfl w.heap.size (.slice A' i c') i _ rfl ((HO3.out.newN hb).newN (al w4 _)) w4.heap.size _ _ _ _ _ _ _ rfl (Blk.new _ _ _) (by omega) (by have := HB3.out.size; have := hb.size; simp; omega) ?_)
      intro v' w5 ho hg hor kp
      have hoo := (HO3.out.newN hb).newN (al w4 (.cells #[.bool s, .slice A1 k1 c1, .slice B1 m1 d1] 41))
      have HBa := Lib.hid (show Below w.heap.size w w5 from by
        obtain ⟨xs, h1, -⟩ := hoo
        exact Below.appended (bthen (bthen HB3.out hb HB3.out.size) (al w4 _) (by have := HB3.out.size; have := hb.size; omega)) h1.own hg (by have := HB3.out.size; have := hb.size; simp; omega) (Nat.le_refl _))
      have hOa := ho (PN w5 2 f) (fun j u _ hv => PN.keep hv kp) ((Rv.new r28' (al w4 _)).keepN kp)
      obtain ⟨A9, c9, rfl⟩ := hOa.form
      have HOa := Lib.hid hOa
      clear hb ho hg hor kp hoo hOa r28' h28 HO3 HB3 HX
      simp only [Act.put, List.setIfInBounds_toArray, List.set_cons_zero, List.set_cons_succ]
      refine wpOps_next rfl rfl (wp_assign 3 (.tmp 30) rfl rfl (.slice A9 (i + 1) c9) rfl ?_)
      simp only [Act.put, List.setIfInBounds_toArray, List.set_cons_zero, List.set_cons_succ]
      unfold wpOps
      go_wp2_with fail
      go_roundg (gk - 1)
      case measure => omega
      case rel => exact ⟨i + 1, c9, A9, by go_num, rfl, by omega, Lib.hid ⟨HOa.out, HBa.out⟩⟩
    · obtain rfl : n = i := by omega
      go_wp2_with fail
      go_ret
      exact ⟨A', c', rfl, HO.out, HB.out⟩
end Go.Proofs.Ytamcibmjpmibdaa
namespace Go.Proofs.Ytamcibmjpmibdaa
open Go.RowKit Go.ChangeShapes Go.WideShapes Go.Deep
set_option linter.unusedVariables false

theorem Reads.of_pr {w : World} {B n : Nat} {ad : Addr} {u v : Nat → Value} (hb : 0 < n → ad.block < B) (h : ∀ k, k < n → w.cell? (ad.add (k * 2)) = some (u k) ∧ w.cell? (ad.add (k * 2 + 1)) = some (v k)) : Reads w B 2 (some ad) n (pr2 u v n) := by
  refine ⟨pr2_length u v n, fun hn => ⟨ad, rfl, hb hn, fun j x hx => ?_⟩⟩
  have hj : j < n * 2 := by
    have := (List.getElem?_eq_some_iff.1 hx).1
    rw [pr2_length] at this; exact this
  obtain ⟨h1, h2⟩ := h (j / 2) (by omega)
  obtain ⟨g1, g2⟩ := pr2_at (u := u) (v := v) (show j / 2 < n by omega)
  have : j = j / 2 * 2 ∨ j = j / 2 * 2 + 1 := by omega
  rcases this with e | e
  · rw [← e] at h1 g1
    rw [g1] at hx
    injection hx with hx
    rw [← hx]; exact h1
  · rw [← e] at h2 g2
    rw [g2] at hx
    injection hx with hx
    rw [← hx]; exact h2
section
variable {H : Type} {enc : TypeId × Value → H} {w : World} {base : Nat} {spare : Nat → Bool} {held : Bool}
theorem open_smalls {fuel : Nat} {v : Value} {x : DataW H × List MemPlace} (h : DataW.trod enc Try.prog w base spare held fuel 22 [v] = some x) :
    ∃ (A : Option Addr) (len cap : Nat) (N : Nat → Int) (D : Nat → Nat), v = .slice A len cap ∧ Reads w w.heap.size 2 A len (smL N D len) ∧ SmB N D len ∧ ((x.1 = .nil ∧ len = 0) ∨ ∃ (E F : Nat → DataW H) (sp : List (DataW H)), x.1 = .slice ((List.range len).map fun i => .agg [E i, F i]) sp) := by
  rcases open_slice_pairs Try.underlying22 Try.underlying52 (by kernel_rfl) rfl rfl (by kernel_rfl) (by kernel_rfl) h with ⟨hcs, hx⟩ | ⟨a, len, cap, m, n, V0, V1, D0, D1, P0, P1, hcs, hb, hl, hm, hmm, hx, hc⟩
  · cases hcs
    exact ⟨none, 0, 0, fun _ => 0, fun _ => 0, rfl, Reads.none_, fun i hi => absurd hi (by omega), .inl ⟨by rw [hx], rfl⟩⟩
  · cases hcs
    have hlm : len ≤ m := by rw [hmm]; split <;> omega
    have each : ∀ i, i < len → ∃ z d : Int, V0 i = .int .i8 z ∧ V1 i = .int .u8 d ∧ (-128 ≤ z ∧ z ≤ 127) ∧ 0 ≤ d ∧ d ≤ 255 := by
      intro i hi
      obtain ⟨h1, h2, h3, h4⟩ := hc i (by omega)
      obtain ⟨z, f0, -, w0⟩ := DataW.trod_int Try.underlying50 h3
      obtain ⟨d, f1, -, w1⟩ := DataW.trod_int Try.underlying5 h4
      simp only [List.cons.injEq, and_true] at f0 f1
      have b0 := bounds_i8 w0
      have b1 := bounds_u8 w1
      exact ⟨z, d, f0, f1, by omega, by omega⟩
    refine ⟨some a, len, cap, fun i => intOf (V0 i), fun i => (intOf (V1 i)).toNat, rfl, ?_, fun i hi => ?_, .inr ⟨_, _, _, by rw [hx]⟩⟩
    · refine Reads.of_pr (fun hn => ?_) (fun k hk => ?_)
      · have := block_lt_of_cell (hc 0 (by omega)).1
        rwa [block_of_add] at this
      · obtain ⟨h1, h2, -, -⟩ := hc k (by omega)
        obtain ⟨z, d, e1, e2, -, b1⟩ := each k hk
        simp only [h1, h2, e1, e2, intOf]
        refine ⟨trivial, ?_⟩
        rw [Int.toNat_of_nonneg b1.1]
    · obtain ⟨z, d, e1, e2, b0, b1⟩ := each i hi
      simp only [e1, e2, intOf]
      omega
end
end Go.Proofs.Ytamcibmjpmibdaa
namespace Go.Proofs.Ytamcibmjpmibdaa
open Go.RowKit
set_option linter.unusedVariables false
set_option linter.unusedSimpArgs false

def VdRet (n m k : Nat) (ln : Nat → Nat) (w : World) (e : Ending) (w' : World) : Prop := ∃ t : Bool, e = .returned (.bool t) ∧ Below w.heap.size w w' ∧ (t = true ↔ m = k ∧ ∀ i, i < m → ln i = n)
set_option maxRecDepth 100000 in
set_option maxHeartbeats 8000000 in
theorem valid_any (n m k cC cA cB : Nat) (AC AA AB : Option Addr) (Ar : Nat → Option Addr) (ln cp : Nat → Nat) (w : World) (hA : Reads w w.heap.size 1 AA m ((List.range m).map fun i => Value.slice (Ar i) (ln i) (cp i))) (hm : m ≤ 1000000) :
    Calls Try.prog 32 #[.agg #[.slice AC n cC, .slice AA m cA, .slice AB k cB]] w (VdRet n m k ln w) := by
  have HA := Lib.hid hA; clear hA
  go_enter Try.func32, Try.ntmps32
  go_upto_region 1 with (fail)
  have T := Lib.hid (Blk.new w 31 #[.slice AC n cC, .slice AA m cA, .slice AB k cB])
  have HB := Lib.hid (al w (.cells #[.slice AC n cC, .slice AA m cA, .slice AB k cB] 31))
  generalize w.alloc (.cells #[.slice AC n cC, .slice AA m cA, .slice AB k cB] 31) = w1 at *
  have c0 : w1.cell? ⟨w.heap.size, 0, none⟩ = some (.slice AC n cC) := by rw [T.out.cell]; rfl
  have c1 : w1.cell? ⟨w.heap.size, 1, none⟩ = some (.slice AA m cA) := by rw [T.out.cell]; rfl
  have c2 : w1.cell? ⟨w.heap.size, 2, none⟩ = some (.slice AB k cB) := by rw [T.out.cell]; rfl
  by_cases hmk : m = k
  · subst hmk
    go_wp2_with fail
    go_loopg [15] m (fun q iv wr => ∃ i : Nat, iv = .int .i64 i ∧ i + q = m ∧ Hid (∀ l, l < i → ln l = n) ∧ wr = w1)
    case atStart => exact ⟨0, rfl, by omega, Lib.hid (fun l hl => absurd hl (by omega)), rfl⟩
    case round =>
      obtain ⟨i, rfl, him, HI, rfl⟩ := hrel
      by_cases hi : i < m
      · obtain ⟨ad, rfl, had, hcs⟩ := HA.out.2 (by omega)
        have hr0 := hcs i _ (by rw [List.getElem?_map, List.getElem?_range hi]; rfl)
        have hr : wr.cell? (ad.add i) = some (.slice (Ar i) (ln i) (cp i)) := (HB.out.cell (p := ad.add i) (by rw [show (ad.add i).block = ad.block from by unfold Addr.add; split <;> rfl]; exact had)).trans hr0
        clear hcs hr0
        have i1 : ((i : Int) < (m : Int)) := by omega
        have i0 : (0 : Int) ≤ (i : Int) := by omega
        by_cases hl : ln i = n
        · have h1 : ((ln i : Int) = (n : Int)) := by omega
          go_wp2_with fail
          go_roundg (gk - 1)
          case measure => omega
          case rel => exact ⟨i + 1, by go_num, by omega, Lib.hid (fun l hll => by
            by_cases hli : l = i
            · rw [hli]; exact hl
            · exact HI.out l (by omega)), rfl⟩
        · have h1 : ¬ ((ln i : Int) = (n : Int)) := by omega
          go_wp2_with fail
          go_ret
          exact ⟨false, rfl, HB.out, by simp; exact ⟨i, hi, hl⟩⟩
      · obtain rfl : m = i := by omega
        go_wp2_with fail
        go_ret
        exact ⟨true, rfl, HB.out, by simp; exact HI.out⟩
  · have h1 : ¬ ((m : Int) = (k : Int)) := by omega
    go_wp2_with fail
    go_ret
    exact ⟨false, rfl, HB.out, by simp; intro h; exact absurd h hmk⟩
end Go.Proofs.Ytamcibmjpmibdaa
