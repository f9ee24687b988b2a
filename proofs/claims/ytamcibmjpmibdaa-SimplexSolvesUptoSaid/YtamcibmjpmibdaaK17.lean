/-
Contract of law28.dot. Regions printed by gen/sx.py.
Contracts of law28.primal and dual: the true case. Printed by gen/spd.py.
Contract of law28.right: the true case. Printed by gen/spd.py.
-/
import Derived.Test.YtamcibmjpmibdaaK9
import Derived.Test.YtamcibmjpmibdaaK16
namespace Go.Proofs.Ytamcibmjpmibdaa
open Go.RowKit
set_option linter.unusedVariables false
set_option linter.unusedSimpArgs false

set_option maxRecDepth 100000 in
set_option maxHeartbeats 8000000 in
theorem ldot_any (n n' ca cb ba bb : Nat) (AA AB : Option Addr) (f g : Nat → Rat) (w : World) (hA : Rs w w.heap.size AA n (PW w ba f)) (hB : Rs w w.heap.size AB n' (PW w bb g)) (hn : n ≤ n') (hn1 : n ≤ 1000) (hba : ba ≤ 1400) (hbb : bb ≤ 1400) (hcap : n * (ba + bb + 1) ≤ 2000) :
    Calls Try.prog 43 #[.slice AA n ca, .slice AB n' cb] w (RV w (Rw (2 + n * (ba + bb + 1)) (sm (fun i => f i * g i) n))) := by
  have HA := Lib.hid hA; have HBB := Lib.hid hB; clear hA hB
  obtain ⟨c, hc⟩ : ∃ c, c = ba + bb + 1 := ⟨_, rfl⟩
  rw [← hc] at hcap ⊢
  have HC := Lib.hid hc; clear hc
  go_enter Try.func43, Try.ntmps43
  go_upto_region 1 with (fail)
  have HB0 := Lib.hid (al w (.cells #[.bool false, .slice none 0 0, .slice none 0 0] 41))
  have HZ0 := Lib.hid (Zx.rb (show Zx w.heap.size w.heap.size (w.alloc (.cells #[.bool false, .slice none 0 0, .slice none 0 0] 41)) from ⟨Nat.le_refl _, TB.made w _ _ _ _⟩))
  obtain ⟨g4, hg4⟩ : ∃ g4, g4 = w.heap.size := ⟨_, rfl⟩
  have HG4 := Lib.hid hg4
  rw [← hg4] at HZ0 ⊢
  clear hg4
  generalize w.alloc (.cells #[.bool false, .slice none 0 0, .slice none 0 0] 41) = w0 at *
-- %E1
  refine wp_region_joins (kss := [[], []]) [] [Rv (2) (((0 : Int) : Rat)), Zb w0.heap.size] 2 (by kernel_rfl) trivial [false, true] ?_ ?_ ?_
  · exact ⟨fun _ _ _ h hb => h.new hb, fun _ _ _ h hb => Zb.new h hb, trivial⟩
  · refine ⟨?_, ?_, trivial⟩
    · exact fun aa ww hb he hd => ob_plain rfl (gives_call1 _ _ _ rfl (by kernel_rfl) (int_w (0) (by omega) (by omega) _ rfl _))
    · exact fun aa ww hb he hd => ⟨by simp [Region.wanted], alloc_rat rfl hb⟩
  intro vs w2 hb hR
  have r7 : Rv (2) (((0 : Int) : Rat)) (vs 0) w2 := hR 0 (by decide)
  have r5 : Zb w0.heap.size (vs 1) w2 := hR 1 (by decide)
  clear hR
  simp only [putsL, Nat.zero_add, Nat.reduceAdd, List.take_succ_cons, List.take_zero, Act.put, List.setIfInBounds_toArray, List.set_cons_zero, List.set_cons_succ]
-- %end E1
  obtain ⟨g5, k5, z5⟩ := r5
  rw [k5]
  clear k5
  show wpOps _ _ _ [2] _ _
  refine wpOps_next rfl rfl (store_row (v := vs 0) (g := g5) (j := 0) (n := 1) (b := 2) (x := ((0 : Int) : Rat)) rfl rfl rfl rfl z5.rb (by omega) r7.rw ?_)
  intro w3 kp hg hsz hR5
  have HX := Lib.hid (RB.bx (hR5 (fun _ v => Rw 2 (sm (fun i => f i * g i) 0) v w3) (fun l u hl hne _ => absurd hl (by omega)) (by
    have h := r7.rw.keepN kp
    rw [show ((0 : Int) : Rat) = sm (fun i => f i * g i) 0 from by simp [sm]] at h
    exact h)))
  have h45 : g4 < g5 := by have := HZ0.out.lt; have := z5.1; omega
  have HW := Lib.hid (show w.heap.size ≤ g4 from by rw [HG4.out]; exact Nat.le_refl _)
  have HB3 := Lib.hid (show Below w.heap.size w w3 from (bthen HB0.out hb HB0.out.size).grown hg (bthen HB0.out hb HB0.out.size).size (fun x hx => by cases hx; have := HW.out; omega))
  have HZ := Lib.hid ((HZ0.out.below hb (Q := fun _ _ => True) (fun _ _ _ _ => trivial)).grown hg (show g4 ≠ g5 by omega) (Q := fun _ _ => True) (fun _ _ _ _ => trivial))
  clear kp hg hsz hR5 hb r7 z5 HB0 HZ0
  show Exit.then _ _ _ _ _
  go_wp2_with fail
  go_loopg [6] n (fun q iv wr => ∃ k : Nat, iv = .int .i64 k ∧ k + q = n ∧ Hid (Bx (2 + k * c) (sm (fun i => f i * g i) k) g5 wr ∧ RB wr g4 1 (fun _ _ => True) ∧ Below w.heap.size w wr))
  case atStart => exact ⟨0, rfl, by omega, Lib.hid ⟨by rw [Nat.zero_mul]; exact HX.out, HZ.out, HB3.out⟩⟩
  case round =>
    obtain ⟨k, rfl, hkn, HI⟩ := hrel
    clear HX HZ HB3
    obtain ⟨bk, hbk⟩ : ∃ bk, bk = 2 + k * c := ⟨_, rfl⟩
    have HX := Lib.hid HI.out.1
    rw [← hbk] at HX
    have HZ := Lib.hid HI.out.2.1
    have HB := Lib.hid HI.out.2.2
    clear HI
    have hkc : k * c ≤ n * c := Nat.mul_le_mul_right c (by omega)
    have hbk2 : bk ≤ 2002 := by omega
    have HBk := Lib.hid hbk; clear hbk hkc
    by_cases hk : k < n
    · obtain ⟨adA, -, -, -, -, -, -, -, rfl, -⟩ := HA.out.at_ hk
      obtain ⟨adB, -, -, -, -, -, -, -, rfl, -⟩ := HBB.out.at_ (show k < n' by omega)
      have i1 : ((k : Int) < (n : Int)) := by omega
      have i2 : ((k : Int) < (n' : Int)) := by omega
      go_upto_region 5 with (fail)
-- %E5
      refine wp_region_join (kss := [[], [], [], [(1, 21), (2, 22)], [(3, 23)], [], [], [(5, 25), (6, 26)], [(7, 27)], [(4, 24), (8, 28)], [(0, 20), (9, 29)]]) [(5, .pointer (some ⟨g5, 0, none⟩)), (0, .slice (some adA) n ca), (6, .int .i64 ((k : Int))), (1, .slice (some adB) (n') cb)] [Rw (bk) (sm (fun i => f i * g i) k), fun zz _ => zz = .slice (some adA) n ca, fun zz _ => zz = .int .i64 ((k : Int)), fun zz _ => zz = .pointer (some (Addr.add adA (k * 3))), Rw (ba) (f k), fun zz _ => zz = .slice (some adB) (n') cb, fun zz _ => zz = .int .i64 ((k : Int)), fun zz _ => zz = .pointer (some (Addr.add adB (k * 3))), Rw (bb) (g k), Rv (ba + bb) ((f k) * (g k)), Rv (bk + (ba + bb) + 1) ((sm (fun i => f i * g i) k) + ((f k) * (g k)))] 11 [] (by kernel_rfl) (by kernel_rfl) ⟨rfl, rfl, rfl, rfl, trivial⟩ [false, false, false, false, false, false, false, false, false, false, false] ?_ ?_ ?_ ?_
      · exact fun i hi => absurd hi (by simp)
      · exact ⟨fun _ _ _ h hb => h.new hb, fun _ _ _ h _ => h, fun _ _ _ h _ => h, fun _ _ _ h _ => h, fun _ _ _ h hb => h.new hb, fun _ _ _ h _ => h, fun _ _ _ h _ => h, fun _ _ _ h _ => h, fun _ _ _ h hb => h.new hb, fun _ _ _ h hb => h.new hb, fun _ _ _ h hb => h.new hb, trivial⟩
      · refine ⟨?_, ?_, ?_, ?_, ?_, ?_, ?_, ?_, ?_, ?_, ?_, trivial⟩
        · exact fun aa ww hb he hd => ob_plain rfl (load_bx rfl he.1 (Bx.new HX.out hb))
        · exact fun aa ww hb he hd => ob_plain rfl (gives_move _ rfl ⟨he.2.1, Below.refl _ _⟩)
        · exact fun aa ww hb he hd => ob_plain rfl (gives_move _ rfl ⟨he.2.2.1, Below.refl _ _⟩)
        · exact fun aa ww hb he hd => ob_plain rfl (idx_rs (by omega) rfl hd.1 hd.2.1)
        · exact fun aa ww hb he hd => ob_plain rfl (load_rw rfl hd.1 (Rs.newW HA.out (bthen HB.out hb HB.out.size)) (by omega))
        · exact fun aa ww hb he hd => ob_plain rfl (gives_move _ rfl ⟨he.2.2.2.1, Below.refl _ _⟩)
        · exact fun aa ww hb he hd => ob_plain rfl (gives_move _ rfl ⟨he.2.2.1, Below.refl _ _⟩)
        · exact fun aa ww hb he hd => ob_plain rfl (idx_rs (by omega) rfl hd.1 hd.2.1)
        · exact fun aa ww hb he hd => ob_plain rfl (load_rw rfl hd.1 (Rs.newW HBB.out (bthen HB.out hb HB.out.size)) (by omega))
        · exact fun aa ww hb he hd => ob_plain rfl (gives_call2 _ _ _ _ rfl (by kernel_rfl) (mul_v (hd.1) (hd.2.1) (by omega)))
        · exact fun aa ww hb he hd => ob_plain rfl (gives_call2 _ _ _ _ rfl (by kernel_rfl) (add_v (hd.1) (hd.2.1.rw) (by omega)))
      intro vs w4 hb hR _
      have r30 : Rv (bk + (ba + bb) + 1) ((sm (fun i => f i * g i) k) + ((f k) * (g k))) (vs 10) w4 := hR 10 (by decide)
      clear hR
      simp only [putsL, Nat.zero_add, Nat.reduceAdd, List.take_succ_cons, List.take_zero, Act.put, List.setIfInBounds_toArray, List.set_cons_zero, List.set_cons_succ]
      show wpAny _ _ _ _ 1 _ _ _
      refine wpAny_next (i := 11) (by kernel_rfl) rfl rfl (store_row (v := vs 10) (g := g5) (j := 0) (n := 1) (b := bk + (ba + bb) + 1) (x := sm (fun i => f i * g i) k + f k * g k) rfl rfl rfl rfl (HX.out.new hb).rb (by omega) r30.rw ?_)
-- %end E5
      intro wa kp hg hsz hR
      have hbe : bk + (ba + bb) + 1 = 2 + (k + 1) * c := by rw [HBk.out, Nat.succ_mul, HC.out]; omega
      have HXa := Lib.hid (RB.bx (hR (fun _ v => Rw (2 + (k + 1) * c) (sm (fun i => f i * g i) (k + 1)) v wa) (fun l u hl hne _ => absurd hl (by omega)) (by
        have h := r30.rw.keepN kp
        rw [hbe] at h
        exact h)))
      have HZa := Lib.hid ((HZ.out.below hb (Q := fun _ _ => True) (fun _ _ _ _ => trivial)).grown hg (show g4 ≠ g5 by omega) (Q := fun _ _ => True) (fun _ _ _ _ => trivial))
      have HBa := Lib.hid (show Below w.heap.size w wa from (bthen HB.out hb HB.out.size).grown hg (bthen HB.out hb HB.out.size).size (fun x hx => by cases hx; have := HW.out; omega))
      clear hb kp hg hsz hR r30 hbe
      refine wpAny_end (by kernel_rfl) (calm_normal ?_) _
      go_wp2_with fail
      go_roundg (gk - 1)
      case measure => omega
      case rel => exact ⟨k + 1, by go_num, by omega, Lib.hid ⟨HXa.out, HZa.out, HBa.out⟩⟩
    · obtain rfl : n = k := by omega
      go_upto_region 6 with (fail)
-- %E7
      refine wp_region_joins (kss := [[]]) [(5, .pointer (some ⟨g5, 0, none⟩))] [Rw (bk) (sm (fun i => f i * g i) n)] 1 (by kernel_rfl) ⟨rfl, trivial⟩ [false] ?_ ?_ ?_
      · exact ⟨fun _ _ _ h hb => h.new hb, trivial⟩
      · refine ⟨?_, trivial⟩
        · exact fun aa ww hb he hd => ob_plain rfl (load_bx rfl he.1 (Bx.new HX.out hb))
      intro vs w4 hb hR
      have r31 : Rw (bk) (sm (fun i => f i * g i) n) (vs 0) w4 := hR 0 (by decide)
      clear hR
      simp only [putsL, Nat.zero_add, Nat.reduceAdd, List.take_succ_cons, List.take_zero, Act.put, List.setIfInBounds_toArray, List.set_cons_zero, List.set_cons_succ]
      show wpOps _ _ _ [1] _ _
      refine wpOps_next rfl rfl (store_row (v := vs 0) (g := g4) (j := 0) (n := 1) (b := bk) (x := sm (fun i => f i * g i) n) rfl rfl rfl rfl (HZ.out.below hb (Q := fun _ _ => True) (fun _ _ _ _ => trivial)) (by omega) r31 ?_)
-- %end E7
      intro wa kp hg hsz hR
      have HXa := Lib.hid (RB.bx (hR (fun _ v => Rw bk (sm (fun i => f i * g i) n) v wa) (fun l u hl hne _ => absurd hl (by omega)) (r31.keepN kp)))
      have HBa := Lib.hid (show Below w.heap.size w wa from (bthen HB.out hb HB.out.size).grown hg (bthen HB.out hb HB.out.size).size (fun x hx => by cases hx; exact HW.out))
      clear hb kp hg hsz hR r31
      unfold wpOps
      go_wp2_with fail
      obtain ⟨s, A, k1, c1, B, m1, d1, h1, h2⟩ := HXa.out
      refine bodyPost_ret (v := .agg #[.bool s, .slice A k1 c1, .slice B m1 d1]) (results_cell_row Try.results43 _ _ _ _ _ (0, 0) _ rfl h1 Try.underlying41 rfl rfl) rfl ?_
      exact ⟨_, rfl, by rw [← HBk.out]; exact ⟨s, A, k1, c1, B, m1, d1, rfl, h2⟩, HBa.out⟩
end Go.Proofs.Ytamcibmjpmibdaa
namespace Go.Proofs.Ytamcibmjpmibdaa
open Go.RowKit
set_option linter.unusedVariables false
set_option linter.unusedSimpArgs false

set_option maxRecDepth 100000 in
set_option maxHeartbeats 8000000 in
theorem primal_true (n m k nl cC cA cB cX cL b bx bl : Nat) (AC AA AB AX AL : Option Addr) (Ar : Nat → Option Addr) (cp : Nat → Nat) (A : Nat → Nat → Rat) (C B X L : Nat → Rat) (w : World) (hP : PrW w b n m k AC AA AB Ar (fun _ => n) cp A C B) (hX : Rs w w.heap.size AX n (PW w bx X)) (hL : Rs w w.heap.size AL nl (PW w bl L)) (hnl : m ≤ nl) (hp : Primal n m A L X)
    (hn : n ≤ 1000) (hm : m ≤ 1000) (hb1 : b ≤ 1400) (hbx : bx ≤ 1400) (hbl : bl ≤ 1400) (hcap : n * (b + bx + 1) ≤ 2000) :
    Calls Try.prog 41 #[.agg #[.slice AC n cC, .slice AA m cA, .slice AB k cB], .slice AX n cX, .slice AL nl cL] w (RV w (fun u _ => u = .bool true)) := by
  have HP := Lib.hid hP; have HX := Lib.hid hX; have HL := Lib.hid hL; have HPp := Lib.hid hp; have HCap := Lib.hid hcap; clear hP hX hL hcap
  have hpn := hp.nonneg
  clear hp
  go_enter Try.func41, Try.ntmps41
  go_upto_region 1 with (fail)
  have HQ := Lib.hid (Blk.new w 31 #[.slice AC n cC, .slice AA m cA, .slice AB k cB])
  have HB := Lib.hid (al w (.cells #[.slice AC n cC, .slice AA m cA, .slice AB k cB] 31))
  obtain ⟨gq, hgq⟩ : ∃ gq, gq = w.heap.size := ⟨_, rfl⟩
  rw [← hgq] at HQ ⊢
  clear hgq
  generalize w.alloc (.cells #[.slice AC n cC, .slice AA m cA, .slice AB k cB] 31) = w1 at *
  refine wp_region_seq (kss := [[], [(0, 8)], [], [(2, 10)], [(3, 11)], [(1, 9), (4, 12)], [(5, 13)], [(6, 14)], [(6, 14), (7, 15)], [(6, 14), (8, 16)], [(6, 14), (9, 17)]]) [(1, .slice AX n cX), (3, .pointer (some ⟨gq, 0, none⟩))] [fun zz _ => zz = .slice AX n cX, fun zz _ => zz = .int .i64 ((n : Int)), fun zz _ => zz = .pointer (some ⟨gq, 0, none⟩), fun zz _ => zz = .slice AC n cC, fun zz _ => zz = .int .i64 ((n : Int)), fun zz _ => zz = .bool false, fun zz _ => zz = .bool false, fun zz _ => zz = .slice AX n cX, fun zz _ => zz = .bool true, fun zz _ => zz = .bool false, fun zz _ => zz = .bool false] (by kernel_rfl) ⟨rfl, rfl, trivial⟩ ?_ ?_ ?_
  · exact ⟨fun _ _ _ h _ => h, fun _ _ _ h _ => h, fun _ _ _ h _ => h, fun _ _ _ h _ => h, fun _ _ _ h _ => h, fun _ _ _ h _ => h, fun _ _ _ h _ => h, fun _ _ _ h _ => h, fun _ _ _ h _ => h, fun _ _ _ h _ => h, fun _ _ _ h _ => h, trivial⟩
  · refine ⟨?_, ?_, ?_, ?_, ?_, ?_, ?_, ?_, ?_, ?_, ?_, trivial⟩
    · exact fun aa ww hb he hd => ob_plain rfl (gives_move _ rfl ⟨he.1, Below.refl _ _⟩)
    · exact fun aa ww hb he hd => ob_plain rfl (len_c Try.underlying28 rfl hd.1)
    · exact fun aa ww hb he hd => ob_plain rfl (fld_prb rfl (by decide) he.2.1)
    · exact fun aa ww hb he hd => ob_plain rfl (load_c28 rfl hd.1 (Blk.at0 HQ.out hb))
    · exact fun aa ww hb he hd => ob_plain rfl (len_c Try.underlying28 rfl hd.1)
    · exact fun aa ww hb he hd => ob_plain rfl (gives_ne_int ((n : Int)) ((n : Int)) .i64 _ _ _ _ rfl hd.1 hd.2.1 ⟨congrArg Value.bool (by simp), Below.refl _ _⟩)
    · exact fun aa ww hb he hd => ob_plain rfl (gives_move _ rfl ⟨hd.1, Below.refl _ _⟩)
    · exact fun aa ww hb he hd => ob_on 14 rfl (by kernel_rfl) hd.1 (gives_move _ rfl ⟨he.1, Below.refl _ _⟩)
    · exact fun aa ww hb he hd => ob_on 14 rfl (by kernel_rfl) hd.1 (gives_call1 _ _ _ rfl (by kernel_rfl) (by rw [show aa.eval (.tmp 15) = .slice AX n cX from hd.2.1]; exact ret_t (least_any n cX bx AX X _ (Rs.newW HX.out (bthen HB.out hb HB.out.size)) (by omega)) (t_iff hpn)))
    · exact fun aa ww hb he hd => ob_on 14 rfl (by kernel_rfl) hd.1 (gives_not true _ _ rfl hd.2.1 ⟨rfl, Below.refl _ _⟩)
    · exact fun aa ww hb he hd => ob_plain rfl (gives_pick false _ _ _ rfl hd.1 ⟨hd.2.1, Below.refl _ _⟩)
  intro vs w2 hb hR
  have e18 : vs 10 = .bool false := hR 10 (by decide)
  clear hR
  simp only [putsL, Nat.zero_add, Nat.reduceAdd, List.take_succ_cons, List.take_zero, Act.put, List.setIfInBounds_toArray, List.set_cons_zero, List.set_cons_succ]
  rw [e18]
  clear e18
  clear hpn
  have HQ2 := Lib.hid (HQ.out.keep hb)
  have HB2 := Lib.hid (bthen HB.out hb HB.out.size)
  clear HQ HB hb
  go_wp2_with fail
  go_loopg [7] m (fun g iv wr => ∃ i : Nat, iv = .int .i64 i ∧ i + g = m ∧ Hid (Blk wr gq 31 #[.slice AC n cC, .slice AA m cA, .slice AB k cB] ∧ Below w.heap.size w wr))
  case atStart => exact ⟨0, rfl, by omega, Lib.hid ⟨HQ2.out, HB2.out⟩⟩
  case round =>
    obtain ⟨i, rfl, him, HI⟩ := hrel
    clear HQ2 HB2
    have HQ := Lib.hid HI.out.1
    have HB := Lib.hid HI.out.2
    clear HI
    have c1 := HQ.out.at1 (Below.refl _ _)
    by_cases hi : i < m
    · have i1 : ((i : Int) < (m : Int)) := by omega
      obtain ⟨adA, rfl, -, -⟩ := (HP.out.new HB.out).at_ hi
      obtain ⟨adL, -, -, -, -, -, -, -, rfl, -⟩ := HL.out.at_ (show i < nl by omega)
      have hq : decide (rcq (sm (fun l => A i l * X l) n) (L i) > 0) = false := rcq_gtb.trans (decide_eq_false (by have := HPp.out.le i hi; grind))
      go_upto_region 6 with (fail)
      clear c1
      refine wp_region_each (kss := [[], [(0, 26)], [], [(1, 27), (2, 28)], [(3, 29)], [], [(4, 30), (5, 31)], [], [], [(7, 33), (8, 34)], [(9, 35)], [(6, 32), (10, 36)], [(11, 37)]]) [(3, .pointer (some ⟨gq, 0, none⟩)), (7, .int .i64 ((i : Int))), (1, .slice AX n cX), (2, .slice (some adL) nl cL)] [fun zz _ => zz = .pointer (some ⟨gq, 1, none⟩), fun zz _ => zz = .slice (some adA) m cA, fun zz _ => zz = .int .i64 ((i : Int)), fun zz _ => zz = .pointer (some (Addr.add adA i)), fun zz _ => zz = .slice (Ar i) n (cp i), fun zz _ => zz = .slice AX n cX, Rw (2 + n * (b + bx + 1)) (sm (fun l => (A i) l * X l) n), fun zz _ => zz = .slice (some adL) nl cL, fun zz _ => zz = .int .i64 ((i : Int)), fun zz _ => zz = .pointer (some (Addr.add adL (i * 3))), Rw (bl) (L i), fun zz _ => zz = .int .i64 (rcq (sm (fun l => (A i) l * X l) n) (L i)), fun zz _ => zz = .bool false] (by kernel_rfl) (by kernel_rfl) ⟨rfl, rfl, rfl, rfl, trivial⟩ ?_ ?_ ?_
      · exact ⟨fun _ _ _ h _ => h, fun _ _ _ h _ => h, fun _ _ _ h _ => h, fun _ _ _ h _ => h, fun _ _ _ h _ => h, fun _ _ _ h _ => h, fun _ _ _ h hb => h.new hb, fun _ _ _ h _ => h, fun _ _ _ h _ => h, fun _ _ _ h _ => h, fun _ _ _ h hb => h.new hb, fun _ _ _ h _ => h, fun _ _ _ h _ => h, trivial⟩
      · refine ⟨?_, ?_, ?_, ?_, ?_, ?_, ?_, ?_, ?_, ?_, ?_, ?_, ?_, trivial⟩
        · exact fun aa ww hb he hd => ob_plain rfl (fld_prb rfl (by decide) he.1)
        · exact fun aa ww hb he hd => ob_plain rfl (load_c29 rfl hd.1 (Blk.at1 HQ.out hb))
        · exact fun aa ww hb he hd => ob_plain rfl (gives_move _ rfl ⟨he.2.1, Below.refl _ _⟩)
        · exact fun aa ww hb he hd => ob_plain rfl (idx_rws (by omega) rfl hd.1 hd.2.1)
        · exact fun aa ww hb he hd => ob_plain rfl (load_c28 rfl hd.1 (PrW.cell (PrW.new HP.out (bthen HB.out hb HB.out.size)) (i := i) (by omega)))
        · exact fun aa ww hb he hd => ob_plain rfl (gives_move _ rfl ⟨he.2.2.1, Below.refl _ _⟩)
        · exact fun aa ww hb he hd => ob_plain rfl (gives_call2 _ _ _ _ rfl (by kernel_rfl) (by rw [show aa.eval (.tmp 30) = .slice (Ar i) n (cp i) from hd.1, show aa.eval (.tmp 31) = .slice AX n cX from hd.2.1]; exact ldot_any n n (cp i) cX b bx _ _ (A i) X _ (PrW.row (PrW.new HP.out (bthen HB.out hb HB.out.size)) i (by omega)) (Rs.newW HX.out (bthen HB.out hb HB.out.size)) (by omega) (by omega) (by omega) (by omega) HCap.out))
        · exact fun aa ww hb he hd => ob_plain rfl (gives_move _ rfl ⟨he.2.2.2.1, Below.refl _ _⟩)
        · exact fun aa ww hb he hd => ob_plain rfl (gives_move _ rfl ⟨he.2.1, Below.refl _ _⟩)
        · exact fun aa ww hb he hd => ob_plain rfl (idx_rs (by omega) rfl hd.1 hd.2.1)
        · exact fun aa ww hb he hd => ob_plain rfl (load_rw rfl hd.1 (Rs.newW HL.out (bthen HB.out hb HB.out.size)) (by omega))
        · exact fun aa ww hb he hd => ob_plain rfl (gives_call2 _ _ _ _ rfl (by kernel_rfl) (cmp_v (hd.1) (hd.2.1) (by have := HCap.out; omega)))
        · exact fun aa ww hb he hd => ob_plain rfl (gives_gt_int (rcq (sm (fun l => (A i) l * X l) n) (L i)) 0 .i64 _ _ _ _ rfl hd.1 rfl ⟨congrArg Value.bool (hq), Below.refl _ _⟩)
      intro vs w4 hb hR
      have e38 : vs 12 = .bool false := hR 12 (by decide)
      clear hR
      simp only [putsL, Nat.zero_add, Nat.reduceAdd, List.take_succ_cons, List.take_zero, Act.put, List.setIfInBounds_toArray, List.set_cons_zero, List.set_cons_succ]
      rw [e38]
      clear e38
      have HQn := Lib.hid (HQ.out.keep hb)
      have HBn := Lib.hid (bthen HB.out hb HB.out.size)
      clear hq hb HQ HB
      go_wp2_with fail
      go_roundg (gk - 1)
      case measure => omega
      case rel => exact ⟨i + 1, by go_num, by omega, Lib.hid ⟨HQn.out, HBn.out⟩⟩
    · obtain rfl : m = i := by omega
      go_wp2_with fail
      go_ret
      exact ⟨_, rfl, rfl, HB.out⟩
set_option maxRecDepth 100000 in
set_option maxHeartbeats 8000000 in
theorem dual_true (n m k cC cA cB cX cL b bx bl : Nat) (AC AA AB AX AL : Option Addr) (Ar : Nat → Option Addr) (cp : Nat → Nat) (A : Nat → Nat → Rat) (C B X L : Nat → Rat) (w : World) (hP : PrW w b n m k AC AA AB Ar (fun _ => n) cp A C B) (hX : Rs w w.heap.size AX m (PW w bx X)) (hL : Rs w w.heap.size AL n (PW w bl L)) (hp : DualF n m A L X)
    (hn : n ≤ 1000) (hm : m ≤ 1000) (hb1 : b ≤ 1400) (hbx : bx ≤ 1400) (hbl : bl ≤ 1400) (hcap : m * (bx + b + 1) ≤ 2000) :
    Calls Try.prog 42 #[.agg #[.slice AC n cC, .slice AA m cA, .slice AB k cB], .slice AX m cX, .slice AL n cL] w (RV w (fun u _ => u = .bool true)) := by
  have HP := Lib.hid hP; have HX := Lib.hid hX; have HL := Lib.hid hL; have HPp := Lib.hid hp; have HCap := Lib.hid hcap; clear hP hX hL hcap
  have hpn := hp.nonneg
  clear hp
  go_enter Try.func42, Try.ntmps42
  go_upto_region 1 with (fail)
  have HQ := Lib.hid (Blk.new w 31 #[.slice AC n cC, .slice AA m cA, .slice AB k cB])
  have HB := Lib.hid (al w (.cells #[.slice AC n cC, .slice AA m cA, .slice AB k cB] 31))
  obtain ⟨gq, hgq⟩ : ∃ gq, gq = w.heap.size := ⟨_, rfl⟩
  rw [← hgq] at HQ ⊢
  clear hgq
  generalize w.alloc (.cells #[.slice AC n cC, .slice AA m cA, .slice AB k cB] 31) = w1 at *
  refine wp_region_seq (kss := [[], [(0, 10)], [], [(2, 12)], [(3, 13)], [(1, 11), (4, 14)], [(5, 15)], [(6, 16)], [(6, 16), (7, 17)], [(6, 16), (8, 18)], [(6, 16), (9, 19)]]) [(1, .slice AX m cX), (3, .pointer (some ⟨gq, 0, none⟩))] [fun zz _ => zz = .slice AX m cX, fun zz _ => zz = .int .i64 ((m : Int)), fun zz _ => zz = .pointer (some ⟨gq, 1, none⟩), fun zz _ => zz = .slice AA m cA, fun zz _ => zz = .int .i64 ((m : Int)), fun zz _ => zz = .bool false, fun zz _ => zz = .bool false, fun zz _ => zz = .slice AX m cX, fun zz _ => zz = .bool true, fun zz _ => zz = .bool false, fun zz _ => zz = .bool false] (by kernel_rfl) ⟨rfl, rfl, trivial⟩ ?_ ?_ ?_
  · exact ⟨fun _ _ _ h _ => h, fun _ _ _ h _ => h, fun _ _ _ h _ => h, fun _ _ _ h _ => h, fun _ _ _ h _ => h, fun _ _ _ h _ => h, fun _ _ _ h _ => h, fun _ _ _ h _ => h, fun _ _ _ h _ => h, fun _ _ _ h _ => h, fun _ _ _ h _ => h, trivial⟩
  · refine ⟨?_, ?_, ?_, ?_, ?_, ?_, ?_, ?_, ?_, ?_, ?_, trivial⟩
    · exact fun aa ww hb he hd => ob_plain rfl (gives_move _ rfl ⟨he.1, Below.refl _ _⟩)
    · exact fun aa ww hb he hd => ob_plain rfl (len_c Try.underlying28 rfl hd.1)
    · exact fun aa ww hb he hd => ob_plain rfl (fld_prb rfl (by decide) he.2.1)
    · exact fun aa ww hb he hd => ob_plain rfl (load_c29 rfl hd.1 (Blk.at1 HQ.out hb))
    · exact fun aa ww hb he hd => ob_plain rfl (len_c Try.underlying29 rfl hd.1)
    · exact fun aa ww hb he hd => ob_plain rfl (gives_ne_int ((m : Int)) ((m : Int)) .i64 _ _ _ _ rfl hd.1 hd.2.1 ⟨congrArg Value.bool (by simp), Below.refl _ _⟩)
    · exact fun aa ww hb he hd => ob_plain rfl (gives_move _ rfl ⟨hd.1, Below.refl _ _⟩)
    · exact fun aa ww hb he hd => ob_on 16 rfl (by kernel_rfl) hd.1 (gives_move _ rfl ⟨he.1, Below.refl _ _⟩)
    · exact fun aa ww hb he hd => ob_on 16 rfl (by kernel_rfl) hd.1 (gives_call1 _ _ _ rfl (by kernel_rfl) (by rw [show aa.eval (.tmp 17) = .slice AX m cX from hd.2.1]; exact ret_t (least_any m cX bx AX X _ (Rs.newW HX.out (bthen HB.out hb HB.out.size)) (by omega)) (t_iff hpn)))
    · exact fun aa ww hb he hd => ob_on 16 rfl (by kernel_rfl) hd.1 (gives_not true _ _ rfl hd.2.1 ⟨rfl, Below.refl _ _⟩)
    · exact fun aa ww hb he hd => ob_plain rfl (gives_pick false _ _ _ rfl hd.1 ⟨hd.2.1, Below.refl _ _⟩)
  intro vs w2 hb hR
  have e20 : vs 10 = .bool false := hR 10 (by decide)
  clear hR
  simp only [putsL, Nat.zero_add, Nat.reduceAdd, List.take_succ_cons, List.take_zero, Act.put, List.setIfInBounds_toArray, List.set_cons_zero, List.set_cons_succ]
  rw [e20]
  clear e20
  clear hpn
  have HQ2 := Lib.hid (HQ.out.keep hb)
  have HB2 := Lib.hid (bthen HB.out hb HB.out.size)
  clear HQ HB hb
  go_wp2_with fail
  go_loopg [7] n (fun g iv wr => ∃ j : Nat, iv = .int .i64 j ∧ j + g = n ∧ Hid (Blk wr gq 31 #[.slice AC n cC, .slice AA m cA, .slice AB k cB] ∧ Below w.heap.size w wr))
  case atStart => exact ⟨0, rfl, by omega, Lib.hid ⟨HQ2.out, HB2.out⟩⟩
  case round =>
    obtain ⟨j, rfl, hjn, HI⟩ := hrel
    clear HQ2 HB2
    have HQ := Lib.hid HI.out.1
    have HB := Lib.hid HI.out.2
    clear HI
    obtain ⟨G, hG⟩ : ∃ G, G = gk := ⟨_, rfl⟩
    subst hG
    obtain ⟨w6, hw6⟩ : ∃ w6, w6 = wr := ⟨_, rfl⟩
    subst hw6
    by_cases hj : j < n
    · have j1 : ((j : Int) < (n : Int)) := by omega
      obtain ⟨adL, -, -, -, -, -, -, -, rfl, -⟩ := HL.out.at_ hj
      have c1 := HQ.out.at1 (Below.refl _ _)
      go_wp2_with fail
      clear c1
      obtain ⟨bs, hbs⟩ : ∃ bs, bs = w6.heap.size := ⟨_, rfl⟩
      have HBs := Lib.hid hbs; clear hbs
      go_loopg [9, 8] m (fun g iv ov wr => ∃ (i c1 : Nat) (A1 : Option Addr), iv = .int .i64 i ∧ ov = .slice A1 i c1 ∧ i + g = m ∧ Hid (OR wr bs (.slice A1 i c1) i (PW wr b (fun l => A l j)) ∧ Below w6.heap.size w6 wr))
      case atStart => exact ⟨0, 0, none, rfl, rfl, by omega, Lib.hid ⟨OR.nil _ _ _, Below.refl _ _⟩⟩
      case round =>
        obtain ⟨i, c1, A1, rfl, rfl, him, HI⟩ := hrel
        have HO := Lib.hid HI.out.1
        have HB6 := Lib.hid HI.out.2
        clear HI
        have HQr := Lib.hid (HQ.out.keep HB6.out)
        have HBr := Lib.hid (bthen HB.out HB6.out HB.out.size)
        by_cases hi : i < m
        · have i1 : ((i : Int) < (m : Int)) := by omega
          obtain ⟨adA, rfl, -, -⟩ := HP.out.at_ hi
          obtain ⟨adr, -, -, -, -, -, -, -, hadr, -⟩ := (HP.out.row i hi).at_ hj
          have c1 := HQr.out.at1 (Below.refl _ _)
          go_upto_region 10 with (fail)
          clear c1
          refine wp_region_joins (kss := [[], [], [(1, 35)], [], [(2, 36), (3, 37)], [(4, 38)], [], [(5, 39), (6, 40)], [(7, 41)], [(8, 42)]]) [(8, .slice A1 i c1), (3, .pointer (some ⟨gq, 0, none⟩)), (9, .int .i64 ((i : Int))), (7, .int .i64 ((j : Int)))] [fun zz _ => zz = .slice A1 i c1, fun zz _ => zz = .pointer (some ⟨gq, 1, none⟩), fun zz _ => zz = .slice (some adA) m cA, fun zz _ => zz = .int .i64 ((i : Int)), fun zz _ => zz = .pointer (some (Addr.add adA i)), fun zz _ => zz = .slice (some adr) n (cp i), fun zz _ => zz = .int .i64 ((j : Int)), fun zz _ => zz = .pointer (some (Addr.add adr (j * 3))), Rw (b) ((A i) j), OneW (b) ((A i) j)] 10 (by kernel_rfl) ⟨rfl, rfl, rfl, rfl, trivial⟩ [false, false, false, false, false, false, false, false, false, false] ?_ ?_ ?_
          · exact ⟨fun _ _ _ h _ => h, fun _ _ _ h _ => h, fun _ _ _ h _ => h, fun _ _ _ h _ => h, fun _ _ _ h _ => h, fun _ _ _ h _ => h, fun _ _ _ h _ => h, fun _ _ _ h _ => h, fun _ _ _ h hb => h.new hb, fun _ _ _ h hb => h.new hb, trivial⟩
          · refine ⟨?_, ?_, ?_, ?_, ?_, ?_, ?_, ?_, ?_, ?_, trivial⟩
            · exact fun aa ww hb he hd => ob_plain rfl (gives_move _ rfl ⟨he.1, Below.refl _ _⟩)
            · exact fun aa ww hb he hd => ob_plain rfl (fld_prb rfl (by decide) he.2.1)
            · exact fun aa ww hb he hd => ob_plain rfl (load_c29 rfl hd.1 (Blk.at1 HQr.out hb))
            · exact fun aa ww hb he hd => ob_plain rfl (gives_move _ rfl ⟨he.2.2.1, Below.refl _ _⟩)
            · exact fun aa ww hb he hd => ob_plain rfl (idx_rws (by omega) rfl hd.1 hd.2.1)
            · exact fun aa ww hb he hd => ob_plain rfl (load_c28 rfl hd.1 (by have h := PrW.cell (PrW.new HP.out (bthen HBr.out hb HBr.out.size)) (i := i) (by omega); rw [hadr] at h; exact h))
            · exact fun aa ww hb he hd => ob_plain rfl (gives_move _ rfl ⟨he.2.2.2.1, Below.refl _ _⟩)
            · exact fun aa ww hb he hd => ob_plain rfl (idx_rs (by omega) rfl hd.1 hd.2.1)
            · exact fun aa ww hb he hd => ob_plain rfl (load_rw rfl hd.1 ((by have h := PrW.row (PrW.new HP.out (bthen HBr.out hb HBr.out.size)) i (by omega); rw [hadr] at h; exact h)) (by omega))
            · exact fun aa ww hb he hd => ob_plain rfl (gives_one_w rfl hd.1)
          intro vs w7 hb hR
          have r43 : OneW (b) ((A i) j) (vs 9) w7 := hR 9 (by decide)
          have e34 : vs 0 = .slice A1 i c1 := hR 0 (by decide)
          clear hR
          simp only [putsL, Nat.zero_add, Nat.reduceAdd, List.take_succ_cons, List.take_zero, Act.put, List.setIfInBounds_toArray, List.set_cons_zero, List.set_cons_succ]
          rw [e34]
          clear e34
          obtain ⟨A7, e43, hr1⟩ := r43
          rw [e43]
          clear e43 hadr
          have HO2 := HO.out.below hb (fun _ _ _ hv => PW.keep hv (KeepsN.below hb))
          show wpOps _ _ _ [10, 11] _ _
          refine wpOps_next rfl rfl (wp_push_one _ _ rfl bs (.slice A1 i c1) i _ rfl HO2 w7.heap.size A7 1 _ rfl hr1 (by omega) (by have := HBs.out; have := HB6.out.size; have := hb.size; omega) ?_)
          intro v' w8 ho hgr hor kp
          have hO := ho (PW w8 b (fun l => A l j)) (fun l u hl hv => PW.keep hv kp) (fun u hv => PW.keep (f := fun _ => A i j) (j := 0) hv kp)
          obtain ⟨A10, c10, rfl⟩ := hO.form
          show wpOps _ _ _ _ (Act.put _ (some 44) _) _
          simp only [Act.put, List.setIfInBounds_toArray, List.set_cons_zero, List.set_cons_succ]
          have hba : Below w6.heap.size w6 w8 := by obtain ⟨xs, h1, h2⟩ := HO2; exact Below.appended (bthen HB6.out hb HB6.out.size) h1.own hgr (by have := HB6.out.size; have := hb.size; omega) (by rw [HBs.out]; exact Nat.le_refl _)
          have HO3 := Lib.hid hO; have HB63 := Lib.hid hba
          clear ho hO hgr hor kp hr1 HO2 hb hba HO HB6 HQr HBr
          refine wpOps_next rfl rfl (wp_assign 8 (.tmp 44) rfl rfl (.slice A10 (i + 1) c10) rfl ?_)
          simp only [Act.put, List.setIfInBounds_toArray, List.set_cons_zero, List.set_cons_succ]
          unfold wpOps
          go_wp2_with fail
          go_roundg (gk - 1)
          case measure => omega
          case rel => exact ⟨i + 1, c10, A10, by go_num, rfl, by omega, Lib.hid ⟨HO3.out, HB63.out⟩⟩
        · obtain rfl : m = i := by omega
          have c1 := HQr.out.at1 (Below.refl _ _)
          have hq : decide (rcq (sm (fun l => X l * A l j) m) (L j) < 0) = false := rcq_ltd.trans (decide_eq_false (by have := HPp.out.ge j hj; grind))
          go_upto_region 11 with (fail)
          clear c1
          refine wp_region_each (kss := [[], [], [(0, 45), (1, 46)], [], [], [(3, 48), (4, 49)], [(5, 50)], [(2, 47), (6, 51)], [(7, 52)]]) [(1, .slice AX m cX), (8, .slice A1 m c1), (2, .slice (some adL) n cL), (7, .int .i64 ((j : Int)))] [fun zz _ => zz = .slice AX m cX, fun zz _ => zz = .slice A1 m c1, Rw (2 + m * (bx + b + 1)) (sm (fun l => X l * (fun l => A l j) l) m), fun zz _ => zz = .slice (some adL) n cL, fun zz _ => zz = .int .i64 ((j : Int)), fun zz _ => zz = .pointer (some (Addr.add adL (j * 3))), Rw (bl) (L j), fun zz _ => zz = .int .i64 (rcq (sm (fun l => X l * (fun l => A l j) l) m) (L j)), fun zz _ => zz = .bool false] (by kernel_rfl) (by kernel_rfl) ⟨rfl, rfl, rfl, rfl, trivial⟩ ?_ ?_ ?_
          · exact ⟨fun _ _ _ h _ => h, fun _ _ _ h _ => h, fun _ _ _ h hb => h.new hb, fun _ _ _ h _ => h, fun _ _ _ h _ => h, fun _ _ _ h _ => h, fun _ _ _ h hb => h.new hb, fun _ _ _ h _ => h, fun _ _ _ h _ => h, trivial⟩
          · refine ⟨?_, ?_, ?_, ?_, ?_, ?_, ?_, ?_, ?_, trivial⟩
            · exact fun aa ww hb he hd => ob_plain rfl (gives_move _ rfl ⟨he.1, Below.refl _ _⟩)
            · exact fun aa ww hb he hd => ob_plain rfl (gives_move _ rfl ⟨he.2.1, Below.refl _ _⟩)
            · exact fun aa ww hb he hd => ob_plain rfl (gives_call2 _ _ _ _ rfl (by kernel_rfl) (by rw [show aa.eval (.tmp 45) = .slice AX m cX from hd.1, show aa.eval (.tmp 46) = .slice A1 m c1 from hd.2.1]; exact ldot_any m m cX c1 bx b _ _ X (fun l => A l j) _ (Rs.newW HX.out (bthen HBr.out hb HBr.out.size)) (Rs.newW HO.out.rs hb) (by omega) (by omega) (by omega) (by omega) HCap.out))
            · exact fun aa ww hb he hd => ob_plain rfl (gives_move _ rfl ⟨he.2.2.1, Below.refl _ _⟩)
            · exact fun aa ww hb he hd => ob_plain rfl (gives_move _ rfl ⟨he.2.2.2.1, Below.refl _ _⟩)
            · exact fun aa ww hb he hd => ob_plain rfl (idx_rs (by omega) rfl hd.1 hd.2.1)
            · exact fun aa ww hb he hd => ob_plain rfl (load_rw rfl hd.1 (Rs.newW HL.out (bthen HBr.out hb HBr.out.size)) (by omega))
            · exact fun aa ww hb he hd => ob_plain rfl (gives_call2 _ _ _ _ rfl (by kernel_rfl) (cmp_v (hd.1) (hd.2.1) (by have := HCap.out; omega)))
            · exact fun aa ww hb he hd => ob_plain rfl (gives_lt_int (rcq (sm (fun l => X l * (fun l => A l j) l) m) (L j)) 0 .i64 _ _ _ _ rfl hd.1 rfl ⟨congrArg Value.bool (hq), Below.refl _ _⟩)
          intro vs w8 hb hR
          have e53 : vs 8 = .bool false := hR 8 (by decide)
          clear hR
          simp only [putsL, Nat.zero_add, Nat.reduceAdd, List.take_succ_cons, List.take_zero, Act.put, List.setIfInBounds_toArray, List.set_cons_zero, List.set_cons_succ]
          rw [e53]
          clear e53
          have HQn := Lib.hid (HQr.out.keep hb)
          have HBn := Lib.hid (bthen HBr.out hb HBr.out.size)
          clear hq hb HQ HB HQr HBr HO HB6
          go_wp2_with fail
          go_roundg (G - 1)
          case measure => omega
          case rel => exact ⟨j + 1, by go_num, by omega, Lib.hid ⟨HQn.out, HBn.out⟩⟩
    · obtain rfl : n = j := by omega
      go_wp2_with fail
      go_ret
      exact ⟨_, rfl, rfl, HB.out⟩
end Go.Proofs.Ytamcibmjpmibdaa
namespace Go.Proofs.Ytamcibmjpmibdaa
open Go.RowKit
set_option linter.unusedVariables false
set_option linter.unusedSimpArgs false

set_option maxRecDepth 100000 in
set_option maxHeartbeats 16000000 in
theorem right_true (n m kX kY kR cC cA cB cX cY cR : Nat) (AC AA AB AX AY AR : Option Addr) (Ar : Nat → Option Addr) (cp : Nat → Nat) (A : Nat → Nat → Rat) (C B X Y R : Nat → Rat) (out : Nat) (v : Rat) (s : Bool) (A0 B0 : Option Addr) (k0 c0 m0 d0 : Nat) (w : World)
    (hP : PrW w 2 n m m AC AA AB Ar (fun _ => n) cp A C B) (hX : Rs w w.heap.size AX kX (PW w 140 X)) (hY : Rs w w.heap.size AY kY (PW w 140 Y)) (hR : Rs w w.heap.size AR kR (PW w 140 R)) (hV : Rw 140 v (.agg #[.bool s, .slice A0 k0 c0, .slice B0 m0 d0]) w) (hc : Cert n m A B C out X Y R v)
    (hln : (out = 0 ∧ kX = n ∧ kY = m ∧ kR = 0) ∨ (out = 1 ∧ kX = 0 ∧ kY = m ∧ kR = 0) ∨ (out = 2 ∧ kX = n ∧ kY = 0 ∧ kR = n)) (hn : n ≤ 6) (hm : m ≤ 6) :
    Calls Try.prog 15 #[.agg #[.slice AC n cC, .slice AA m cA, .slice AB m cB], .agg #[.int .i64 (out : Int), .slice AX kX cX, .slice AY kY cY, .slice AR kR cR, .bool s, .slice A0 k0 c0, .slice B0 m0 d0]] w (RV w (fun u _ => u = .bool true)) := by
  have HP := Lib.hid hP; have HX := Lib.hid hX; have HY := Lib.hid hY; have HR := Lib.hid hR; have HV := Lib.hid hV; have HC := Lib.hid hc; clear hP hX hY hR hV hc
  go_enter Try.func15, Try.ntmps15
  go_upto_region 1 with (fail)
  have hbw := bthen (al w (.cells #[.slice AC n cC, .slice AA m cA, .slice AB m cB] 31)) (al _ (.cells #[.int .i64 (out : Int), .slice AX kX cX, .slice AY kY cY, .slice AR kR cR, .bool s, .slice A0 k0 c0, .slice B0 m0 d0] 43)) (by simp)
  have HQ := Lib.hid ((Blk.new w 31 #[.slice AC n cC, .slice AA m cA, .slice AB m cB]).keep (al _ (.cells #[.int .i64 (out : Int), .slice AX kX cX, .slice AY kY cY, .slice AR kR cR, .bool s, .slice A0 k0 c0, .slice B0 m0 d0] 43)))
  have HS := Lib.hid (Blk.new (w.alloc (.cells #[.slice AC n cC, .slice AA m cA, .slice AB m cB] 31)) 43 #[.int .i64 (out : Int), .slice AX kX cX, .slice AY kY cY, .slice AR kR cR, .bool s, .slice A0 k0 c0, .slice B0 m0 d0])
  rw [show (w.alloc (.cells #[.slice AC n cC, .slice AA m cA, .slice AB m cB] 31)).heap.size = w.heap.size + 1 from by simp] at HS
  have HB := Lib.hid hbw
  clear hbw
  generalize (w.alloc (.cells #[.slice AC n cC, .slice AA m cA, .slice AB m cB] 31)).alloc (.cells #[.int .i64 (out : Int), .slice AX kX cX, .slice AY kY cY, .slice AR kR cR, .bool s, .slice A0 k0 c0, .slice B0 m0 d0] 43) = w1 at *
  obtain ⟨gq, hgq⟩ : ∃ gq, gq = w.heap.size := ⟨_, rfl⟩
  obtain ⟨gs, hgs⟩ : ∃ gs, gs = w.heap.size + 1 := ⟨_, rfl⟩
  rw [← hgs] at HS ⊢
  rw [← hgq] at HQ ⊢
  have HGgq := Lib.hid (show w.heap.size ≤ gq ∧ w.heap.size ≤ gs from by omega)
  clear hgq hgs
  have s0 := Blk.at0 HS.out (Below.refl _ _)
  rcases hln with ⟨h1, h2, h3, h4⟩ | ⟨h1, h2, h3, h4⟩ | ⟨h1, h2, h3, h4⟩
  · subst out; subst kX; subst kY; subst kR
    obtain ⟨q1, q2, q3, q4⟩ := HC.out.of0
    have H1 := Lib.hid q1; have H2 := Lib.hid q2; have H3 := Lib.hid q3; have H4 := Lib.hid q4; clear q1 q2 q3 q4
    go_upto_region 3 with (fail)
    clear s0
    refine wp_region_each (kss := [[], [(0, 9)], [(1, 10)], [(2, 11)], [(3, 12)], [(4, 13)], [(4, 13)], [(4, 13), (6, 15)], [(4, 13)], [(4, 13), (8, 17)], [(4, 13), (5, 14), (7, 16), (9, 18)], [(4, 13), (10, 19)], [(11, 20)], [(12, 21)], [(12, 21)], [(12, 21), (14, 23)], [(12, 21)], [(12, 21), (16, 25)], [(12, 21), (13, 22), (15, 24), (17, 26)], [(12, 21), (18, 27)], [(19, 28)], [(20, 29)], [(20, 29), (21, 30)], [(20, 29)], [(20, 29), (23, 32)], [(20, 29), (22, 31), (24, 33)], [(20, 29)], [(20, 29), (26, 35)], [(20, 29), (25, 34), (27, 36)], [(20, 29), (28, 37)], [(20, 29), (29, 38)], [(30, 39)], [(31, 40)], [(31, 40), (32, 41)], [(31, 40)], [(31, 40), (34, 43)], [(31, 40), (33, 42), (35, 44)], [(31, 40)], [(31, 40), (37, 46)], [(31, 40), (36, 45), (38, 47)], [(31, 40), (39, 48)], [(31, 40), (40, 49)], [(41, 50)]]) [(3, .pointer (some ⟨gs, 0, none⟩)), (2, .pointer (some ⟨gq, 0, none⟩))] [fun zz _ => zz = .pointer (some ⟨gs, 3, none⟩), fun zz _ => zz = .slice AR 0 cR, fun zz _ => zz = .int .i64 ((0 : Int)), fun zz _ => zz = .bool true, fun zz _ => zz = .bool true, fun zz _ => zz = .agg #[.slice AC n cC, .slice AA m cA, .slice AB m cB], fun zz _ => zz = .pointer (some ⟨gs, 1, none⟩), fun zz _ => zz = .slice AX n cX, fun zz _ => zz = .pointer (some ⟨gq, 2, none⟩), fun zz _ => zz = .slice AB m cB, fun zz _ => zz = .bool true, fun zz _ => zz = .bool true, fun zz _ => zz = .bool true, fun zz _ => zz = .agg #[.slice AC n cC, .slice AA m cA, .slice AB m cB], fun zz _ => zz = .pointer (some ⟨gs, 2, none⟩), fun zz _ => zz = .slice AY m cY, fun zz _ => zz = .pointer (some ⟨gq, 0, none⟩), fun zz _ => zz = .slice AC n cC, fun zz _ => zz = .bool true, fun zz _ => zz = .bool true, fun zz _ => zz = .bool true, fun zz _ => zz = .pointer (some ⟨gq, 0, none⟩), fun zz _ => zz = .slice AC n cC, fun zz _ => zz = .pointer (some ⟨gs, 1, none⟩), fun zz _ => zz = .slice AX n cX, Rw (2 + n * (2 + 140 + 1)) (sm (fun l => C l * X l) n), fun zz _ => zz = .pointer (some ⟨gs, 4, none⟩), Rw (140) (v), fun zz _ => zz = .int .i64 (rcq (sm (fun l => C l * X l) n) v), fun zz _ => zz = .bool true, fun zz _ => zz = .bool true, fun zz _ => zz = .bool true, fun zz _ => zz = .pointer (some ⟨gq, 2, none⟩), fun zz _ => zz = .slice AB m cB, fun zz _ => zz = .pointer (some ⟨gs, 2, none⟩), fun zz _ => zz = .slice AY m cY, Rw (2 + m * (2 + 140 + 1)) (sm (fun l => B l * Y l) m), fun zz _ => zz = .pointer (some ⟨gs, 4, none⟩), Rw (140) (v), fun zz _ => zz = .int .i64 (rcq (sm (fun l => B l * Y l) m) v), fun zz _ => zz = .bool true, fun zz _ => zz = .bool true, fun zz _ => zz = .bool true] (by kernel_rfl) (by kernel_rfl) ⟨rfl, rfl, trivial⟩ ?_ ?_ ?_
    · exact ⟨sI, sI, sI, sI, sI, sI, sI, sI, sI, sI, sI, sI, sI, sI, sI, sI, sI, sI, sI, sI, sI, sI, sI, sI, sI, fun _ _ _ h hb => h.new hb, sI, fun _ _ _ h hb => h.new hb, sI, sI, sI, sI, sI, sI, sI, sI, fun _ _ _ h hb => h.new hb, sI, fun _ _ _ h hb => h.new hb, sI, sI, sI, sI, trivial⟩
    · refine ⟨?_, ?_, ?_, ?_, ?_, ?_, ?_, ?_, ?_, ?_, ?_, ?_, ?_, ?_, ?_, ?_, ?_, ?_, ?_, ?_, ?_, ?_, ?_, ?_, ?_, ?_, ?_, ?_, ?_, ?_, ?_, ?_, ?_, ?_, ?_, ?_, ?_, ?_, ?_, ?_, ?_, ?_, ?_, trivial⟩
      · exact fun aa ww hb he hd => ob_plain rfl (fld_sol rfl (by decide) he.1)
      · exact fun aa ww hb he hd => ob_plain rfl (load_c28 rfl hd.1 (Blk.at3 HS.out hb))
      · exact fun aa ww hb he hd => ob_plain rfl (len_c Try.underlying28 rfl hd.1)
      · exact fun aa ww hb he hd => ob_plain rfl (gives_eq_int ((0 : Int)) 0 .i64 _ _ _ _ rfl hd.1 rfl ⟨congrArg Value.bool (rfl), Below.refl _ _⟩)
      · exact fun aa ww hb he hd => ob_plain rfl (gives_move _ rfl ⟨hd.1, Below.refl _ _⟩)
      · exact fun aa ww hb he hd => ob_on 13 rfl (by kernel_rfl) hd.1 (load_prb rfl he.2.1 (Blk.keep HQ.out hb))
      · exact fun aa ww hb he hd => ob_on 13 rfl (by kernel_rfl) hd.1 (fld_sol rfl (by decide) he.1)
      · exact fun aa ww hb he hd => ob_on 13 rfl (by kernel_rfl) hd.1 (load_c28 rfl hd.2.1 (Blk.at1 HS.out hb))
      · exact fun aa ww hb he hd => ob_on 13 rfl (by kernel_rfl) hd.1 (fld_prb rfl (by decide) he.2.1)
      · exact fun aa ww hb he hd => ob_on 13 rfl (by kernel_rfl) hd.1 (load_c28 rfl hd.2.1 (Blk.at2 HQ.out hb))
      · exact fun aa ww hb he hd => ob_on 13 rfl (by kernel_rfl) hd.1 (gives_call3 _ _ _ _ _ rfl (by kernel_rfl) (by rw [show aa.eval (.tmp 14) = .agg #[.slice AC n cC, .slice AA m cA, .slice AB m cB] from hd.2.1, show aa.eval (.tmp 16) = .slice AX n cX from hd.2.2.1, show aa.eval (.tmp 18) = .slice AB m cB from hd.2.2.2.1]; exact primal_true n m m m cC cA cB cX cB 2 140 2 AC AA AB AX AB Ar cp A C B X B _ (PrW.new HP.out (bthen HB.out hb HB.out.size)) (Rs.newW HX.out (bthen HB.out hb HB.out.size)) (Rs.newW HP.out.bb (bthen HB.out hb HB.out.size)) (by omega) H1.out (by omega) (by omega) (by omega) (by omega) (by omega) (by omega)))
      · exact fun aa ww hb he hd => ob_plain rfl (gives_pick true _ _ _ rfl hd.1 ⟨hd.2.1, Below.refl _ _⟩)
      · exact fun aa ww hb he hd => ob_plain rfl (gives_move _ rfl ⟨hd.1, Below.refl _ _⟩)
      · exact fun aa ww hb he hd => ob_on 21 rfl (by kernel_rfl) hd.1 (load_prb rfl he.2.1 (Blk.keep HQ.out hb))
      · exact fun aa ww hb he hd => ob_on 21 rfl (by kernel_rfl) hd.1 (fld_sol rfl (by decide) he.1)
      · exact fun aa ww hb he hd => ob_on 21 rfl (by kernel_rfl) hd.1 (load_c28 rfl hd.2.1 (Blk.at2 HS.out hb))
      · exact fun aa ww hb he hd => ob_on 21 rfl (by kernel_rfl) hd.1 (fld_prb rfl (by decide) he.2.1)
      · exact fun aa ww hb he hd => ob_on 21 rfl (by kernel_rfl) hd.1 (load_c28 rfl hd.2.1 (Blk.at0 HQ.out hb))
      · exact fun aa ww hb he hd => ob_on 21 rfl (by kernel_rfl) hd.1 (gives_call3 _ _ _ _ _ rfl (by kernel_rfl) (by rw [show aa.eval (.tmp 22) = .agg #[.slice AC n cC, .slice AA m cA, .slice AB m cB] from hd.2.1, show aa.eval (.tmp 24) = .slice AY m cY from hd.2.2.1, show aa.eval (.tmp 26) = .slice AC n cC from hd.2.2.2.1]; exact dual_true n m m cC cA cB cY cC 2 140 2 AC AA AB AY AC Ar cp A C B Y C _ (PrW.new HP.out (bthen HB.out hb HB.out.size)) (Rs.newW HY.out (bthen HB.out hb HB.out.size)) (Rs.newW HP.out.c (bthen HB.out hb HB.out.size)) H2.out (by omega) (by omega) (by omega) (by omega) (by omega) (by omega)))
      · exact fun aa ww hb he hd => ob_plain rfl (gives_pick true _ _ _ rfl hd.1 ⟨hd.2.1, Below.refl _ _⟩)
      · exact fun aa ww hb he hd => ob_plain rfl (gives_move _ rfl ⟨hd.1, Below.refl _ _⟩)
      · exact fun aa ww hb he hd => ob_on 29 rfl (by kernel_rfl) hd.1 (fld_prb rfl (by decide) he.2.1)
      · exact fun aa ww hb he hd => ob_on 29 rfl (by kernel_rfl) hd.1 (load_c28 rfl hd.2.1 (Blk.at0 HQ.out hb))
      · exact fun aa ww hb he hd => ob_on 29 rfl (by kernel_rfl) hd.1 (fld_sol rfl (by decide) he.1)
      · exact fun aa ww hb he hd => ob_on 29 rfl (by kernel_rfl) hd.1 (load_c28 rfl hd.2.1 (Blk.at1 HS.out hb))
      · exact fun aa ww hb he hd => ob_on 29 rfl (by kernel_rfl) hd.1 (gives_call2 _ _ _ _ rfl (by kernel_rfl) (by rw [show aa.eval (.tmp 31) = .slice AC n cC from hd.2.1, show aa.eval (.tmp 33) = .slice AX n cX from hd.2.2.1]; exact ldot_any n n cC cX 2 140 _ _ C X _ (Rs.newW HP.out.c (bthen HB.out hb HB.out.size)) (Rs.newW HX.out (bthen HB.out hb HB.out.size)) (by omega) (by omega) (by omega) (by omega) (by omega)))
      · exact fun aa ww hb he hd => ob_on 29 rfl (by kernel_rfl) hd.1 (fld_sol rfl (by decide) he.1)
      · exact fun aa ww hb he hd => ob_on 29 rfl (by kernel_rfl) hd.1 (load_sv rfl hd.2.1 (Blk.keep HS.out hb) (Rw.new HV.out (bthen HB.out hb HB.out.size)))
      · exact fun aa ww hb he hd => ob_on 29 rfl (by kernel_rfl) hd.1 (gives_call2 _ _ _ _ rfl (by kernel_rfl) (cmp_v (hd.2.1) (hd.2.2.1) (by omega)))
      · exact fun aa ww hb he hd => ob_on 29 rfl (by kernel_rfl) hd.1 (gives_eq_int (rcq (sm (fun l => C l * X l) n) v) 0 .i64 _ _ _ _ rfl hd.2.1 rfl ⟨congrArg Value.bool (rcq_eqd H3.out), Below.refl _ _⟩)
      · exact fun aa ww hb he hd => ob_plain rfl (gives_pick true _ _ _ rfl hd.1 ⟨hd.2.1, Below.refl _ _⟩)
      · exact fun aa ww hb he hd => ob_plain rfl (gives_move _ rfl ⟨hd.1, Below.refl _ _⟩)
      · exact fun aa ww hb he hd => ob_on 40 rfl (by kernel_rfl) hd.1 (fld_prb rfl (by decide) he.2.1)
      · exact fun aa ww hb he hd => ob_on 40 rfl (by kernel_rfl) hd.1 (load_c28 rfl hd.2.1 (Blk.at2 HQ.out hb))
      · exact fun aa ww hb he hd => ob_on 40 rfl (by kernel_rfl) hd.1 (fld_sol rfl (by decide) he.1)
      · exact fun aa ww hb he hd => ob_on 40 rfl (by kernel_rfl) hd.1 (load_c28 rfl hd.2.1 (Blk.at2 HS.out hb))
      · exact fun aa ww hb he hd => ob_on 40 rfl (by kernel_rfl) hd.1 (gives_call2 _ _ _ _ rfl (by kernel_rfl) (by rw [show aa.eval (.tmp 42) = .slice AB m cB from hd.2.1, show aa.eval (.tmp 44) = .slice AY m cY from hd.2.2.1]; exact ldot_any m m cB cY 2 140 _ _ B Y _ (Rs.newW HP.out.bb (bthen HB.out hb HB.out.size)) (Rs.newW HY.out (bthen HB.out hb HB.out.size)) (by omega) (by omega) (by omega) (by omega) (by omega)))
      · exact fun aa ww hb he hd => ob_on 40 rfl (by kernel_rfl) hd.1 (fld_sol rfl (by decide) he.1)
      · exact fun aa ww hb he hd => ob_on 40 rfl (by kernel_rfl) hd.1 (load_sv rfl hd.2.1 (Blk.keep HS.out hb) (Rw.new HV.out (bthen HB.out hb HB.out.size)))
      · exact fun aa ww hb he hd => ob_on 40 rfl (by kernel_rfl) hd.1 (gives_call2 _ _ _ _ rfl (by kernel_rfl) (cmp_v (hd.2.1) (hd.2.2.1) (by omega)))
      · exact fun aa ww hb he hd => ob_on 40 rfl (by kernel_rfl) hd.1 (gives_eq_int (rcq (sm (fun l => B l * Y l) m) v) 0 .i64 _ _ _ _ rfl hd.2.1 rfl ⟨congrArg Value.bool (rcq_eqd H4.out), Below.refl _ _⟩)
      · exact fun aa ww hb he hd => ob_plain rfl (gives_pick true _ _ _ rfl hd.1 ⟨hd.2.1, Below.refl _ _⟩)
      · exact fun aa ww hb he hd => ob_plain rfl (gives_assign _ rfl ⟨hd.1, Below.refl _ _⟩)
    intro vs w3 hb hR
    have e4 : vs 42 = .bool true := hR 42 (by decide)
    clear hR
    simp only [putsL, Nat.zero_add, Nat.reduceAdd, List.take_succ_cons, List.take_zero, Act.put, List.setIfInBounds_toArray, List.set_cons_zero, List.set_cons_succ]
    rw [e4]
    clear e4
    go_wp2_with fail
    go_ret
    exact ⟨_, rfl, rfl, bthen HB.out hb HB.out.size⟩
  · subst out; subst kX; subst kY; subst kR
    obtain ⟨q1, q2, q3⟩ := HC.out.of1
    have H1 := Lib.hid q1; have H2 := Lib.hid q2; have H3 := Lib.hid q3; clear q1 q2 q3
    go_upto_region 5 with (fail)
    clear s0
    refine wp_region_each (kss := [[], [(0, 53)], [(1, 54)], [(2, 55)], [(3, 56)], [(4, 57)], [(4, 57), (5, 58)], [(4, 57), (6, 59)], [(4, 57), (7, 60)], [(4, 57), (8, 61)], [(9, 62)], [(10, 63)], [(10, 63), (11, 64)], [(10, 63), (12, 65)], [(10, 63), (13, 66)], [(10, 63), (14, 67)], [(15, 68)], [(16, 69)], [(16, 69)], [(16, 69), (18, 71)], [(16, 69)], [(16, 69), (20, 73)], [(16, 69), (21, 74)], [(16, 69), (22, 75)], [(16, 69), (17, 70), (19, 72), (23, 76)], [(16, 69), (24, 77)], [(25, 78)], [(26, 79)], [(26, 79), (27, 80)], [(26, 79)], [(26, 79), (29, 82)], [(26, 79), (28, 81), (30, 83)], [(26, 79), (31, 84)], [(26, 79), (32, 85)], [(26, 79), (33, 86)], [(34, 87)]]) [(3, .pointer (some ⟨gs, 0, none⟩)), (2, .pointer (some ⟨gq, 0, none⟩))] [fun zz _ => zz = .pointer (some ⟨gs, 1, none⟩), fun zz _ => zz = .slice AX 0 cX, fun zz _ => zz = .int .i64 ((0 : Int)), fun zz _ => zz = .bool true, fun zz _ => zz = .bool true, fun zz _ => zz = .pointer (some ⟨gs, 3, none⟩), fun zz _ => zz = .slice AR 0 cR, fun zz _ => zz = .int .i64 ((0 : Int)), fun zz _ => zz = .bool true, fun zz _ => zz = .bool true, fun zz _ => zz = .bool true, fun zz _ => zz = .pointer (some ⟨gs, 4, none⟩), Rw (140) (v), fun zz _ => zz = .int .i64 ((v).num.sign), fun zz _ => zz = .bool true, fun zz _ => zz = .bool true, fun zz _ => zz = .bool true, fun zz _ => zz = .agg #[.slice AC n cC, .slice AA m cA, .slice AB m cB], fun zz _ => zz = .pointer (some ⟨gs, 2, none⟩), fun zz _ => zz = .slice AY m cY, fun zz _ => zz = .pointer (some ⟨gq, 0, none⟩), fun zz _ => zz = .slice AC n cC, fun zz _ => zz = .int .i64 ((n : Int)), fun v w' => ∃ g0 : Nat, v = .slice (some ⟨g0, 0, none⟩) n n ∧ RB w' g0 n (PW w' 1 (fun _ => 0)), fun zz _ => zz = .bool true, fun zz _ => zz = .bool true, fun zz _ => zz = .bool true, fun zz _ => zz = .pointer (some ⟨gq, 2, none⟩), fun zz _ => zz = .slice AB m cB, fun zz _ => zz = .pointer (some ⟨gs, 2, none⟩), fun zz _ => zz = .slice AY m cY, Rw (2 + m * (2 + 140 + 1)) (sm (fun l => B l * Y l) m), fun zz _ => zz = .int .i64 ((sm (fun l => B l * Y l) m).num.sign), fun zz _ => zz = .bool true, fun zz _ => zz = .bool true, fun zz _ => zz = .bool true] (by kernel_rfl) (by kernel_rfl) ⟨rfl, rfl, trivial⟩ ?_ ?_ ?_
    · exact ⟨sI, sI, sI, sI, sI, sI, sI, sI, sI, sI, sI, sI, fun _ _ _ h hb => h.new hb, sI, sI, sI, sI, sI, sI, sI, sI, sI, sI, fun _ _ _ ⟨g0, h1, h2⟩ hb => ⟨g0, h1, h2.newW hb⟩, sI, sI, sI, sI, sI, sI, sI, fun _ _ _ h hb => h.new hb, sI, sI, sI, sI, trivial⟩
    · refine ⟨?_, ?_, ?_, ?_, ?_, ?_, ?_, ?_, ?_, ?_, ?_, ?_, ?_, ?_, ?_, ?_, ?_, ?_, ?_, ?_, ?_, ?_, ?_, ?_, ?_, ?_, ?_, ?_, ?_, ?_, ?_, ?_, ?_, ?_, ?_, ?_, trivial⟩
      · exact fun aa ww hb he hd => ob_plain rfl (fld_sol rfl (by decide) he.1)
      · exact fun aa ww hb he hd => ob_plain rfl (load_c28 rfl hd.1 (Blk.at1 HS.out hb))
      · exact fun aa ww hb he hd => ob_plain rfl (len_c Try.underlying28 rfl hd.1)
      · exact fun aa ww hb he hd => ob_plain rfl (gives_eq_int ((0 : Int)) 0 .i64 _ _ _ _ rfl hd.1 rfl ⟨congrArg Value.bool (rfl), Below.refl _ _⟩)
      · exact fun aa ww hb he hd => ob_plain rfl (gives_move _ rfl ⟨hd.1, Below.refl _ _⟩)
      · exact fun aa ww hb he hd => ob_on 57 rfl (by kernel_rfl) hd.1 (fld_sol rfl (by decide) he.1)
      · exact fun aa ww hb he hd => ob_on 57 rfl (by kernel_rfl) hd.1 (load_c28 rfl hd.2.1 (Blk.at3 HS.out hb))
      · exact fun aa ww hb he hd => ob_on 57 rfl (by kernel_rfl) hd.1 (len_c Try.underlying28 rfl hd.2.1)
      · exact fun aa ww hb he hd => ob_on 57 rfl (by kernel_rfl) hd.1 (gives_eq_int ((0 : Int)) 0 .i64 _ _ _ _ rfl hd.2.1 rfl ⟨congrArg Value.bool (rfl), Below.refl _ _⟩)
      · exact fun aa ww hb he hd => ob_plain rfl (gives_pick true _ _ _ rfl hd.1 ⟨hd.2.1, Below.refl _ _⟩)
      · exact fun aa ww hb he hd => ob_plain rfl (gives_move _ rfl ⟨hd.1, Below.refl _ _⟩)
      · exact fun aa ww hb he hd => ob_on 63 rfl (by kernel_rfl) hd.1 (fld_sol rfl (by decide) he.1)
      · exact fun aa ww hb he hd => ob_on 63 rfl (by kernel_rfl) hd.1 (load_sv rfl hd.2.1 (Blk.keep HS.out hb) (Rw.new HV.out (bthen HB.out hb HB.out.size)))
      · exact fun aa ww hb he hd => ob_on 63 rfl (by kernel_rfl) hd.1 (gives_call1 _ _ _ rfl (by kernel_rfl) (sign_v (hd.2.1)))
      · exact fun aa ww hb he hd => ob_on 63 rfl (by kernel_rfl) hd.1 (gives_eq_int ((v).num.sign) 0 .i64 _ _ _ _ rfl hd.2.1 rfl ⟨congrArg Value.bool (by rw [H3.out]; rfl), Below.refl _ _⟩)
      · exact fun aa ww hb he hd => ob_plain rfl (gives_pick true _ _ _ rfl hd.1 ⟨hd.2.1, Below.refl _ _⟩)
      · exact fun aa ww hb he hd => ob_plain rfl (gives_move _ rfl ⟨hd.1, Below.refl _ _⟩)
      · exact fun aa ww hb he hd => ob_on 69 rfl (by kernel_rfl) hd.1 (load_prb rfl he.2.1 (Blk.keep HQ.out hb))
      · exact fun aa ww hb he hd => ob_on 69 rfl (by kernel_rfl) hd.1 (fld_sol rfl (by decide) he.1)
      · exact fun aa ww hb he hd => ob_on 69 rfl (by kernel_rfl) hd.1 (load_c28 rfl hd.2.1 (Blk.at2 HS.out hb))
      · exact fun aa ww hb he hd => ob_on 69 rfl (by kernel_rfl) hd.1 (fld_prb rfl (by decide) he.2.1)
      · exact fun aa ww hb he hd => ob_on 69 rfl (by kernel_rfl) hd.1 (load_c28 rfl hd.2.1 (Blk.at0 HQ.out hb))
      · exact fun aa ww hb he hd => ob_on 69 rfl (by kernel_rfl) hd.1 (len_c Try.underlying28 rfl hd.2.1)
      · exact fun aa ww hb he hd => ob_on 69 rfl (by kernel_rfl) hd.1 (gives_mkrat rfl hd.2.1 hd.2.1 (by omega))
      · exact fun aa ww hb he hd => ob_on 69 rfl (by kernel_rfl) hd.1 (gives_call3 _ _ _ _ _ rfl (by kernel_rfl) (by obtain ⟨g0, e0, r0⟩ := hd.2.2.2.1; rw [show aa.eval (.tmp 70) = .agg #[.slice AC n cC, .slice AA m cA, .slice AB m cB] from hd.2.1, show aa.eval (.tmp 72) = .slice AY m cY from hd.2.2.1, show aa.eval (.tmp 76) = .slice (some ⟨g0, 0, none⟩) n n from e0]; exact dual_true n m m cC cA cB cY n 2 140 1 AC AA AB AY (some ⟨g0, 0, none⟩) Ar cp A C B Y (fun _ => 0) _ (PrW.new HP.out (bthen HB.out hb HB.out.size)) (Rs.newW HY.out (bthen HB.out hb HB.out.size)) (Rs.of_rb r0) H1.out (by omega) (by omega) (by omega) (by omega) (by omega) (by omega)))
      · exact fun aa ww hb he hd => ob_plain rfl (gives_pick true _ _ _ rfl hd.1 ⟨hd.2.1, Below.refl _ _⟩)
      · exact fun aa ww hb he hd => ob_plain rfl (gives_move _ rfl ⟨hd.1, Below.refl _ _⟩)
      · exact fun aa ww hb he hd => ob_on 79 rfl (by kernel_rfl) hd.1 (fld_prb rfl (by decide) he.2.1)
      · exact fun aa ww hb he hd => ob_on 79 rfl (by kernel_rfl) hd.1 (load_c28 rfl hd.2.1 (Blk.at2 HQ.out hb))
      · exact fun aa ww hb he hd => ob_on 79 rfl (by kernel_rfl) hd.1 (fld_sol rfl (by decide) he.1)
      · exact fun aa ww hb he hd => ob_on 79 rfl (by kernel_rfl) hd.1 (load_c28 rfl hd.2.1 (Blk.at2 HS.out hb))
      · exact fun aa ww hb he hd => ob_on 79 rfl (by kernel_rfl) hd.1 (gives_call2 _ _ _ _ rfl (by kernel_rfl) (by rw [show aa.eval (.tmp 81) = .slice AB m cB from hd.2.1, show aa.eval (.tmp 83) = .slice AY m cY from hd.2.2.1]; exact ldot_any m m cB cY 2 140 _ _ B Y _ (Rs.newW HP.out.bb (bthen HB.out hb HB.out.size)) (Rs.newW HY.out (bthen HB.out hb HB.out.size)) (by omega) (by omega) (by omega) (by omega) (by omega)))
      · exact fun aa ww hb he hd => ob_on 79 rfl (by kernel_rfl) hd.1 (gives_call1 _ _ _ rfl (by kernel_rfl) (sign_v (hd.2.1)))
      · exact fun aa ww hb he hd => ob_on 79 rfl (by kernel_rfl) hd.1 (gives_lt_int ((sm (fun l => B l * Y l) m).num.sign) 0 .i64 _ _ _ _ rfl hd.2.1 rfl ⟨congrArg Value.bool (sign_ltd.trans (decide_eq_true H2.out)), Below.refl _ _⟩)
      · exact fun aa ww hb he hd => ob_plain rfl (gives_pick true _ _ _ rfl hd.1 ⟨hd.2.1, Below.refl _ _⟩)
      · exact fun aa ww hb he hd => ob_plain rfl (gives_assign _ rfl ⟨hd.1, Below.refl _ _⟩)
    intro vs w3 hb hR
    have e4 : vs 35 = .bool true := hR 35 (by decide)
    clear hR
    simp only [putsL, Nat.zero_add, Nat.reduceAdd, List.take_succ_cons, List.take_zero, Act.put, List.setIfInBounds_toArray, List.set_cons_zero, List.set_cons_succ]
    rw [e4]
    clear e4
    go_wp2_with fail
    go_ret
    exact ⟨_, rfl, rfl, bthen HB.out hb HB.out.size⟩
  · subst out; subst kX; subst kY; subst kR
    obtain ⟨q1, q2, q3, q4⟩ := HC.out.of2
    have H1 := Lib.hid q1; have H2 := Lib.hid q2; have H3 := Lib.hid q3; have H4 := Lib.hid q4; clear q1 q2 q3 q4
    go_upto_region 7 with (fail)
    clear s0
    refine wp_region_each (kss := [[], [(0, 90)], [(1, 91)], [(2, 92)], [(3, 93)], [(4, 94)], [(4, 94), (5, 95)], [(4, 94), (6, 96)], [(4, 94), (7, 97)], [(4, 94), (8, 98)], [(9, 99)], [(10, 100)], [(10, 100)], [(10, 100), (12, 102)], [(10, 100)], [(10, 100), (14, 104)], [(10, 100), (11, 101), (13, 103), (15, 105)], [(10, 100), (16, 106)], [(17, 107)], [(18, 108)], [(18, 108)], [(18, 108), (20, 110)], [(18, 108)], [(18, 108), (22, 112)], [(18, 108), (23, 113)], [(18, 108), (24, 114)], [(18, 108), (19, 109), (21, 111), (25, 115)], [(18, 108), (26, 116)], [(27, 117)], [(28, 118)], [(28, 118), (29, 119)], [(28, 118)], [(28, 118), (31, 121)], [(28, 118), (30, 120), (32, 122)], [(28, 118), (33, 123)], [(28, 118), (34, 124)], [(28, 118), (35, 125)], [(36, 126)]]) [(3, .pointer (some ⟨gs, 0, none⟩)), (2, .pointer (some ⟨gq, 0, none⟩))] [fun zz _ => zz = .pointer (some ⟨gs, 2, none⟩), fun zz _ => zz = .slice AY 0 cY, fun zz _ => zz = .int .i64 ((0 : Int)), fun zz _ => zz = .bool true, fun zz _ => zz = .bool true, fun zz _ => zz = .pointer (some ⟨gs, 4, none⟩), Rw (140) (v), fun zz _ => zz = .int .i64 ((v).num.sign), fun zz _ => zz = .bool true, fun zz _ => zz = .bool true, fun zz _ => zz = .bool true, fun zz _ => zz = .agg #[.slice AC n cC, .slice AA m cA, .slice AB m cB], fun zz _ => zz = .pointer (some ⟨gs, 1, none⟩), fun zz _ => zz = .slice AX n cX, fun zz _ => zz = .pointer (some ⟨gq, 2, none⟩), fun zz _ => zz = .slice AB m cB, fun zz _ => zz = .bool true, fun zz _ => zz = .bool true, fun zz _ => zz = .bool true, fun zz _ => zz = .agg #[.slice AC n cC, .slice AA m cA, .slice AB m cB], fun zz _ => zz = .pointer (some ⟨gs, 3, none⟩), fun zz _ => zz = .slice AR n cR, fun zz _ => zz = .pointer (some ⟨gq, 2, none⟩), fun zz _ => zz = .slice AB m cB, fun zz _ => zz = .int .i64 ((m : Int)), fun v w' => ∃ g0 : Nat, v = .slice (some ⟨g0, 0, none⟩) m m ∧ RB w' g0 m (PW w' 1 (fun _ => 0)), fun zz _ => zz = .bool true, fun zz _ => zz = .bool true, fun zz _ => zz = .bool true, fun zz _ => zz = .pointer (some ⟨gq, 0, none⟩), fun zz _ => zz = .slice AC n cC, fun zz _ => zz = .pointer (some ⟨gs, 3, none⟩), fun zz _ => zz = .slice AR n cR, Rw (2 + n * (2 + 140 + 1)) (sm (fun l => C l * R l) n), fun zz _ => zz = .int .i64 ((sm (fun l => C l * R l) n).num.sign), fun zz _ => zz = .bool true, fun zz _ => zz = .bool true, fun zz _ => zz = .bool true] (by kernel_rfl) (by kernel_rfl) ⟨rfl, rfl, trivial⟩ ?_ ?_ ?_
    · exact ⟨sI, sI, sI, sI, sI, sI, fun _ _ _ h hb => h.new hb, sI, sI, sI, sI, sI, sI, sI, sI, sI, sI, sI, sI, sI, sI, sI, sI, sI, sI, fun _ _ _ ⟨g0, h1, h2⟩ hb => ⟨g0, h1, h2.newW hb⟩, sI, sI, sI, sI, sI, sI, sI, fun _ _ _ h hb => h.new hb, sI, sI, sI, sI, trivial⟩
    · refine ⟨?_, ?_, ?_, ?_, ?_, ?_, ?_, ?_, ?_, ?_, ?_, ?_, ?_, ?_, ?_, ?_, ?_, ?_, ?_, ?_, ?_, ?_, ?_, ?_, ?_, ?_, ?_, ?_, ?_, ?_, ?_, ?_, ?_, ?_, ?_, ?_, ?_, ?_, trivial⟩
      · exact fun aa ww hb he hd => ob_plain rfl (fld_sol rfl (by decide) he.1)
      · exact fun aa ww hb he hd => ob_plain rfl (load_c28 rfl hd.1 (Blk.at2 HS.out hb))
      · exact fun aa ww hb he hd => ob_plain rfl (len_c Try.underlying28 rfl hd.1)
      · exact fun aa ww hb he hd => ob_plain rfl (gives_eq_int ((0 : Int)) 0 .i64 _ _ _ _ rfl hd.1 rfl ⟨congrArg Value.bool (rfl), Below.refl _ _⟩)
      · exact fun aa ww hb he hd => ob_plain rfl (gives_move _ rfl ⟨hd.1, Below.refl _ _⟩)
      · exact fun aa ww hb he hd => ob_on 94 rfl (by kernel_rfl) hd.1 (fld_sol rfl (by decide) he.1)
      · exact fun aa ww hb he hd => ob_on 94 rfl (by kernel_rfl) hd.1 (load_sv rfl hd.2.1 (Blk.keep HS.out hb) (Rw.new HV.out (bthen HB.out hb HB.out.size)))
      · exact fun aa ww hb he hd => ob_on 94 rfl (by kernel_rfl) hd.1 (gives_call1 _ _ _ rfl (by kernel_rfl) (sign_v (hd.2.1)))
      · exact fun aa ww hb he hd => ob_on 94 rfl (by kernel_rfl) hd.1 (gives_eq_int ((v).num.sign) 0 .i64 _ _ _ _ rfl hd.2.1 rfl ⟨congrArg Value.bool (by rw [H4.out]; rfl), Below.refl _ _⟩)
      · exact fun aa ww hb he hd => ob_plain rfl (gives_pick true _ _ _ rfl hd.1 ⟨hd.2.1, Below.refl _ _⟩)
      · exact fun aa ww hb he hd => ob_plain rfl (gives_move _ rfl ⟨hd.1, Below.refl _ _⟩)
      · exact fun aa ww hb he hd => ob_on 100 rfl (by kernel_rfl) hd.1 (load_prb rfl he.2.1 (Blk.keep HQ.out hb))
      · exact fun aa ww hb he hd => ob_on 100 rfl (by kernel_rfl) hd.1 (fld_sol rfl (by decide) he.1)
      · exact fun aa ww hb he hd => ob_on 100 rfl (by kernel_rfl) hd.1 (load_c28 rfl hd.2.1 (Blk.at1 HS.out hb))
      · exact fun aa ww hb he hd => ob_on 100 rfl (by kernel_rfl) hd.1 (fld_prb rfl (by decide) he.2.1)
      · exact fun aa ww hb he hd => ob_on 100 rfl (by kernel_rfl) hd.1 (load_c28 rfl hd.2.1 (Blk.at2 HQ.out hb))
      · exact fun aa ww hb he hd => ob_on 100 rfl (by kernel_rfl) hd.1 (gives_call3 _ _ _ _ _ rfl (by kernel_rfl) (by rw [show aa.eval (.tmp 101) = .agg #[.slice AC n cC, .slice AA m cA, .slice AB m cB] from hd.2.1, show aa.eval (.tmp 103) = .slice AX n cX from hd.2.2.1, show aa.eval (.tmp 105) = .slice AB m cB from hd.2.2.2.1]; exact primal_true n m m m cC cA cB cX cB 2 140 2 AC AA AB AX AB Ar cp A C B X B _ (PrW.new HP.out (bthen HB.out hb HB.out.size)) (Rs.newW HX.out (bthen HB.out hb HB.out.size)) (Rs.newW HP.out.bb (bthen HB.out hb HB.out.size)) (by omega) H1.out (by omega) (by omega) (by omega) (by omega) (by omega) (by omega)))
      · exact fun aa ww hb he hd => ob_plain rfl (gives_pick true _ _ _ rfl hd.1 ⟨hd.2.1, Below.refl _ _⟩)
      · exact fun aa ww hb he hd => ob_plain rfl (gives_move _ rfl ⟨hd.1, Below.refl _ _⟩)
      · exact fun aa ww hb he hd => ob_on 108 rfl (by kernel_rfl) hd.1 (load_prb rfl he.2.1 (Blk.keep HQ.out hb))
      · exact fun aa ww hb he hd => ob_on 108 rfl (by kernel_rfl) hd.1 (fld_sol rfl (by decide) he.1)
      · exact fun aa ww hb he hd => ob_on 108 rfl (by kernel_rfl) hd.1 (load_c28 rfl hd.2.1 (Blk.at3 HS.out hb))
      · exact fun aa ww hb he hd => ob_on 108 rfl (by kernel_rfl) hd.1 (fld_prb rfl (by decide) he.2.1)
      · exact fun aa ww hb he hd => ob_on 108 rfl (by kernel_rfl) hd.1 (load_c28 rfl hd.2.1 (Blk.at2 HQ.out hb))
      · exact fun aa ww hb he hd => ob_on 108 rfl (by kernel_rfl) hd.1 (len_c Try.underlying28 rfl hd.2.1)
      · exact fun aa ww hb he hd => ob_on 108 rfl (by kernel_rfl) hd.1 (gives_mkrat rfl hd.2.1 hd.2.1 (by omega))
      · exact fun aa ww hb he hd => ob_on 108 rfl (by kernel_rfl) hd.1 (gives_call3 _ _ _ _ _ rfl (by kernel_rfl) (by obtain ⟨g0, e0, r0⟩ := hd.2.2.2.1; rw [show aa.eval (.tmp 109) = .agg #[.slice AC n cC, .slice AA m cA, .slice AB m cB] from hd.2.1, show aa.eval (.tmp 111) = .slice AR n cR from hd.2.2.1, show aa.eval (.tmp 115) = .slice (some ⟨g0, 0, none⟩) m m from e0]; exact primal_true n m m m cC cA cB cR m 2 140 1 AC AA AB AR (some ⟨g0, 0, none⟩) Ar cp A C B R (fun _ => 0) _ (PrW.new HP.out (bthen HB.out hb HB.out.size)) (Rs.newW HR.out (bthen HB.out hb HB.out.size)) (Rs.of_rb r0) (by omega) H2.out (by omega) (by omega) (by omega) (by omega) (by omega) (by omega)))
      · exact fun aa ww hb he hd => ob_plain rfl (gives_pick true _ _ _ rfl hd.1 ⟨hd.2.1, Below.refl _ _⟩)
      · exact fun aa ww hb he hd => ob_plain rfl (gives_move _ rfl ⟨hd.1, Below.refl _ _⟩)
      · exact fun aa ww hb he hd => ob_on 118 rfl (by kernel_rfl) hd.1 (fld_prb rfl (by decide) he.2.1)
      · exact fun aa ww hb he hd => ob_on 118 rfl (by kernel_rfl) hd.1 (load_c28 rfl hd.2.1 (Blk.at0 HQ.out hb))
      · exact fun aa ww hb he hd => ob_on 118 rfl (by kernel_rfl) hd.1 (fld_sol rfl (by decide) he.1)
      · exact fun aa ww hb he hd => ob_on 118 rfl (by kernel_rfl) hd.1 (load_c28 rfl hd.2.1 (Blk.at3 HS.out hb))
      · exact fun aa ww hb he hd => ob_on 118 rfl (by kernel_rfl) hd.1 (gives_call2 _ _ _ _ rfl (by kernel_rfl) (by rw [show aa.eval (.tmp 120) = .slice AC n cC from hd.2.1, show aa.eval (.tmp 122) = .slice AR n cR from hd.2.2.1]; exact ldot_any n n cC cR 2 140 _ _ C R _ (Rs.newW HP.out.c (bthen HB.out hb HB.out.size)) (Rs.newW HR.out (bthen HB.out hb HB.out.size)) (by omega) (by omega) (by omega) (by omega) (by omega)))
      · exact fun aa ww hb he hd => ob_on 118 rfl (by kernel_rfl) hd.1 (gives_call1 _ _ _ rfl (by kernel_rfl) (sign_v (hd.2.1)))
      · exact fun aa ww hb he hd => ob_on 118 rfl (by kernel_rfl) hd.1 (gives_gt_int ((sm (fun l => C l * R l) n).num.sign) 0 .i64 _ _ _ _ rfl hd.2.1 rfl ⟨congrArg Value.bool (sign_gtd.trans (decide_eq_true H3.out)), Below.refl _ _⟩)
      · exact fun aa ww hb he hd => ob_plain rfl (gives_pick true _ _ _ rfl hd.1 ⟨hd.2.1, Below.refl _ _⟩)
      · exact fun aa ww hb he hd => ob_plain rfl (gives_assign _ rfl ⟨hd.1, Below.refl _ _⟩)
    intro vs w3 hb hR
    have e4 : vs 37 = .bool true := hR 37 (by decide)
    clear hR
    simp only [putsL, Nat.zero_add, Nat.reduceAdd, List.take_succ_cons, List.take_zero, Act.put, List.setIfInBounds_toArray, List.set_cons_zero, List.set_cons_succ]
    rw [e4]
    clear e4
    go_wp2_with fail
    go_ret
    exact ⟨_, rfl, rfl, bthen HB.out hb HB.out.size⟩
end Go.Proofs.Ytamcibmjpmibdaa
