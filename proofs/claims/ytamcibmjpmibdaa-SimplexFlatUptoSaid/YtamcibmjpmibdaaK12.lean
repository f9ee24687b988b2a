/-
Contract of simplex.Check. Regions printed by gen/sch.py.
-/
import Derived.Test.YtamcibmjpmibdaaK11
namespace Go.Proofs.Ytamcibmjpmibdaa
open Go.RowKit
set_option linter.unusedVariables false
set_option linter.unusedSimpArgs false

/-- What Check says of a claimed solution. -/
def ChkP (n m : Nat) (A : Nat → Nat → Rat) (B C : Nat → Rat) (z : Int) (kX kY kR : Nat) (X Y R : Nat → Rat) (v : Rat) : Prop :=
  (z = 0 ∧ (kX = n ∧ Primal n m A B X) ∧ (kY = m ∧ DualF n m A C Y) ∧ kR = 0 ∧ sm (fun l => C l * X l) n = v ∧ sm (fun l => B l * Y l) m = v)
  ∨ (z = 1 ∧ (kY = m ∧ DualF n m A (fun _ => 0) Y) ∧ sm (fun l => B l * Y l) m < 0 ∧ kX = 0 ∧ kR = 0 ∧ v = ((0 : Int) : Rat))
  ∨ (z = 2 ∧ (kX = n ∧ Primal n m A B X) ∧ (kR = n ∧ Primal n m A (fun _ => 0) R) ∧ 0 < sm (fun l => C l * R l) n ∧ kY = 0 ∧ v = ((0 : Int) : Rat))
/-- .. of a problem of any form. -/
def ChkV (n m k : Nat) (ln : Nat → Nat) (A : Nat → Nat → Rat) (B C : Nat → Rat) (z : Int) (kX kY kR : Nat) (X Y R : Nat → Rat) (v : Rat) : Prop := m = k ∧ (∀ i, i < m → ln i = n) ∧ ChkP n m A B C z kX kY kR X Y R v
theorem Rw.more {b b' : Nat} {x : Rat} {v : Value} {w : World} (h : Rw b x v w) (hb : b ≤ b') : Rw b' x v w := by
  obtain ⟨s, A, n, c, B, m, d, e, N, M, h1, h2, h3⟩ := h
  have hp : PB b ≤ PB b' := Nat.pow_le_pow_right (by decide) hb
  obtain ⟨a1, a2, a3, a4, a5⟩ := h1; obtain ⟨b1, b2, b3, b4, b5⟩ := h2
  exact ⟨s, A, n, c, B, m, d, e, N, M, ⟨a1, by omega, a3, by omega, a5⟩, ⟨b1, by omega, b3, by omega, b5⟩, h3⟩
theorem PrW.cone {w' : World} {b n m k : Nat} {AC AA AB : Option Addr} {Ar : Nat → Option Addr} {ln cp : Nat → Nat} {A : Nat → Nat → Rat} {C B : Nat → Rat} {g : Nat} (h : PrW w' b n m k AC AA AB Ar ln cp A C B) (hr : RB w' g m (PW w' 1 (fun _ => 0))) (hb : 1 ≤ b) : PrW w' b n m m AC AA (some ⟨g, 0, none⟩) Ar ln cp A C (fun _ => 0) :=
  ⟨h.c, h.a, h.row, (Rs.of_rb hr).mono fun j v _ hv => Rw.more hv hb⟩
set_option maxRecDepth 100000 in
set_option maxHeartbeats 20000000 in
theorem Check_any (n m k kX kY kR cC cA cB cX cY cR b bx by_ br bv : Nat) (AC AA AB AX AY AR : Option Addr) (Ar : Nat → Option Addr) (ln cp : Nat → Nat) (A : Nat → Nat → Rat) (C B X Y R : Nat → Rat) (z : Int) (v : Rat) (s : Bool) (A0 B0 : Option Addr) (k0 c0' m0 d0 : Nat) (w : World)
    (hP : PrW w b n m k AC AA AB Ar ln cp A C B) (hX : Rs w w.heap.size AX kX (PW w bx X)) (hY : Rs w w.heap.size AY kY (PW w by_ Y)) (hR : Rs w w.heap.size AR kR (PW w br R)) (hV : Rw bv v (.agg #[.bool s, .slice A0 k0 c0', .slice B0 m0 d0]) w)
    (hn : n ≤ 1000) (hm : m ≤ 1000) (hb0 : 1 ≤ b) (hb1 : b ≤ 1400) (hbx : bx ≤ 1400) (hby : by_ ≤ 1400) (hbr : br ≤ 1400) (hbv : bv ≤ 1400) (hcx : n * (b + bx + 1) ≤ 2000) (hcr : n * (b + br + 1) ≤ 2000) (hcy : m * (by_ + b + 1) ≤ 2000) :
    Calls Try.prog 16 #[.agg #[.slice AC n cC, .slice AA m cA, .slice AB k cB], .agg #[.int .i64 z, .slice AX kX cX, .slice AY kY cY, .slice AR kR cR, .bool s, .slice A0 k0 c0', .slice B0 m0 d0]] w
      (BRet (ChkV n m k ln A B C z kX kY kR X Y R v) w) := by
  have HPk := Lib.hid hP; have HX := Lib.hid hX; have HY := Lib.hid hY; have HR := Lib.hid hR; have HV := Lib.hid hV
  have HCx := Lib.hid hcx; have HCr := Lib.hid hcr; have HCy := Lib.hid hcy
  have HCy2 := Lib.hid (show m * (b + by_ + 1) ≤ 2000 from by rw [Nat.add_comm b by_]; exact hcy)
  clear hP hX hY hR hV hcx hcr hcy
  go_enter Try.func16, Try.ntmps16
  go_upto_region 1 with (fail)
  have HQ := Lib.hid ((Blk.new w 31 #[.slice AC n cC, .slice AA m cA, .slice AB k cB]).keep (al _ (.cells #[.int .i64 z, .slice AX kX cX, .slice AY kY cY, .slice AR kR cR, .bool s, .slice A0 k0 c0', .slice B0 m0 d0] 43)))
  have HS := Lib.hid (Blk.new (w.alloc (.cells #[.slice AC n cC, .slice AA m cA, .slice AB k cB] 31)) 43 #[.int .i64 z, .slice AX kX cX, .slice AY kY cY, .slice AR kR cR, .bool s, .slice A0 k0 c0', .slice B0 m0 d0])
  have HB := Lib.hid (bthen (al w (.cells #[.slice AC n cC, .slice AA m cA, .slice AB k cB] 31)) (al _ (.cells #[.int .i64 z, .slice AX kX cX, .slice AY kY cY, .slice AR kR cR, .bool s, .slice A0 k0 c0', .slice B0 m0 d0] 43)) (by simp))
  rw [show (w.alloc (.cells #[.slice AC n cC, .slice AA m cA, .slice AB k cB] 31)).heap.size = w.heap.size + 1 from Array.size_push _] at HS
  generalize (w.alloc (.cells #[.slice AC n cC, .slice AA m cA, .slice AB k cB] 31)).alloc (.cells #[.int .i64 z, .slice AX kX cX, .slice AY kY cY, .slice AR kR cR, .bool s, .slice A0 k0 c0', .slice B0 m0 d0] 43) = w1 at *
  obtain ⟨gs, hgs⟩ : ∃ gs, gs = w.heap.size + 1 := ⟨_, rfl⟩
  obtain ⟨gq, hgq⟩ : ∃ gq, gq = w.heap.size := ⟨_, rfl⟩
  rw [← hgs] at HS ⊢
  rw [← hgq] at HQ ⊢
  clear hgs hgq
  have c0 := Blk.at0 HQ.out (Below.refl _ _); have c1 := Blk.at1 HQ.out (Below.refl _ _); have c2 := Blk.at2 HQ.out (Below.refl _ _)
  go_wp2_with fail
  refine (valid_any n m k cC cA cB AC AA AB Ar ln cp w1 ((HPk.out.a.below HB.out).more HB.out.size) (by omega)).mono ?_
  rintro e w2 ⟨t, rfl, hb, ht⟩
  have HVt := Lib.hid ht; clear ht
  have HQ2 := Lib.hid (HQ.out.keep hb); have HS2 := Lib.hid (HS.out.keep hb); have HB2 := Lib.hid (bthen HB.out hb HB.out.size)
  clear HQ HS HB hb c0 c1 c2
  cases t with
  | false =>
    go_wp2_with fail
    go_ret
    exact ⟨false, rfl, HB2.out, f_iff (fun h => absurd (HVt.out.2 ⟨h.1, h.2.1⟩) (by decide))⟩
  | true =>
  obtain ⟨hmk, hvl⟩ := HVt.out.1 rfl
  subst hmk
  have HVl := Lib.hid (show m = m ∧ ∀ i, i < m → ln i = n from ⟨rfl, hvl⟩)
  have HL := Lib.hid hvl
  have HP := HPk
  clear hvl HVt HPk
  go_upto_region 3 with (fail)
  refine wp_region_joins (kss := [[], []]) [] [Rv (2) (((0 : Int) : Rat)), Zb w2.heap.size] 2 (by kernel_rfl) trivial [false, true] ?_ ?_ ?_
  · exact ⟨fun _ _ _ h hb => h.new hb, fun _ _ _ h hb => Zb.new h hb, trivial⟩
  · refine ⟨?_, ?_, trivial⟩
    · exact fun aa ww hb he hd => ob_plain rfl (gives_call1 _ _ _ rfl (by kernel_rfl) (int_w (0) (by omega) (by omega) _ rfl _))
    · exact fun aa ww hb he hd => ⟨by simp [Region.wanted], alloc_rat rfl hb⟩
  intro vs w3 hb hR
  have r10 : Rv (2) (((0 : Int) : Rat)) (vs 0) w3 := hR 0 (by decide)
  have r5 : Zb w2.heap.size (vs 1) w3 := hR 1 (by decide)
  clear hR
  simp only [putsL, Nat.zero_add, Nat.reduceAdd, List.take_succ_cons, List.take_zero, Act.put, List.setIfInBounds_toArray, List.set_cons_zero, List.set_cons_succ]
  obtain ⟨g5, k5, z5⟩ := r5
  rw [k5]
  clear k5
  show wpOps _ _ _ [2] _ _
  refine wpOps_next rfl rfl (store_row (v := vs 0) (g := g5) (j := 0) (n := 1) (b := 2) (x := ((0 : Int) : Rat)) rfl rfl rfl rfl z5.rb (by omega) r10.rw ?_)
  intro w3' kp hg hsz hR5
  have hlow : w2.heap.size ≤ g5 := z5.1
  have HX5 := Lib.hid (RB.bx (hR5 (fun _ v => Rw 2 ((0 : Int) : Rat) v w3') (fun l u hl hne _ => absurd hl (by omega)) (r10.rw.keepN kp)))
  have HQ := Lib.hid ((HQ2.out.keep hb).grown hg (fun e => by injection e with e; have := HQ2.out.lt; omega))
  have HS := Lib.hid ((HS2.out.keep hb).grown hg (fun e => by injection e with e; have := HS2.out.lt; omega))
  have HB := Lib.hid (show Below w.heap.size w w3' from (bthen HB2.out hb HB2.out.size).grown hg (bthen HB2.out hb HB2.out.size).size (fun x hx => by cases hx; have := HB2.out.size; omega))
  clear hb kp hg hsz hR5 r10 z5 HQ2 HS2 HB2 hlow
  obtain ⟨w3, hw3⟩ : ∃ w3, w3 = w3' := ⟨_, rfl⟩
  subst hw3
  show Exit.then _ _ _ _ _
  have e0 := Blk.at0 HS.out (Below.refl _ _)
  by_cases hz0 : z = 0
  · subst hz0
    have hz0' : (0 : Int) = 0 := rfl
    go_upto_region 6 with (fail)
    clear e0
    by_cases h0 : kX = n ∧ Primal n m A B X
    rotate_left
    · have H0 := Lib.hid h0; clear h0
      refine wp_region_each (kss := [[], [], [(1, 16)], [(0, 15), (2, 17)], [(3, 18)], [(4, 19)], [(4, 19)], [(4, 19), (6, 21)], [(4, 19)], [(4, 19), (8, 23)], [(4, 19), (5, 20), (7, 22), (9, 24)], [(4, 19), (10, 25)], [(11, 26)], [(12, 27)], [(12, 27), (13, 28)], [(12, 27), (14, 29)], [(12, 27), (15, 30)], [(12, 27), (16, 31)], [(17, 32)], [(18, 33)], [(18, 33), (19, 34)], [(18, 33)], [(18, 33), (21, 36)], [(18, 33), (20, 35), (22, 37)], [(18, 33)], [(18, 33), (24, 39)], [(18, 33), (23, 38), (25, 40)], [(18, 33), (26, 41)], [(18, 33), (27, 42)], [(28, 43)], [(29, 44)], [(29, 44), (30, 45)], [(29, 44)], [(29, 44), (32, 47)], [(29, 44), (31, 46), (33, 48)], [(29, 44)], [(29, 44), (35, 50)], [(29, 44), (34, 49), (36, 51)], [(29, 44), (37, 52)], [(29, 44), (38, 53)], [(39, 54)]]) [(2, .pointer (some ⟨gq, 0, none⟩)), (3, .pointer (some ⟨gs, 0, none⟩))] [EV (.agg #[.slice AC n cC, .slice AA m cA, .slice AB m cB]), EV (.pointer (some ⟨gs, 1, none⟩)), EV (.slice AX kX cX), EV (.bool false), EV (.bool false), UD, UD, UD, UD, UD, UD, EV (.bool false), EV (.bool false), UD, UD, UD, UD, EV (.bool false), EV (.bool false), UD, UD, UD, UD, UD, UD, UD, UD, UD, EV (.bool false), EV (.bool false), UD, UD, UD, UD, UD, UD, UD, UD, UD, EV (.bool false), EV (.bool false)] (by kernel_rfl) (by kernel_rfl) ⟨rfl, rfl, trivial⟩ ?_ ?_ ?_
      · exact ⟨sI, sI, sI, sI, sI, sI, sI, sI, sI, sI, sI, sI, sI, sI, sI, sI, sI, sI, sI, sI, sI, sI, sI, sI, sI, sI, sI, sI, sI, sI, sI, sI, sI, sI, sI, sI, sI, sI, sI, sI, sI, trivial⟩
      · refine ⟨?_, ?_, ?_, ?_, ?_, ?_, ?_, ?_, ?_, ?_, ?_, ?_, ?_, ?_, ?_, ?_, ?_, ?_, ?_, ?_, ?_, ?_, ?_, ?_, ?_, ?_, ?_, ?_, ?_, ?_, ?_, ?_, ?_, ?_, ?_, ?_, ?_, ?_, ?_, ?_, ?_, trivial⟩
        · exact fun aa ww hb he hd => ob_plain rfl (load_prb rfl he.1 (Blk.keep HQ.out hb))
        · exact fun aa ww hb he hd => ob_plain rfl (fld_sol rfl (by decide) he.2.1)
        · exact fun aa ww hb he hd => ob_plain rfl (load_c28 rfl hd.1 (Blk.at1 HS.out hb))
        · exact fun aa ww hb he hd => ob_plain rfl (gives_call2 _ _ _ _ rfl (by kernel_rfl) (by rw [show aa.eval (.tmp 15) = .agg #[.slice AC n cC, .slice AA m cA, .slice AB m cB] from hd.1, show aa.eval (.tmp 17) = .slice AX kX cX from hd.2.1]; exact ret_t (sfeas_any n m kX cC cA cB cX b bx AC AA AB AX Ar ln cp A C B X _ (PrW.new HP.out (bthen HB.out hb HB.out.size)) HL.out (Rs.newW HX.out (bthen HB.out hb HB.out.size)) hn hm hb1 (by omega) HCx.out) (f_iff H0.out)))
        · exact fun _ _ _ he hd => ob_mv rfl rfl hd.1
        iterate 6 exact fun aa ww hb he hd => ob_off 19 rfl (by kernel_rfl) hd.1 rfl
        · exact fun aa ww hb he hd => ob_plain rfl (gives_pick false _ _ _ rfl hd.1 ⟨rfl, Below.refl _ _⟩)
        · exact fun _ _ _ he hd => ob_mv rfl rfl hd.1
        iterate 4 exact fun aa ww hb he hd => ob_off 27 rfl (by kernel_rfl) hd.1 rfl
        · exact fun aa ww hb he hd => ob_plain rfl (gives_pick false _ _ _ rfl hd.1 ⟨rfl, Below.refl _ _⟩)
        · exact fun _ _ _ he hd => ob_mv rfl rfl hd.1
        iterate 9 exact fun aa ww hb he hd => ob_off 33 rfl (by kernel_rfl) hd.1 rfl
        · exact fun aa ww hb he hd => ob_plain rfl (gives_pick false _ _ _ rfl hd.1 ⟨rfl, Below.refl _ _⟩)
        · exact fun _ _ _ he hd => ob_mv rfl rfl hd.1
        iterate 9 exact fun aa ww hb he hd => ob_off 44 rfl (by kernel_rfl) hd.1 rfl
        · exact fun aa ww hb he hd => ob_plain rfl (gives_pick false _ _ _ rfl hd.1 ⟨rfl, Below.refl _ _⟩)
        · exact fun aa ww hb he hd => ob_plain rfl (gives_assign _ rfl ⟨hd.1, Below.refl _ _⟩)
      intro vs w4 hb hR
      have e4 : vs 40 = .bool false := hR 40 (by decide)
      clear hR
      simp only [putsL, Nat.zero_add, Nat.reduceAdd, List.take_succ_cons, List.take_zero, Act.put, List.setIfInBounds_toArray, List.set_cons_zero, List.set_cons_succ]
      rw [e4]
      clear e4
      go_wp2_with fail
      go_ret
      exact ⟨false, rfl, bthen HB.out hb HB.out.size, f_iff (fun h => by
    obtain ⟨-, -, h⟩ := h
    rcases h with ⟨h, q⟩ | ⟨h, q⟩ | ⟨h, q⟩
    · exact H0.out q.1
    · exact absurd h (by decide)
    · exact absurd h (by decide))⟩
    · have H0 := Lib.hid h0; clear h0
      have hnx : n ≤ kX := by have := H0.out.1; omega
      by_cases h1 : kY = m ∧ DualF n m A C Y
      rotate_left
      · have H1 := Lib.hid h1; clear h1
        refine wp_region_each (kss := [[], [], [(1, 16)], [(0, 15), (2, 17)], [(3, 18)], [(4, 19)], [(4, 19)], [(4, 19), (6, 21)], [(4, 19)], [(4, 19), (8, 23)], [(4, 19), (5, 20), (7, 22), (9, 24)], [(4, 19), (10, 25)], [(11, 26)], [(12, 27)], [(12, 27), (13, 28)], [(12, 27), (14, 29)], [(12, 27), (15, 30)], [(12, 27), (16, 31)], [(17, 32)], [(18, 33)], [(18, 33), (19, 34)], [(18, 33)], [(18, 33), (21, 36)], [(18, 33), (20, 35), (22, 37)], [(18, 33)], [(18, 33), (24, 39)], [(18, 33), (23, 38), (25, 40)], [(18, 33), (26, 41)], [(18, 33), (27, 42)], [(28, 43)], [(29, 44)], [(29, 44), (30, 45)], [(29, 44)], [(29, 44), (32, 47)], [(29, 44), (31, 46), (33, 48)], [(29, 44)], [(29, 44), (35, 50)], [(29, 44), (34, 49), (36, 51)], [(29, 44), (37, 52)], [(29, 44), (38, 53)], [(39, 54)]]) [(2, .pointer (some ⟨gq, 0, none⟩)), (3, .pointer (some ⟨gs, 0, none⟩))] [EV (.agg #[.slice AC n cC, .slice AA m cA, .slice AB m cB]), EV (.pointer (some ⟨gs, 1, none⟩)), EV (.slice AX kX cX), EV (.bool true), EV (.bool true), EV (.agg #[.slice AC n cC, .slice AA m cA, .slice AB m cB]), EV (.pointer (some ⟨gs, 2, none⟩)), EV (.slice AY kY cY), EV (.pointer (some ⟨gq, 0, none⟩)), EV (.slice AC n cC), EV (.bool false), EV (.bool false), EV (.bool false), UD, UD, UD, UD, EV (.bool false), EV (.bool false), UD, UD, UD, UD, UD, UD, UD, UD, UD, EV (.bool false), EV (.bool false), UD, UD, UD, UD, UD, UD, UD, UD, UD, EV (.bool false), EV (.bool false)] (by kernel_rfl) (by kernel_rfl) ⟨rfl, rfl, trivial⟩ ?_ ?_ ?_
        · exact ⟨sI, sI, sI, sI, sI, sI, sI, sI, sI, sI, sI, sI, sI, sI, sI, sI, sI, sI, sI, sI, sI, sI, sI, sI, sI, sI, sI, sI, sI, sI, sI, sI, sI, sI, sI, sI, sI, sI, sI, sI, sI, trivial⟩
        · refine ⟨?_, ?_, ?_, ?_, ?_, ?_, ?_, ?_, ?_, ?_, ?_, ?_, ?_, ?_, ?_, ?_, ?_, ?_, ?_, ?_, ?_, ?_, ?_, ?_, ?_, ?_, ?_, ?_, ?_, ?_, ?_, ?_, ?_, ?_, ?_, ?_, ?_, ?_, ?_, ?_, ?_, trivial⟩
          · exact fun aa ww hb he hd => ob_plain rfl (load_prb rfl he.1 (Blk.keep HQ.out hb))
          · exact fun aa ww hb he hd => ob_plain rfl (fld_sol rfl (by decide) he.2.1)
          · exact fun aa ww hb he hd => ob_plain rfl (load_c28 rfl hd.1 (Blk.at1 HS.out hb))
          · exact fun aa ww hb he hd => ob_plain rfl (gives_call2 _ _ _ _ rfl (by kernel_rfl) (by rw [show aa.eval (.tmp 15) = .agg #[.slice AC n cC, .slice AA m cA, .slice AB m cB] from hd.1, show aa.eval (.tmp 17) = .slice AX kX cX from hd.2.1]; exact ret_t (sfeas_any n m kX cC cA cB cX b bx AC AA AB AX Ar ln cp A C B X _ (PrW.new HP.out (bthen HB.out hb HB.out.size)) HL.out (Rs.newW HX.out (bthen HB.out hb HB.out.size)) hn hm hb1 (by omega) HCx.out) (t_iff H0.out)))
          · exact fun _ _ _ he hd => ob_mv rfl rfl hd.1
          · exact fun aa ww hb he hd => ob_on 19 rfl (by kernel_rfl) hd.1 (load_prb rfl he.1 (Blk.keep HQ.out hb))
          · exact fun aa ww hb he hd => ob_on 19 rfl (by kernel_rfl) hd.1 (fld_sol rfl (by decide) he.2.1)
          · exact fun aa ww hb he hd => ob_on 19 rfl (by kernel_rfl) hd.1 (load_c28 rfl hd.2.1 (Blk.at2 HS.out hb))
          · exact fun aa ww hb he hd => ob_on 19 rfl (by kernel_rfl) hd.1 (fld_prb rfl (by decide) he.1)
          · exact fun aa ww hb he hd => ob_on 19 rfl (by kernel_rfl) hd.1 (load_c28 rfl hd.2.1 (Blk.at0 HQ.out hb))
          · exact fun aa ww hb he hd => ob_on 19 rfl (by kernel_rfl) hd.1 (gives_call3 _ _ _ _ _ rfl (by kernel_rfl) (by rw [show aa.eval (.tmp 20) = .agg #[.slice AC n cC, .slice AA m cA, .slice AB m cB] from hd.2.1, show aa.eval (.tmp 22) = .slice AY kY cY from hd.2.2.1, show aa.eval (.tmp 24) = .slice AC n cC from hd.2.2.2.1]; exact ret_t (bounds_any n m kY n cC cA cB cY cC b by_ b AC AA AB AY AC Ar ln cp A C B Y C _ (PrW.new HP.out (bthen HB.out hb HB.out.size)) HL.out (Rs.newW HY.out (bthen HB.out hb HB.out.size)) (Rs.newW HP.out.c (bthen HB.out hb HB.out.size)) (Nat.le_refl _) hn hm hb1 (by omega) (by omega) HCy.out) (f_iff H1.out)))
          · exact fun aa ww hb he hd => ob_plain rfl (gives_pick true _ _ _ rfl hd.1 ⟨hd.2.1, Below.refl _ _⟩)
          · exact fun _ _ _ he hd => ob_mv rfl rfl hd.1
          iterate 4 exact fun aa ww hb he hd => ob_off 27 rfl (by kernel_rfl) hd.1 rfl
          · exact fun aa ww hb he hd => ob_plain rfl (gives_pick false _ _ _ rfl hd.1 ⟨rfl, Below.refl _ _⟩)
          · exact fun _ _ _ he hd => ob_mv rfl rfl hd.1
          iterate 9 exact fun aa ww hb he hd => ob_off 33 rfl (by kernel_rfl) hd.1 rfl
          · exact fun aa ww hb he hd => ob_plain rfl (gives_pick false _ _ _ rfl hd.1 ⟨rfl, Below.refl _ _⟩)
          · exact fun _ _ _ he hd => ob_mv rfl rfl hd.1
          iterate 9 exact fun aa ww hb he hd => ob_off 44 rfl (by kernel_rfl) hd.1 rfl
          · exact fun aa ww hb he hd => ob_plain rfl (gives_pick false _ _ _ rfl hd.1 ⟨rfl, Below.refl _ _⟩)
          · exact fun aa ww hb he hd => ob_plain rfl (gives_assign _ rfl ⟨hd.1, Below.refl _ _⟩)
        intro vs w4 hb hR
        have e4 : vs 40 = .bool false := hR 40 (by decide)
        clear hR
        simp only [putsL, Nat.zero_add, Nat.reduceAdd, List.take_succ_cons, List.take_zero, Act.put, List.setIfInBounds_toArray, List.set_cons_zero, List.set_cons_succ]
        rw [e4]
        clear e4
        go_wp2_with fail
        go_ret
        exact ⟨false, rfl, bthen HB.out hb HB.out.size, f_iff (fun h => by
      obtain ⟨-, -, h⟩ := h
      rcases h with ⟨h, q⟩ | ⟨h, q⟩ | ⟨h, q⟩
      · exact H1.out q.2.1
      · exact absurd h (by decide)
      · exact absurd h (by decide))⟩
      · have H1 := Lib.hid h1; clear h1
        have hmy : m ≤ kY := by have := H1.out.1; omega
        by_cases h2 : kR = 0
        rotate_left
        · have H2 := Lib.hid h2; clear h2
          refine wp_region_each (kss := [[], [], [(1, 16)], [(0, 15), (2, 17)], [(3, 18)], [(4, 19)], [(4, 19)], [(4, 19), (6, 21)], [(4, 19)], [(4, 19), (8, 23)], [(4, 19), (5, 20), (7, 22), (9, 24)], [(4, 19), (10, 25)], [(11, 26)], [(12, 27)], [(12, 27), (13, 28)], [(12, 27), (14, 29)], [(12, 27), (15, 30)], [(12, 27), (16, 31)], [(17, 32)], [(18, 33)], [(18, 33), (19, 34)], [(18, 33)], [(18, 33), (21, 36)], [(18, 33), (20, 35), (22, 37)], [(18, 33)], [(18, 33), (24, 39)], [(18, 33), (23, 38), (25, 40)], [(18, 33), (26, 41)], [(18, 33), (27, 42)], [(28, 43)], [(29, 44)], [(29, 44), (30, 45)], [(29, 44)], [(29, 44), (32, 47)], [(29, 44), (31, 46), (33, 48)], [(29, 44)], [(29, 44), (35, 50)], [(29, 44), (34, 49), (36, 51)], [(29, 44), (37, 52)], [(29, 44), (38, 53)], [(39, 54)]]) [(2, .pointer (some ⟨gq, 0, none⟩)), (3, .pointer (some ⟨gs, 0, none⟩))] [EV (.agg #[.slice AC n cC, .slice AA m cA, .slice AB m cB]), EV (.pointer (some ⟨gs, 1, none⟩)), EV (.slice AX kX cX), EV (.bool true), EV (.bool true), EV (.agg #[.slice AC n cC, .slice AA m cA, .slice AB m cB]), EV (.pointer (some ⟨gs, 2, none⟩)), EV (.slice AY kY cY), EV (.pointer (some ⟨gq, 0, none⟩)), EV (.slice AC n cC), EV (.bool true), EV (.bool true), EV (.bool true), EV (.pointer (some ⟨gs, 3, none⟩)), EV (.slice AR kR cR), EV (.int .i64 ((kR : Int))), EV (.bool false), EV (.bool false), EV (.bool false), UD, UD, UD, UD, UD, UD, UD, UD, UD, EV (.bool false), EV (.bool false), UD, UD, UD, UD, UD, UD, UD, UD, UD, EV (.bool false), EV (.bool false)] (by kernel_rfl) (by kernel_rfl) ⟨rfl, rfl, trivial⟩ ?_ ?_ ?_
          · exact ⟨sI, sI, sI, sI, sI, sI, sI, sI, sI, sI, sI, sI, sI, sI, sI, sI, sI, sI, sI, sI, sI, sI, sI, sI, sI, sI, sI, sI, sI, sI, sI, sI, sI, sI, sI, sI, sI, sI, sI, sI, sI, trivial⟩
          · refine ⟨?_, ?_, ?_, ?_, ?_, ?_, ?_, ?_, ?_, ?_, ?_, ?_, ?_, ?_, ?_, ?_, ?_, ?_, ?_, ?_, ?_, ?_, ?_, ?_, ?_, ?_, ?_, ?_, ?_, ?_, ?_, ?_, ?_, ?_, ?_, ?_, ?_, ?_, ?_, ?_, ?_, trivial⟩
            · exact fun aa ww hb he hd => ob_plain rfl (load_prb rfl he.1 (Blk.keep HQ.out hb))
            · exact fun aa ww hb he hd => ob_plain rfl (fld_sol rfl (by decide) he.2.1)
            · exact fun aa ww hb he hd => ob_plain rfl (load_c28 rfl hd.1 (Blk.at1 HS.out hb))
            · exact fun aa ww hb he hd => ob_plain rfl (gives_call2 _ _ _ _ rfl (by kernel_rfl) (by rw [show aa.eval (.tmp 15) = .agg #[.slice AC n cC, .slice AA m cA, .slice AB m cB] from hd.1, show aa.eval (.tmp 17) = .slice AX kX cX from hd.2.1]; exact ret_t (sfeas_any n m kX cC cA cB cX b bx AC AA AB AX Ar ln cp A C B X _ (PrW.new HP.out (bthen HB.out hb HB.out.size)) HL.out (Rs.newW HX.out (bthen HB.out hb HB.out.size)) hn hm hb1 (by omega) HCx.out) (t_iff H0.out)))
            · exact fun _ _ _ he hd => ob_mv rfl rfl hd.1
            · exact fun aa ww hb he hd => ob_on 19 rfl (by kernel_rfl) hd.1 (load_prb rfl he.1 (Blk.keep HQ.out hb))
            · exact fun aa ww hb he hd => ob_on 19 rfl (by kernel_rfl) hd.1 (fld_sol rfl (by decide) he.2.1)
            · exact fun aa ww hb he hd => ob_on 19 rfl (by kernel_rfl) hd.1 (load_c28 rfl hd.2.1 (Blk.at2 HS.out hb))
            · exact fun aa ww hb he hd => ob_on 19 rfl (by kernel_rfl) hd.1 (fld_prb rfl (by decide) he.1)
            · exact fun aa ww hb he hd => ob_on 19 rfl (by kernel_rfl) hd.1 (load_c28 rfl hd.2.1 (Blk.at0 HQ.out hb))
            · exact fun aa ww hb he hd => ob_on 19 rfl (by kernel_rfl) hd.1 (gives_call3 _ _ _ _ _ rfl (by kernel_rfl) (by rw [show aa.eval (.tmp 20) = .agg #[.slice AC n cC, .slice AA m cA, .slice AB m cB] from hd.2.1, show aa.eval (.tmp 22) = .slice AY kY cY from hd.2.2.1, show aa.eval (.tmp 24) = .slice AC n cC from hd.2.2.2.1]; exact ret_t (bounds_any n m kY n cC cA cB cY cC b by_ b AC AA AB AY AC Ar ln cp A C B Y C _ (PrW.new HP.out (bthen HB.out hb HB.out.size)) HL.out (Rs.newW HY.out (bthen HB.out hb HB.out.size)) (Rs.newW HP.out.c (bthen HB.out hb HB.out.size)) (Nat.le_refl _) hn hm hb1 (by omega) (by omega) HCy.out) (t_iff H1.out)))
            · exact fun aa ww hb he hd => ob_plain rfl (gives_pick true _ _ _ rfl hd.1 ⟨hd.2.1, Below.refl _ _⟩)
            · exact fun _ _ _ he hd => ob_mv rfl rfl hd.1
            · exact fun aa ww hb he hd => ob_on 27 rfl (by kernel_rfl) hd.1 (fld_sol rfl (by decide) he.2.1)
            · exact fun aa ww hb he hd => ob_on 27 rfl (by kernel_rfl) hd.1 (load_c28 rfl hd.2.1 (Blk.at3 HS.out hb))
            · exact fun aa ww hb he hd => ob_on 27 rfl (by kernel_rfl) hd.1 (len_c Try.underlying28 rfl hd.2.1)
            · exact fun aa ww hb he hd => ob_on 27 rfl (by kernel_rfl) hd.1 (gives_eq_int ((kR : Int)) 0 .i64 _ _ _ _ rfl hd.2.1 rfl ⟨congrArg Value.bool (keq0.trans (decide_eq_false H2.out)), Below.refl _ _⟩)
            · exact fun aa ww hb he hd => ob_plain rfl (gives_pick true _ _ _ rfl hd.1 ⟨hd.2.1, Below.refl _ _⟩)
            · exact fun _ _ _ he hd => ob_mv rfl rfl hd.1
            iterate 9 exact fun aa ww hb he hd => ob_off 33 rfl (by kernel_rfl) hd.1 rfl
            · exact fun aa ww hb he hd => ob_plain rfl (gives_pick false _ _ _ rfl hd.1 ⟨rfl, Below.refl _ _⟩)
            · exact fun _ _ _ he hd => ob_mv rfl rfl hd.1
            iterate 9 exact fun aa ww hb he hd => ob_off 44 rfl (by kernel_rfl) hd.1 rfl
            · exact fun aa ww hb he hd => ob_plain rfl (gives_pick false _ _ _ rfl hd.1 ⟨rfl, Below.refl _ _⟩)
            · exact fun aa ww hb he hd => ob_plain rfl (gives_assign _ rfl ⟨hd.1, Below.refl _ _⟩)
          intro vs w4 hb hR
          have e4 : vs 40 = .bool false := hR 40 (by decide)
          clear hR
          simp only [putsL, Nat.zero_add, Nat.reduceAdd, List.take_succ_cons, List.take_zero, Act.put, List.setIfInBounds_toArray, List.set_cons_zero, List.set_cons_succ]
          rw [e4]
          clear e4
          go_wp2_with fail
          go_ret
          exact ⟨false, rfl, bthen HB.out hb HB.out.size, f_iff (fun h => by
        obtain ⟨-, -, h⟩ := h
        rcases h with ⟨h, q⟩ | ⟨h, q⟩ | ⟨h, q⟩
        · exact H2.out q.2.2.1
        · exact absurd h (by decide)
        · exact absurd h (by decide))⟩
        · have H2 := Lib.hid h2; clear h2
          by_cases h3 : sm (fun l => C l * X l) n = v
          rotate_left
          · have H3 := Lib.hid h3; clear h3
            refine wp_region_each (kss := [[], [], [(1, 16)], [(0, 15), (2, 17)], [(3, 18)], [(4, 19)], [(4, 19)], [(4, 19), (6, 21)], [(4, 19)], [(4, 19), (8, 23)], [(4, 19), (5, 20), (7, 22), (9, 24)], [(4, 19), (10, 25)], [(11, 26)], [(12, 27)], [(12, 27), (13, 28)], [(12, 27), (14, 29)], [(12, 27), (15, 30)], [(12, 27), (16, 31)], [(17, 32)], [(18, 33)], [(18, 33), (19, 34)], [(18, 33)], [(18, 33), (21, 36)], [(18, 33), (20, 35), (22, 37)], [(18, 33)], [(18, 33), (24, 39)], [(18, 33), (23, 38), (25, 40)], [(18, 33), (26, 41)], [(18, 33), (27, 42)], [(28, 43)], [(29, 44)], [(29, 44), (30, 45)], [(29, 44)], [(29, 44), (32, 47)], [(29, 44), (31, 46), (33, 48)], [(29, 44)], [(29, 44), (35, 50)], [(29, 44), (34, 49), (36, 51)], [(29, 44), (37, 52)], [(29, 44), (38, 53)], [(39, 54)]]) [(2, .pointer (some ⟨gq, 0, none⟩)), (3, .pointer (some ⟨gs, 0, none⟩))] [EV (.agg #[.slice AC n cC, .slice AA m cA, .slice AB m cB]), EV (.pointer (some ⟨gs, 1, none⟩)), EV (.slice AX kX cX), EV (.bool true), EV (.bool true), EV (.agg #[.slice AC n cC, .slice AA m cA, .slice AB m cB]), EV (.pointer (some ⟨gs, 2, none⟩)), EV (.slice AY kY cY), EV (.pointer (some ⟨gq, 0, none⟩)), EV (.slice AC n cC), EV (.bool true), EV (.bool true), EV (.bool true), EV (.pointer (some ⟨gs, 3, none⟩)), EV (.slice AR kR cR), EV (.int .i64 ((kR : Int))), EV (.bool true), EV (.bool true), EV (.bool true), EV (.pointer (some ⟨gq, 0, none⟩)), EV (.slice AC n cC), EV (.pointer (some ⟨gs, 1, none⟩)), EV (.slice AX kX cX), Rw (2 + n * (b + bx + 1)) (sm (fun l => C l * X l) n), EV (.pointer (some ⟨gs, 4, none⟩)), Rw (bv) (v), EV (.int .i64 (rcq (sm (fun l => C l * X l) n) v)), EV (.bool false), EV (.bool false), EV (.bool false), UD, UD, UD, UD, UD, UD, UD, UD, UD, EV (.bool false), EV (.bool false)] (by kernel_rfl) (by kernel_rfl) ⟨rfl, rfl, trivial⟩ ?_ ?_ ?_
            · exact ⟨sI, sI, sI, sI, sI, sI, sI, sI, sI, sI, sI, sI, sI, sI, sI, sI, sI, sI, sI, sI, sI, sI, sI, fun _ _ _ h hb => h.new hb, sI, fun _ _ _ h hb => h.new hb, sI, sI, sI, sI, sI, sI, sI, sI, sI, sI, sI, sI, sI, sI, sI, trivial⟩
            · refine ⟨?_, ?_, ?_, ?_, ?_, ?_, ?_, ?_, ?_, ?_, ?_, ?_, ?_, ?_, ?_, ?_, ?_, ?_, ?_, ?_, ?_, ?_, ?_, ?_, ?_, ?_, ?_, ?_, ?_, ?_, ?_, ?_, ?_, ?_, ?_, ?_, ?_, ?_, ?_, ?_, ?_, trivial⟩
              · exact fun aa ww hb he hd => ob_plain rfl (load_prb rfl he.1 (Blk.keep HQ.out hb))
              · exact fun aa ww hb he hd => ob_plain rfl (fld_sol rfl (by decide) he.2.1)
              · exact fun aa ww hb he hd => ob_plain rfl (load_c28 rfl hd.1 (Blk.at1 HS.out hb))
              · exact fun aa ww hb he hd => ob_plain rfl (gives_call2 _ _ _ _ rfl (by kernel_rfl) (by rw [show aa.eval (.tmp 15) = .agg #[.slice AC n cC, .slice AA m cA, .slice AB m cB] from hd.1, show aa.eval (.tmp 17) = .slice AX kX cX from hd.2.1]; exact ret_t (sfeas_any n m kX cC cA cB cX b bx AC AA AB AX Ar ln cp A C B X _ (PrW.new HP.out (bthen HB.out hb HB.out.size)) HL.out (Rs.newW HX.out (bthen HB.out hb HB.out.size)) hn hm hb1 (by omega) HCx.out) (t_iff H0.out)))
              · exact fun _ _ _ he hd => ob_mv rfl rfl hd.1
              · exact fun aa ww hb he hd => ob_on 19 rfl (by kernel_rfl) hd.1 (load_prb rfl he.1 (Blk.keep HQ.out hb))
              · exact fun aa ww hb he hd => ob_on 19 rfl (by kernel_rfl) hd.1 (fld_sol rfl (by decide) he.2.1)
              · exact fun aa ww hb he hd => ob_on 19 rfl (by kernel_rfl) hd.1 (load_c28 rfl hd.2.1 (Blk.at2 HS.out hb))
              · exact fun aa ww hb he hd => ob_on 19 rfl (by kernel_rfl) hd.1 (fld_prb rfl (by decide) he.1)
              · exact fun aa ww hb he hd => ob_on 19 rfl (by kernel_rfl) hd.1 (load_c28 rfl hd.2.1 (Blk.at0 HQ.out hb))
              · exact fun aa ww hb he hd => ob_on 19 rfl (by kernel_rfl) hd.1 (gives_call3 _ _ _ _ _ rfl (by kernel_rfl) (by rw [show aa.eval (.tmp 20) = .agg #[.slice AC n cC, .slice AA m cA, .slice AB m cB] from hd.2.1, show aa.eval (.tmp 22) = .slice AY kY cY from hd.2.2.1, show aa.eval (.tmp 24) = .slice AC n cC from hd.2.2.2.1]; exact ret_t (bounds_any n m kY n cC cA cB cY cC b by_ b AC AA AB AY AC Ar ln cp A C B Y C _ (PrW.new HP.out (bthen HB.out hb HB.out.size)) HL.out (Rs.newW HY.out (bthen HB.out hb HB.out.size)) (Rs.newW HP.out.c (bthen HB.out hb HB.out.size)) (Nat.le_refl _) hn hm hb1 (by omega) (by omega) HCy.out) (t_iff H1.out)))
              · exact fun aa ww hb he hd => ob_plain rfl (gives_pick true _ _ _ rfl hd.1 ⟨hd.2.1, Below.refl _ _⟩)
              · exact fun _ _ _ he hd => ob_mv rfl rfl hd.1
              · exact fun aa ww hb he hd => ob_on 27 rfl (by kernel_rfl) hd.1 (fld_sol rfl (by decide) he.2.1)
              · exact fun aa ww hb he hd => ob_on 27 rfl (by kernel_rfl) hd.1 (load_c28 rfl hd.2.1 (Blk.at3 HS.out hb))
              · exact fun aa ww hb he hd => ob_on 27 rfl (by kernel_rfl) hd.1 (len_c Try.underlying28 rfl hd.2.1)
              · exact fun aa ww hb he hd => ob_on 27 rfl (by kernel_rfl) hd.1 (gives_eq_int ((kR : Int)) 0 .i64 _ _ _ _ rfl hd.2.1 rfl ⟨congrArg Value.bool (keq0.trans (decide_eq_true H2.out)), Below.refl _ _⟩)
              · exact fun aa ww hb he hd => ob_plain rfl (gives_pick true _ _ _ rfl hd.1 ⟨hd.2.1, Below.refl _ _⟩)
              · exact fun _ _ _ he hd => ob_mv rfl rfl hd.1
              · exact fun aa ww hb he hd => ob_on 33 rfl (by kernel_rfl) hd.1 (fld_prb rfl (by decide) he.1)
              · exact fun aa ww hb he hd => ob_on 33 rfl (by kernel_rfl) hd.1 (load_c28 rfl hd.2.1 (Blk.at0 HQ.out hb))
              · exact fun aa ww hb he hd => ob_on 33 rfl (by kernel_rfl) hd.1 (fld_sol rfl (by decide) he.2.1)
              · exact fun aa ww hb he hd => ob_on 33 rfl (by kernel_rfl) hd.1 (load_c28 rfl hd.2.1 (Blk.at1 HS.out hb))
              · exact fun aa ww hb he hd => ob_on 33 rfl (by kernel_rfl) hd.1 (gives_call2 _ _ _ _ rfl (by kernel_rfl) (by rw [show aa.eval (.tmp 35) = .slice AC n cC from hd.2.1, show aa.eval (.tmp 37) = .slice AX kX cX from hd.2.2.1]; exact dot_any n kX cC cX b bx _ _ C X _ (Rs.newW HP.out.c (bthen HB.out hb HB.out.size)) (Rs.newW HX.out (bthen HB.out hb HB.out.size)) (by omega) (by omega) (by omega) (by omega) HCx.out))
              · exact fun aa ww hb he hd => ob_on 33 rfl (by kernel_rfl) hd.1 (fld_sol rfl (by decide) he.2.1)
              · exact fun aa ww hb he hd => ob_on 33 rfl (by kernel_rfl) hd.1 (load_sv rfl hd.2.1 (Blk.keep HS.out hb) (Rw.new HV.out (bthen HB.out hb HB.out.size)))
              · exact fun aa ww hb he hd => ob_on 33 rfl (by kernel_rfl) hd.1 (gives_call2 _ _ _ _ rfl (by kernel_rfl) (cmp_v (hd.2.1) (hd.2.2.1) (by have := HCx.out; have := HCy2.out; have := HCr.out; omega)))
              · exact fun aa ww hb he hd => ob_on 33 rfl (by kernel_rfl) hd.1 (gives_eq_int (rcq (sm (fun l => C l * X l) n) v) 0 .i64 _ _ _ _ rfl hd.2.1 rfl ⟨congrArg Value.bool (rcq_eqb.trans (decide_eq_false H3.out)), Below.refl _ _⟩)
              · exact fun aa ww hb he hd => ob_plain rfl (gives_pick true _ _ _ rfl hd.1 ⟨hd.2.1, Below.refl _ _⟩)
              · exact fun _ _ _ he hd => ob_mv rfl rfl hd.1
              iterate 9 exact fun aa ww hb he hd => ob_off 44 rfl (by kernel_rfl) hd.1 rfl
              · exact fun aa ww hb he hd => ob_plain rfl (gives_pick false _ _ _ rfl hd.1 ⟨rfl, Below.refl _ _⟩)
              · exact fun aa ww hb he hd => ob_plain rfl (gives_assign _ rfl ⟨hd.1, Below.refl _ _⟩)
            intro vs w4 hb hR
            have e4 : vs 40 = .bool false := hR 40 (by decide)
            clear hR
            simp only [putsL, Nat.zero_add, Nat.reduceAdd, List.take_succ_cons, List.take_zero, Act.put, List.setIfInBounds_toArray, List.set_cons_zero, List.set_cons_succ]
            rw [e4]
            clear e4
            go_wp2_with fail
            go_ret
            exact ⟨false, rfl, bthen HB.out hb HB.out.size, f_iff (fun h => by
          obtain ⟨-, -, h⟩ := h
          rcases h with ⟨h, q⟩ | ⟨h, q⟩ | ⟨h, q⟩
          · exact H3.out q.2.2.2.1
          · exact absurd h (by decide)
          · exact absurd h (by decide))⟩
          · have H3 := Lib.hid h3; clear h3
            by_cases h4 : sm (fun l => B l * Y l) m = v
            rotate_left
            · have H4 := Lib.hid h4; clear h4
              refine wp_region_each (kss := [[], [], [(1, 16)], [(0, 15), (2, 17)], [(3, 18)], [(4, 19)], [(4, 19)], [(4, 19), (6, 21)], [(4, 19)], [(4, 19), (8, 23)], [(4, 19), (5, 20), (7, 22), (9, 24)], [(4, 19), (10, 25)], [(11, 26)], [(12, 27)], [(12, 27), (13, 28)], [(12, 27), (14, 29)], [(12, 27), (15, 30)], [(12, 27), (16, 31)], [(17, 32)], [(18, 33)], [(18, 33), (19, 34)], [(18, 33)], [(18, 33), (21, 36)], [(18, 33), (20, 35), (22, 37)], [(18, 33)], [(18, 33), (24, 39)], [(18, 33), (23, 38), (25, 40)], [(18, 33), (26, 41)], [(18, 33), (27, 42)], [(28, 43)], [(29, 44)], [(29, 44), (30, 45)], [(29, 44)], [(29, 44), (32, 47)], [(29, 44), (31, 46), (33, 48)], [(29, 44)], [(29, 44), (35, 50)], [(29, 44), (34, 49), (36, 51)], [(29, 44), (37, 52)], [(29, 44), (38, 53)], [(39, 54)]]) [(2, .pointer (some ⟨gq, 0, none⟩)), (3, .pointer (some ⟨gs, 0, none⟩))] [EV (.agg #[.slice AC n cC, .slice AA m cA, .slice AB m cB]), EV (.pointer (some ⟨gs, 1, none⟩)), EV (.slice AX kX cX), EV (.bool true), EV (.bool true), EV (.agg #[.slice AC n cC, .slice AA m cA, .slice AB m cB]), EV (.pointer (some ⟨gs, 2, none⟩)), EV (.slice AY kY cY), EV (.pointer (some ⟨gq, 0, none⟩)), EV (.slice AC n cC), EV (.bool true), EV (.bool true), EV (.bool true), EV (.pointer (some ⟨gs, 3, none⟩)), EV (.slice AR kR cR), EV (.int .i64 ((kR : Int))), EV (.bool true), EV (.bool true), EV (.bool true), EV (.pointer (some ⟨gq, 0, none⟩)), EV (.slice AC n cC), EV (.pointer (some ⟨gs, 1, none⟩)), EV (.slice AX kX cX), Rw (2 + n * (b + bx + 1)) (sm (fun l => C l * X l) n), EV (.pointer (some ⟨gs, 4, none⟩)), Rw (bv) (v), EV (.int .i64 (rcq (sm (fun l => C l * X l) n) v)), EV (.bool true), EV (.bool true), EV (.bool true), EV (.pointer (some ⟨gq, 2, none⟩)), EV (.slice AB m cB), EV (.pointer (some ⟨gs, 2, none⟩)), EV (.slice AY kY cY), Rw (2 + m * (b + by_ + 1)) (sm (fun l => B l * Y l) m), EV (.pointer (some ⟨gs, 4, none⟩)), Rw (bv) (v), EV (.int .i64 (rcq (sm (fun l => B l * Y l) m) v)), EV (.bool false), EV (.bool false), EV (.bool false)] (by kernel_rfl) (by kernel_rfl) ⟨rfl, rfl, trivial⟩ ?_ ?_ ?_
              · exact ⟨sI, sI, sI, sI, sI, sI, sI, sI, sI, sI, sI, sI, sI, sI, sI, sI, sI, sI, sI, sI, sI, sI, sI, fun _ _ _ h hb => h.new hb, sI, fun _ _ _ h hb => h.new hb, sI, sI, sI, sI, sI, sI, sI, sI, fun _ _ _ h hb => h.new hb, sI, fun _ _ _ h hb => h.new hb, sI, sI, sI, sI, trivial⟩
              · refine ⟨?_, ?_, ?_, ?_, ?_, ?_, ?_, ?_, ?_, ?_, ?_, ?_, ?_, ?_, ?_, ?_, ?_, ?_, ?_, ?_, ?_, ?_, ?_, ?_, ?_, ?_, ?_, ?_, ?_, ?_, ?_, ?_, ?_, ?_, ?_, ?_, ?_, ?_, ?_, ?_, ?_, trivial⟩
                · exact fun aa ww hb he hd => ob_plain rfl (load_prb rfl he.1 (Blk.keep HQ.out hb))
                · exact fun aa ww hb he hd => ob_plain rfl (fld_sol rfl (by decide) he.2.1)
                · exact fun aa ww hb he hd => ob_plain rfl (load_c28 rfl hd.1 (Blk.at1 HS.out hb))
                · exact fun aa ww hb he hd => ob_plain rfl (gives_call2 _ _ _ _ rfl (by kernel_rfl) (by rw [show aa.eval (.tmp 15) = .agg #[.slice AC n cC, .slice AA m cA, .slice AB m cB] from hd.1, show aa.eval (.tmp 17) = .slice AX kX cX from hd.2.1]; exact ret_t (sfeas_any n m kX cC cA cB cX b bx AC AA AB AX Ar ln cp A C B X _ (PrW.new HP.out (bthen HB.out hb HB.out.size)) HL.out (Rs.newW HX.out (bthen HB.out hb HB.out.size)) hn hm hb1 (by omega) HCx.out) (t_iff H0.out)))
                · exact fun _ _ _ he hd => ob_mv rfl rfl hd.1
                · exact fun aa ww hb he hd => ob_on 19 rfl (by kernel_rfl) hd.1 (load_prb rfl he.1 (Blk.keep HQ.out hb))
                · exact fun aa ww hb he hd => ob_on 19 rfl (by kernel_rfl) hd.1 (fld_sol rfl (by decide) he.2.1)
                · exact fun aa ww hb he hd => ob_on 19 rfl (by kernel_rfl) hd.1 (load_c28 rfl hd.2.1 (Blk.at2 HS.out hb))
                · exact fun aa ww hb he hd => ob_on 19 rfl (by kernel_rfl) hd.1 (fld_prb rfl (by decide) he.1)
                · exact fun aa ww hb he hd => ob_on 19 rfl (by kernel_rfl) hd.1 (load_c28 rfl hd.2.1 (Blk.at0 HQ.out hb))
                · exact fun aa ww hb he hd => ob_on 19 rfl (by kernel_rfl) hd.1 (gives_call3 _ _ _ _ _ rfl (by kernel_rfl) (by rw [show aa.eval (.tmp 20) = .agg #[.slice AC n cC, .slice AA m cA, .slice AB m cB] from hd.2.1, show aa.eval (.tmp 22) = .slice AY kY cY from hd.2.2.1, show aa.eval (.tmp 24) = .slice AC n cC from hd.2.2.2.1]; exact ret_t (bounds_any n m kY n cC cA cB cY cC b by_ b AC AA AB AY AC Ar ln cp A C B Y C _ (PrW.new HP.out (bthen HB.out hb HB.out.size)) HL.out (Rs.newW HY.out (bthen HB.out hb HB.out.size)) (Rs.newW HP.out.c (bthen HB.out hb HB.out.size)) (Nat.le_refl _) hn hm hb1 (by omega) (by omega) HCy.out) (t_iff H1.out)))
                · exact fun aa ww hb he hd => ob_plain rfl (gives_pick true _ _ _ rfl hd.1 ⟨hd.2.1, Below.refl _ _⟩)
                · exact fun _ _ _ he hd => ob_mv rfl rfl hd.1
                · exact fun aa ww hb he hd => ob_on 27 rfl (by kernel_rfl) hd.1 (fld_sol rfl (by decide) he.2.1)
                · exact fun aa ww hb he hd => ob_on 27 rfl (by kernel_rfl) hd.1 (load_c28 rfl hd.2.1 (Blk.at3 HS.out hb))
                · exact fun aa ww hb he hd => ob_on 27 rfl (by kernel_rfl) hd.1 (len_c Try.underlying28 rfl hd.2.1)
                · exact fun aa ww hb he hd => ob_on 27 rfl (by kernel_rfl) hd.1 (gives_eq_int ((kR : Int)) 0 .i64 _ _ _ _ rfl hd.2.1 rfl ⟨congrArg Value.bool (keq0.trans (decide_eq_true H2.out)), Below.refl _ _⟩)
                · exact fun aa ww hb he hd => ob_plain rfl (gives_pick true _ _ _ rfl hd.1 ⟨hd.2.1, Below.refl _ _⟩)
                · exact fun _ _ _ he hd => ob_mv rfl rfl hd.1
                · exact fun aa ww hb he hd => ob_on 33 rfl (by kernel_rfl) hd.1 (fld_prb rfl (by decide) he.1)
                · exact fun aa ww hb he hd => ob_on 33 rfl (by kernel_rfl) hd.1 (load_c28 rfl hd.2.1 (Blk.at0 HQ.out hb))
                · exact fun aa ww hb he hd => ob_on 33 rfl (by kernel_rfl) hd.1 (fld_sol rfl (by decide) he.2.1)
                · exact fun aa ww hb he hd => ob_on 33 rfl (by kernel_rfl) hd.1 (load_c28 rfl hd.2.1 (Blk.at1 HS.out hb))
                · exact fun aa ww hb he hd => ob_on 33 rfl (by kernel_rfl) hd.1 (gives_call2 _ _ _ _ rfl (by kernel_rfl) (by rw [show aa.eval (.tmp 35) = .slice AC n cC from hd.2.1, show aa.eval (.tmp 37) = .slice AX kX cX from hd.2.2.1]; exact dot_any n kX cC cX b bx _ _ C X _ (Rs.newW HP.out.c (bthen HB.out hb HB.out.size)) (Rs.newW HX.out (bthen HB.out hb HB.out.size)) (by omega) (by omega) (by omega) (by omega) HCx.out))
                · exact fun aa ww hb he hd => ob_on 33 rfl (by kernel_rfl) hd.1 (fld_sol rfl (by decide) he.2.1)
                · exact fun aa ww hb he hd => ob_on 33 rfl (by kernel_rfl) hd.1 (load_sv rfl hd.2.1 (Blk.keep HS.out hb) (Rw.new HV.out (bthen HB.out hb HB.out.size)))
                · exact fun aa ww hb he hd => ob_on 33 rfl (by kernel_rfl) hd.1 (gives_call2 _ _ _ _ rfl (by kernel_rfl) (cmp_v (hd.2.1) (hd.2.2.1) (by have := HCx.out; have := HCy2.out; have := HCr.out; omega)))
                · exact fun aa ww hb he hd => ob_on 33 rfl (by kernel_rfl) hd.1 (gives_eq_int (rcq (sm (fun l => C l * X l) n) v) 0 .i64 _ _ _ _ rfl hd.2.1 rfl ⟨congrArg Value.bool (rcq_eqb.trans (decide_eq_true H3.out)), Below.refl _ _⟩)
                · exact fun aa ww hb he hd => ob_plain rfl (gives_pick true _ _ _ rfl hd.1 ⟨hd.2.1, Below.refl _ _⟩)
                · exact fun _ _ _ he hd => ob_mv rfl rfl hd.1
                · exact fun aa ww hb he hd => ob_on 44 rfl (by kernel_rfl) hd.1 (fld_prb rfl (by decide) he.1)
                · exact fun aa ww hb he hd => ob_on 44 rfl (by kernel_rfl) hd.1 (load_c28 rfl hd.2.1 (Blk.at2 HQ.out hb))
                · exact fun aa ww hb he hd => ob_on 44 rfl (by kernel_rfl) hd.1 (fld_sol rfl (by decide) he.2.1)
                · exact fun aa ww hb he hd => ob_on 44 rfl (by kernel_rfl) hd.1 (load_c28 rfl hd.2.1 (Blk.at2 HS.out hb))
                · exact fun aa ww hb he hd => ob_on 44 rfl (by kernel_rfl) hd.1 (gives_call2 _ _ _ _ rfl (by kernel_rfl) (by rw [show aa.eval (.tmp 46) = .slice AB m cB from hd.2.1, show aa.eval (.tmp 48) = .slice AY kY cY from hd.2.2.1]; exact dot_any m kY cB cY b by_ _ _ B Y _ (Rs.newW HP.out.bb (bthen HB.out hb HB.out.size)) (Rs.newW HY.out (bthen HB.out hb HB.out.size)) (by omega) (by omega) (by omega) (by omega) HCy2.out))
                · exact fun aa ww hb he hd => ob_on 44 rfl (by kernel_rfl) hd.1 (fld_sol rfl (by decide) he.2.1)
                · exact fun aa ww hb he hd => ob_on 44 rfl (by kernel_rfl) hd.1 (load_sv rfl hd.2.1 (Blk.keep HS.out hb) (Rw.new HV.out (bthen HB.out hb HB.out.size)))
                · exact fun aa ww hb he hd => ob_on 44 rfl (by kernel_rfl) hd.1 (gives_call2 _ _ _ _ rfl (by kernel_rfl) (cmp_v (hd.2.1) (hd.2.2.1) (by have := HCx.out; have := HCy2.out; have := HCr.out; omega)))
                · exact fun aa ww hb he hd => ob_on 44 rfl (by kernel_rfl) hd.1 (gives_eq_int (rcq (sm (fun l => B l * Y l) m) v) 0 .i64 _ _ _ _ rfl hd.2.1 rfl ⟨congrArg Value.bool (rcq_eqb.trans (decide_eq_false H4.out)), Below.refl _ _⟩)
                · exact fun aa ww hb he hd => ob_plain rfl (gives_pick true _ _ _ rfl hd.1 ⟨hd.2.1, Below.refl _ _⟩)
                · exact fun aa ww hb he hd => ob_plain rfl (gives_assign _ rfl ⟨hd.1, Below.refl _ _⟩)
              intro vs w4 hb hR
              have e4 : vs 40 = .bool false := hR 40 (by decide)
              clear hR
              simp only [putsL, Nat.zero_add, Nat.reduceAdd, List.take_succ_cons, List.take_zero, Act.put, List.setIfInBounds_toArray, List.set_cons_zero, List.set_cons_succ]
              rw [e4]
              clear e4
              go_wp2_with fail
              go_ret
              exact ⟨false, rfl, bthen HB.out hb HB.out.size, f_iff (fun h => by
            obtain ⟨-, -, h⟩ := h
            rcases h with ⟨h, q⟩ | ⟨h, q⟩ | ⟨h, q⟩
            · exact H4.out q.2.2.2.2
            · exact absurd h (by decide)
            · exact absurd h (by decide))⟩
            · have H4 := Lib.hid h4; clear h4
              refine wp_region_each (kss := [[], [], [(1, 16)], [(0, 15), (2, 17)], [(3, 18)], [(4, 19)], [(4, 19)], [(4, 19), (6, 21)], [(4, 19)], [(4, 19), (8, 23)], [(4, 19), (5, 20), (7, 22), (9, 24)], [(4, 19), (10, 25)], [(11, 26)], [(12, 27)], [(12, 27), (13, 28)], [(12, 27), (14, 29)], [(12, 27), (15, 30)], [(12, 27), (16, 31)], [(17, 32)], [(18, 33)], [(18, 33), (19, 34)], [(18, 33)], [(18, 33), (21, 36)], [(18, 33), (20, 35), (22, 37)], [(18, 33)], [(18, 33), (24, 39)], [(18, 33), (23, 38), (25, 40)], [(18, 33), (26, 41)], [(18, 33), (27, 42)], [(28, 43)], [(29, 44)], [(29, 44), (30, 45)], [(29, 44)], [(29, 44), (32, 47)], [(29, 44), (31, 46), (33, 48)], [(29, 44)], [(29, 44), (35, 50)], [(29, 44), (34, 49), (36, 51)], [(29, 44), (37, 52)], [(29, 44), (38, 53)], [(39, 54)]]) [(2, .pointer (some ⟨gq, 0, none⟩)), (3, .pointer (some ⟨gs, 0, none⟩))] [EV (.agg #[.slice AC n cC, .slice AA m cA, .slice AB m cB]), EV (.pointer (some ⟨gs, 1, none⟩)), EV (.slice AX kX cX), EV (.bool true), EV (.bool true), EV (.agg #[.slice AC n cC, .slice AA m cA, .slice AB m cB]), EV (.pointer (some ⟨gs, 2, none⟩)), EV (.slice AY kY cY), EV (.pointer (some ⟨gq, 0, none⟩)), EV (.slice AC n cC), EV (.bool true), EV (.bool true), EV (.bool true), EV (.pointer (some ⟨gs, 3, none⟩)), EV (.slice AR kR cR), EV (.int .i64 ((kR : Int))), EV (.bool true), EV (.bool true), EV (.bool true), EV (.pointer (some ⟨gq, 0, none⟩)), EV (.slice AC n cC), EV (.pointer (some ⟨gs, 1, none⟩)), EV (.slice AX kX cX), Rw (2 + n * (b + bx + 1)) (sm (fun l => C l * X l) n), EV (.pointer (some ⟨gs, 4, none⟩)), Rw (bv) (v), EV (.int .i64 (rcq (sm (fun l => C l * X l) n) v)), EV (.bool true), EV (.bool true), EV (.bool true), EV (.pointer (some ⟨gq, 2, none⟩)), EV (.slice AB m cB), EV (.pointer (some ⟨gs, 2, none⟩)), EV (.slice AY kY cY), Rw (2 + m * (b + by_ + 1)) (sm (fun l => B l * Y l) m), EV (.pointer (some ⟨gs, 4, none⟩)), Rw (bv) (v), EV (.int .i64 (rcq (sm (fun l => B l * Y l) m) v)), EV (.bool true), EV (.bool true), EV (.bool true)] (by kernel_rfl) (by kernel_rfl) ⟨rfl, rfl, trivial⟩ ?_ ?_ ?_
              · exact ⟨sI, sI, sI, sI, sI, sI, sI, sI, sI, sI, sI, sI, sI, sI, sI, sI, sI, sI, sI, sI, sI, sI, sI, fun _ _ _ h hb => h.new hb, sI, fun _ _ _ h hb => h.new hb, sI, sI, sI, sI, sI, sI, sI, sI, fun _ _ _ h hb => h.new hb, sI, fun _ _ _ h hb => h.new hb, sI, sI, sI, sI, trivial⟩
              · refine ⟨?_, ?_, ?_, ?_, ?_, ?_, ?_, ?_, ?_, ?_, ?_, ?_, ?_, ?_, ?_, ?_, ?_, ?_, ?_, ?_, ?_, ?_, ?_, ?_, ?_, ?_, ?_, ?_, ?_, ?_, ?_, ?_, ?_, ?_, ?_, ?_, ?_, ?_, ?_, ?_, ?_, trivial⟩
                · exact fun aa ww hb he hd => ob_plain rfl (load_prb rfl he.1 (Blk.keep HQ.out hb))
                · exact fun aa ww hb he hd => ob_plain rfl (fld_sol rfl (by decide) he.2.1)
                · exact fun aa ww hb he hd => ob_plain rfl (load_c28 rfl hd.1 (Blk.at1 HS.out hb))
                · exact fun aa ww hb he hd => ob_plain rfl (gives_call2 _ _ _ _ rfl (by kernel_rfl) (by rw [show aa.eval (.tmp 15) = .agg #[.slice AC n cC, .slice AA m cA, .slice AB m cB] from hd.1, show aa.eval (.tmp 17) = .slice AX kX cX from hd.2.1]; exact ret_t (sfeas_any n m kX cC cA cB cX b bx AC AA AB AX Ar ln cp A C B X _ (PrW.new HP.out (bthen HB.out hb HB.out.size)) HL.out (Rs.newW HX.out (bthen HB.out hb HB.out.size)) hn hm hb1 (by omega) HCx.out) (t_iff H0.out)))
                · exact fun _ _ _ he hd => ob_mv rfl rfl hd.1
                · exact fun aa ww hb he hd => ob_on 19 rfl (by kernel_rfl) hd.1 (load_prb rfl he.1 (Blk.keep HQ.out hb))
                · exact fun aa ww hb he hd => ob_on 19 rfl (by kernel_rfl) hd.1 (fld_sol rfl (by decide) he.2.1)
                · exact fun aa ww hb he hd => ob_on 19 rfl (by kernel_rfl) hd.1 (load_c28 rfl hd.2.1 (Blk.at2 HS.out hb))
                · exact fun aa ww hb he hd => ob_on 19 rfl (by kernel_rfl) hd.1 (fld_prb rfl (by decide) he.1)
                · exact fun aa ww hb he hd => ob_on 19 rfl (by kernel_rfl) hd.1 (load_c28 rfl hd.2.1 (Blk.at0 HQ.out hb))
                · exact fun aa ww hb he hd => ob_on 19 rfl (by kernel_rfl) hd.1 (gives_call3 _ _ _ _ _ rfl (by kernel_rfl) (by rw [show aa.eval (.tmp 20) = .agg #[.slice AC n cC, .slice AA m cA, .slice AB m cB] from hd.2.1, show aa.eval (.tmp 22) = .slice AY kY cY from hd.2.2.1, show aa.eval (.tmp 24) = .slice AC n cC from hd.2.2.2.1]; exact ret_t (bounds_any n m kY n cC cA cB cY cC b by_ b AC AA AB AY AC Ar ln cp A C B Y C _ (PrW.new HP.out (bthen HB.out hb HB.out.size)) HL.out (Rs.newW HY.out (bthen HB.out hb HB.out.size)) (Rs.newW HP.out.c (bthen HB.out hb HB.out.size)) (Nat.le_refl _) hn hm hb1 (by omega) (by omega) HCy.out) (t_iff H1.out)))
                · exact fun aa ww hb he hd => ob_plain rfl (gives_pick true _ _ _ rfl hd.1 ⟨hd.2.1, Below.refl _ _⟩)
                · exact fun _ _ _ he hd => ob_mv rfl rfl hd.1
                · exact fun aa ww hb he hd => ob_on 27 rfl (by kernel_rfl) hd.1 (fld_sol rfl (by decide) he.2.1)
                · exact fun aa ww hb he hd => ob_on 27 rfl (by kernel_rfl) hd.1 (load_c28 rfl hd.2.1 (Blk.at3 HS.out hb))
                · exact fun aa ww hb he hd => ob_on 27 rfl (by kernel_rfl) hd.1 (len_c Try.underlying28 rfl hd.2.1)
                · exact fun aa ww hb he hd => ob_on 27 rfl (by kernel_rfl) hd.1 (gives_eq_int ((kR : Int)) 0 .i64 _ _ _ _ rfl hd.2.1 rfl ⟨congrArg Value.bool (keq0.trans (decide_eq_true H2.out)), Below.refl _ _⟩)
                · exact fun aa ww hb he hd => ob_plain rfl (gives_pick true _ _ _ rfl hd.1 ⟨hd.2.1, Below.refl _ _⟩)
                · exact fun _ _ _ he hd => ob_mv rfl rfl hd.1
                · exact fun aa ww hb he hd => ob_on 33 rfl (by kernel_rfl) hd.1 (fld_prb rfl (by decide) he.1)
                · exact fun aa ww hb he hd => ob_on 33 rfl (by kernel_rfl) hd.1 (load_c28 rfl hd.2.1 (Blk.at0 HQ.out hb))
                · exact fun aa ww hb he hd => ob_on 33 rfl (by kernel_rfl) hd.1 (fld_sol rfl (by decide) he.2.1)
                · exact fun aa ww hb he hd => ob_on 33 rfl (by kernel_rfl) hd.1 (load_c28 rfl hd.2.1 (Blk.at1 HS.out hb))
                · exact fun aa ww hb he hd => ob_on 33 rfl (by kernel_rfl) hd.1 (gives_call2 _ _ _ _ rfl (by kernel_rfl) (by rw [show aa.eval (.tmp 35) = .slice AC n cC from hd.2.1, show aa.eval (.tmp 37) = .slice AX kX cX from hd.2.2.1]; exact dot_any n kX cC cX b bx _ _ C X _ (Rs.newW HP.out.c (bthen HB.out hb HB.out.size)) (Rs.newW HX.out (bthen HB.out hb HB.out.size)) (by omega) (by omega) (by omega) (by omega) HCx.out))
                · exact fun aa ww hb he hd => ob_on 33 rfl (by kernel_rfl) hd.1 (fld_sol rfl (by decide) he.2.1)
                · exact fun aa ww hb he hd => ob_on 33 rfl (by kernel_rfl) hd.1 (load_sv rfl hd.2.1 (Blk.keep HS.out hb) (Rw.new HV.out (bthen HB.out hb HB.out.size)))
                · exact fun aa ww hb he hd => ob_on 33 rfl (by kernel_rfl) hd.1 (gives_call2 _ _ _ _ rfl (by kernel_rfl) (cmp_v (hd.2.1) (hd.2.2.1) (by have := HCx.out; have := HCy2.out; have := HCr.out; omega)))
                · exact fun aa ww hb he hd => ob_on 33 rfl (by kernel_rfl) hd.1 (gives_eq_int (rcq (sm (fun l => C l * X l) n) v) 0 .i64 _ _ _ _ rfl hd.2.1 rfl ⟨congrArg Value.bool (rcq_eqb.trans (decide_eq_true H3.out)), Below.refl _ _⟩)
                · exact fun aa ww hb he hd => ob_plain rfl (gives_pick true _ _ _ rfl hd.1 ⟨hd.2.1, Below.refl _ _⟩)
                · exact fun _ _ _ he hd => ob_mv rfl rfl hd.1
                · exact fun aa ww hb he hd => ob_on 44 rfl (by kernel_rfl) hd.1 (fld_prb rfl (by decide) he.1)
                · exact fun aa ww hb he hd => ob_on 44 rfl (by kernel_rfl) hd.1 (load_c28 rfl hd.2.1 (Blk.at2 HQ.out hb))
                · exact fun aa ww hb he hd => ob_on 44 rfl (by kernel_rfl) hd.1 (fld_sol rfl (by decide) he.2.1)
                · exact fun aa ww hb he hd => ob_on 44 rfl (by kernel_rfl) hd.1 (load_c28 rfl hd.2.1 (Blk.at2 HS.out hb))
                · exact fun aa ww hb he hd => ob_on 44 rfl (by kernel_rfl) hd.1 (gives_call2 _ _ _ _ rfl (by kernel_rfl) (by rw [show aa.eval (.tmp 46) = .slice AB m cB from hd.2.1, show aa.eval (.tmp 48) = .slice AY kY cY from hd.2.2.1]; exact dot_any m kY cB cY b by_ _ _ B Y _ (Rs.newW HP.out.bb (bthen HB.out hb HB.out.size)) (Rs.newW HY.out (bthen HB.out hb HB.out.size)) (by omega) (by omega) (by omega) (by omega) HCy2.out))
                · exact fun aa ww hb he hd => ob_on 44 rfl (by kernel_rfl) hd.1 (fld_sol rfl (by decide) he.2.1)
                · exact fun aa ww hb he hd => ob_on 44 rfl (by kernel_rfl) hd.1 (load_sv rfl hd.2.1 (Blk.keep HS.out hb) (Rw.new HV.out (bthen HB.out hb HB.out.size)))
                · exact fun aa ww hb he hd => ob_on 44 rfl (by kernel_rfl) hd.1 (gives_call2 _ _ _ _ rfl (by kernel_rfl) (cmp_v (hd.2.1) (hd.2.2.1) (by have := HCx.out; have := HCy2.out; have := HCr.out; omega)))
                · exact fun aa ww hb he hd => ob_on 44 rfl (by kernel_rfl) hd.1 (gives_eq_int (rcq (sm (fun l => B l * Y l) m) v) 0 .i64 _ _ _ _ rfl hd.2.1 rfl ⟨congrArg Value.bool (rcq_eqb.trans (decide_eq_true H4.out)), Below.refl _ _⟩)
                · exact fun aa ww hb he hd => ob_plain rfl (gives_pick true _ _ _ rfl hd.1 ⟨hd.2.1, Below.refl _ _⟩)
                · exact fun aa ww hb he hd => ob_plain rfl (gives_assign _ rfl ⟨hd.1, Below.refl _ _⟩)
              intro vs w4 hb hR
              have e4 : vs 40 = .bool true := hR 40 (by decide)
              clear hR
              simp only [putsL, Nat.zero_add, Nat.reduceAdd, List.take_succ_cons, List.take_zero, Act.put, List.setIfInBounds_toArray, List.set_cons_zero, List.set_cons_succ]
              rw [e4]
              clear e4
              go_wp2_with fail
              go_ret
              exact ⟨true, rfl, bthen HB.out hb HB.out.size, t_iff ⟨rfl, HL.out, .inl ⟨rfl, H0.out, H1.out, H2.out, H3.out, H4.out⟩⟩⟩
  · by_cases hz1 : z = 1
    · subst hz1
      go_upto_region 8 with (fail)
      clear e0
      by_cases h0 : kY = m ∧ DualF n m A (fun _ => 0) Y
      rotate_left
      · have H0 := Lib.hid h0; clear h0
        refine wp_region_each (kss := [[], [], [(1, 58)], [], [(3, 60)], [(4, 61)], [(5, 62)], [(0, 57), (2, 59), (6, 63)], [(7, 64)], [(8, 65)], [(8, 65), (9, 66)], [(8, 65)], [(8, 65), (11, 68)], [(8, 65), (10, 67), (12, 69)], [(8, 65), (13, 70)], [(8, 65), (14, 71)], [(8, 65), (15, 72)], [(16, 73)], [(17, 74)], [(17, 74), (18, 75)], [(17, 74), (19, 76)], [(17, 74), (20, 77)], [(17, 74), (21, 78)], [(22, 79)], [(23, 80)], [(23, 80), (24, 81)], [(23, 80), (25, 82)], [(23, 80), (26, 83)], [(23, 80), (27, 84)], [(28, 85)], [(29, 86)], [(29, 86), (30, 87)], [(29, 86)], [(29, 86), (31, 88), (32, 89)], [(29, 86), (33, 90)], [(29, 86), (34, 91)], [(35, 92)]]) [(2, .pointer (some ⟨gq, 0, none⟩)), (3, .pointer (some ⟨gs, 0, none⟩)), (5, .pointer (some ⟨g5, 0, none⟩))] [EV (.agg #[.slice AC n cC, .slice AA m cA, .slice AB m cB]), EV (.pointer (some ⟨gs, 2, none⟩)), EV (.slice AY kY cY), EV (.pointer (some ⟨gq, 0, none⟩)), EV (.slice AC n cC), EV (.int .i64 ((n : Int))), fun v w' => ∃ g0 : Nat, v = .slice (some ⟨g0, 0, none⟩) n n ∧ RB w' g0 n (PW w' 1 (fun _ => 0)), EV (.bool false), EV (.bool false), UD, UD, UD, UD, UD, UD, UD, EV (.bool false), EV (.bool false), UD, UD, UD, UD, EV (.bool false), EV (.bool false), UD, UD, UD, UD, EV (.bool false), EV (.bool false), UD, UD, UD, UD, UD, EV (.bool false), EV (.bool false)] (by kernel_rfl) (by kernel_rfl) ⟨rfl, rfl, rfl, trivial⟩ ?_ ?_ ?_
        · exact ⟨sI, sI, sI, sI, sI, sI, fun _ _ _ ⟨g0, h1, h2⟩ hb => ⟨g0, h1, h2.newW hb⟩, sI, sI, sI, sI, sI, sI, sI, sI, sI, sI, sI, sI, sI, sI, sI, sI, sI, sI, sI, sI, sI, sI, sI, sI, sI, sI, sI, sI, sI, sI, trivial⟩
        · refine ⟨?_, ?_, ?_, ?_, ?_, ?_, ?_, ?_, ?_, ?_, ?_, ?_, ?_, ?_, ?_, ?_, ?_, ?_, ?_, ?_, ?_, ?_, ?_, ?_, ?_, ?_, ?_, ?_, ?_, ?_, ?_, ?_, ?_, ?_, ?_, ?_, ?_, trivial⟩
          · exact fun aa ww hb he hd => ob_plain rfl (load_prb rfl he.1 (Blk.keep HQ.out hb))
          · exact fun aa ww hb he hd => ob_plain rfl (fld_sol rfl (by decide) he.2.1)
          · exact fun aa ww hb he hd => ob_plain rfl (load_c28 rfl hd.1 (Blk.at2 HS.out hb))
          · exact fun aa ww hb he hd => ob_plain rfl (fld_prb rfl (by decide) he.1)
          · exact fun aa ww hb he hd => ob_plain rfl (load_c28 rfl hd.1 (Blk.at0 HQ.out hb))
          · exact fun aa ww hb he hd => ob_plain rfl (len_c Try.underlying28 rfl hd.1)
          · exact fun aa ww hb he hd => ob_plain rfl (gives_mkrat rfl hd.1 hd.1 (by omega))
          · exact fun aa ww hb he hd => ob_plain rfl (gives_call3 _ _ _ _ _ rfl (by kernel_rfl) (by obtain ⟨g0, e0, r0⟩ := hd.2.2.1; rw [show aa.eval (.tmp 57) = .agg #[.slice AC n cC, .slice AA m cA, .slice AB m cB] from hd.1, show aa.eval (.tmp 59) = .slice AY kY cY from hd.2.1, show aa.eval (.tmp 63) = .slice (some ⟨g0, 0, none⟩) n n from e0]; exact ret_t (bounds_any n m kY n cC cA cB cY n b by_ 1 AC AA AB AY (some ⟨g0, 0, none⟩) Ar ln cp A C B Y (fun _ => 0) _ (PrW.new HP.out (bthen HB.out hb HB.out.size)) HL.out (Rs.newW HY.out (bthen HB.out hb HB.out.size)) (Rs.of_rb r0) (Nat.le_refl _) hn hm hb1 (by omega) (by omega) HCy.out) (f_iff H0.out)))
          · exact fun _ _ _ he hd => ob_mv rfl rfl hd.1
          iterate 7 exact fun aa ww hb he hd => ob_off 65 rfl (by kernel_rfl) hd.1 rfl
          · exact fun aa ww hb he hd => ob_plain rfl (gives_pick false _ _ _ rfl hd.1 ⟨rfl, Below.refl _ _⟩)
          · exact fun _ _ _ he hd => ob_mv rfl rfl hd.1
          iterate 4 exact fun aa ww hb he hd => ob_off 74 rfl (by kernel_rfl) hd.1 rfl
          · exact fun aa ww hb he hd => ob_plain rfl (gives_pick false _ _ _ rfl hd.1 ⟨rfl, Below.refl _ _⟩)
          · exact fun _ _ _ he hd => ob_mv rfl rfl hd.1
          iterate 4 exact fun aa ww hb he hd => ob_off 80 rfl (by kernel_rfl) hd.1 rfl
          · exact fun aa ww hb he hd => ob_plain rfl (gives_pick false _ _ _ rfl hd.1 ⟨rfl, Below.refl _ _⟩)
          · exact fun _ _ _ he hd => ob_mv rfl rfl hd.1
          iterate 5 exact fun aa ww hb he hd => ob_off 86 rfl (by kernel_rfl) hd.1 rfl
          · exact fun aa ww hb he hd => ob_plain rfl (gives_pick false _ _ _ rfl hd.1 ⟨rfl, Below.refl _ _⟩)
          · exact fun aa ww hb he hd => ob_plain rfl (gives_assign _ rfl ⟨hd.1, Below.refl _ _⟩)
        intro vs w4 hb hR
        have e4 : vs 36 = .bool false := hR 36 (by decide)
        clear hR
        simp only [putsL, Nat.zero_add, Nat.reduceAdd, List.take_succ_cons, List.take_zero, Act.put, List.setIfInBounds_toArray, List.set_cons_zero, List.set_cons_succ]
        rw [e4]
        clear e4
        go_wp2_with fail
        go_ret
        exact ⟨false, rfl, bthen HB.out hb HB.out.size, f_iff (fun h => by
    obtain ⟨-, -, h⟩ := h
    rcases h with ⟨h, q⟩ | ⟨h, q⟩ | ⟨h, q⟩
    · exact absurd h (by decide)
    · exact H0.out q.1
    · exact absurd h (by decide))⟩
      · have H0 := Lib.hid h0; clear h0
        have hmy : m ≤ kY := by have := H0.out.1; omega
        by_cases h1 : sm (fun l => B l * Y l) m < 0
        rotate_left
        · have H1 := Lib.hid h1; clear h1
          refine wp_region_each (kss := [[], [], [(1, 58)], [], [(3, 60)], [(4, 61)], [(5, 62)], [(0, 57), (2, 59), (6, 63)], [(7, 64)], [(8, 65)], [(8, 65), (9, 66)], [(8, 65)], [(8, 65), (11, 68)], [(8, 65), (10, 67), (12, 69)], [(8, 65), (13, 70)], [(8, 65), (14, 71)], [(8, 65), (15, 72)], [(16, 73)], [(17, 74)], [(17, 74), (18, 75)], [(17, 74), (19, 76)], [(17, 74), (20, 77)], [(17, 74), (21, 78)], [(22, 79)], [(23, 80)], [(23, 80), (24, 81)], [(23, 80), (25, 82)], [(23, 80), (26, 83)], [(23, 80), (27, 84)], [(28, 85)], [(29, 86)], [(29, 86), (30, 87)], [(29, 86)], [(29, 86), (31, 88), (32, 89)], [(29, 86), (33, 90)], [(29, 86), (34, 91)], [(35, 92)]]) [(2, .pointer (some ⟨gq, 0, none⟩)), (3, .pointer (some ⟨gs, 0, none⟩)), (5, .pointer (some ⟨g5, 0, none⟩))] [EV (.agg #[.slice AC n cC, .slice AA m cA, .slice AB m cB]), EV (.pointer (some ⟨gs, 2, none⟩)), EV (.slice AY kY cY), EV (.pointer (some ⟨gq, 0, none⟩)), EV (.slice AC n cC), EV (.int .i64 ((n : Int))), fun v w' => ∃ g0 : Nat, v = .slice (some ⟨g0, 0, none⟩) n n ∧ RB w' g0 n (PW w' 1 (fun _ => 0)), EV (.bool true), EV (.bool true), EV (.pointer (some ⟨gq, 2, none⟩)), EV (.slice AB m cB), EV (.pointer (some ⟨gs, 2, none⟩)), EV (.slice AY kY cY), Rw (2 + m * (b + by_ + 1)) (sm (fun l => B l * Y l) m), EV (.int .i64 ((sm (fun l => B l * Y l) m).num.sign)), EV (.bool false), EV (.bool false), EV (.bool false), UD, UD, UD, UD, EV (.bool false), EV (.bool false), UD, UD, UD, UD, EV (.bool false), EV (.bool false), UD, UD, UD, UD, UD, EV (.bool false), EV (.bool false)] (by kernel_rfl) (by kernel_rfl) ⟨rfl, rfl, rfl, trivial⟩ ?_ ?_ ?_
          · exact ⟨sI, sI, sI, sI, sI, sI, fun _ _ _ ⟨g0, h1, h2⟩ hb => ⟨g0, h1, h2.newW hb⟩, sI, sI, sI, sI, sI, sI, fun _ _ _ h hb => h.new hb, sI, sI, sI, sI, sI, sI, sI, sI, sI, sI, sI, sI, sI, sI, sI, sI, sI, sI, sI, sI, sI, sI, sI, trivial⟩
          · refine ⟨?_, ?_, ?_, ?_, ?_, ?_, ?_, ?_, ?_, ?_, ?_, ?_, ?_, ?_, ?_, ?_, ?_, ?_, ?_, ?_, ?_, ?_, ?_, ?_, ?_, ?_, ?_, ?_, ?_, ?_, ?_, ?_, ?_, ?_, ?_, ?_, ?_, trivial⟩
            · exact fun aa ww hb he hd => ob_plain rfl (load_prb rfl he.1 (Blk.keep HQ.out hb))
            · exact fun aa ww hb he hd => ob_plain rfl (fld_sol rfl (by decide) he.2.1)
            · exact fun aa ww hb he hd => ob_plain rfl (load_c28 rfl hd.1 (Blk.at2 HS.out hb))
            · exact fun aa ww hb he hd => ob_plain rfl (fld_prb rfl (by decide) he.1)
            · exact fun aa ww hb he hd => ob_plain rfl (load_c28 rfl hd.1 (Blk.at0 HQ.out hb))
            · exact fun aa ww hb he hd => ob_plain rfl (len_c Try.underlying28 rfl hd.1)
            · exact fun aa ww hb he hd => ob_plain rfl (gives_mkrat rfl hd.1 hd.1 (by omega))
            · exact fun aa ww hb he hd => ob_plain rfl (gives_call3 _ _ _ _ _ rfl (by kernel_rfl) (by obtain ⟨g0, e0, r0⟩ := hd.2.2.1; rw [show aa.eval (.tmp 57) = .agg #[.slice AC n cC, .slice AA m cA, .slice AB m cB] from hd.1, show aa.eval (.tmp 59) = .slice AY kY cY from hd.2.1, show aa.eval (.tmp 63) = .slice (some ⟨g0, 0, none⟩) n n from e0]; exact ret_t (bounds_any n m kY n cC cA cB cY n b by_ 1 AC AA AB AY (some ⟨g0, 0, none⟩) Ar ln cp A C B Y (fun _ => 0) _ (PrW.new HP.out (bthen HB.out hb HB.out.size)) HL.out (Rs.newW HY.out (bthen HB.out hb HB.out.size)) (Rs.of_rb r0) (Nat.le_refl _) hn hm hb1 (by omega) (by omega) HCy.out) (t_iff H0.out)))
            · exact fun _ _ _ he hd => ob_mv rfl rfl hd.1
            · exact fun aa ww hb he hd => ob_on 65 rfl (by kernel_rfl) hd.1 (fld_prb rfl (by decide) he.1)
            · exact fun aa ww hb he hd => ob_on 65 rfl (by kernel_rfl) hd.1 (load_c28 rfl hd.2.1 (Blk.at2 HQ.out hb))
            · exact fun aa ww hb he hd => ob_on 65 rfl (by kernel_rfl) hd.1 (fld_sol rfl (by decide) he.2.1)
            · exact fun aa ww hb he hd => ob_on 65 rfl (by kernel_rfl) hd.1 (load_c28 rfl hd.2.1 (Blk.at2 HS.out hb))
            · exact fun aa ww hb he hd => ob_on 65 rfl (by kernel_rfl) hd.1 (gives_call2 _ _ _ _ rfl (by kernel_rfl) (by rw [show aa.eval (.tmp 67) = .slice AB m cB from hd.2.1, show aa.eval (.tmp 69) = .slice AY kY cY from hd.2.2.1]; exact dot_any m kY cB cY b by_ _ _ B Y _ (Rs.newW HP.out.bb (bthen HB.out hb HB.out.size)) (Rs.newW HY.out (bthen HB.out hb HB.out.size)) (by omega) (by omega) (by omega) (by omega) HCy2.out))
            · exact fun aa ww hb he hd => ob_on 65 rfl (by kernel_rfl) hd.1 (gives_call1 _ _ _ rfl (by kernel_rfl) (sign_v (hd.2.1)))
            · exact fun aa ww hb he hd => ob_on 65 rfl (by kernel_rfl) hd.1 (gives_lt_int ((sm (fun l => B l * Y l) m).num.sign) 0 .i64 _ _ _ _ rfl hd.2.1 rfl ⟨congrArg Value.bool (sign_ltd.trans (decide_eq_false H1.out)), Below.refl _ _⟩)
            · exact fun aa ww hb he hd => ob_plain rfl (gives_pick true _ _ _ rfl hd.1 ⟨hd.2.1, Below.refl _ _⟩)
            · exact fun _ _ _ he hd => ob_mv rfl rfl hd.1
            iterate 4 exact fun aa ww hb he hd => ob_off 74 rfl (by kernel_rfl) hd.1 rfl
            · exact fun aa ww hb he hd => ob_plain rfl (gives_pick false _ _ _ rfl hd.1 ⟨rfl, Below.refl _ _⟩)
            · exact fun _ _ _ he hd => ob_mv rfl rfl hd.1
            iterate 4 exact fun aa ww hb he hd => ob_off 80 rfl (by kernel_rfl) hd.1 rfl
            · exact fun aa ww hb he hd => ob_plain rfl (gives_pick false _ _ _ rfl hd.1 ⟨rfl, Below.refl _ _⟩)
            · exact fun _ _ _ he hd => ob_mv rfl rfl hd.1
            iterate 5 exact fun aa ww hb he hd => ob_off 86 rfl (by kernel_rfl) hd.1 rfl
            · exact fun aa ww hb he hd => ob_plain rfl (gives_pick false _ _ _ rfl hd.1 ⟨rfl, Below.refl _ _⟩)
            · exact fun aa ww hb he hd => ob_plain rfl (gives_assign _ rfl ⟨hd.1, Below.refl _ _⟩)
          intro vs w4 hb hR
          have e4 : vs 36 = .bool false := hR 36 (by decide)
          clear hR
          simp only [putsL, Nat.zero_add, Nat.reduceAdd, List.take_succ_cons, List.take_zero, Act.put, List.setIfInBounds_toArray, List.set_cons_zero, List.set_cons_succ]
          rw [e4]
          clear e4
          go_wp2_with fail
          go_ret
          exact ⟨false, rfl, bthen HB.out hb HB.out.size, f_iff (fun h => by
      obtain ⟨-, -, h⟩ := h
      rcases h with ⟨h, q⟩ | ⟨h, q⟩ | ⟨h, q⟩
      · exact absurd h (by decide)
      · exact H1.out q.2.1
      · exact absurd h (by decide))⟩
        · have H1 := Lib.hid h1; clear h1
          by_cases h2 : kX = 0
          rotate_left
          · have H2 := Lib.hid h2; clear h2
            refine wp_region_each (kss := [[], [], [(1, 58)], [], [(3, 60)], [(4, 61)], [(5, 62)], [(0, 57), (2, 59), (6, 63)], [(7, 64)], [(8, 65)], [(8, 65), (9, 66)], [(8, 65)], [(8, 65), (11, 68)], [(8, 65), (10, 67), (12, 69)], [(8, 65), (13, 70)], [(8, 65), (14, 71)], [(8, 65), (15, 72)], [(16, 73)], [(17, 74)], [(17, 74), (18, 75)], [(17, 74), (19, 76)], [(17, 74), (20, 77)], [(17, 74), (21, 78)], [(22, 79)], [(23, 80)], [(23, 80), (24, 81)], [(23, 80), (25, 82)], [(23, 80), (26, 83)], [(23, 80), (27, 84)], [(28, 85)], [(29, 86)], [(29, 86), (30, 87)], [(29, 86)], [(29, 86), (31, 88), (32, 89)], [(29, 86), (33, 90)], [(29, 86), (34, 91)], [(35, 92)]]) [(2, .pointer (some ⟨gq, 0, none⟩)), (3, .pointer (some ⟨gs, 0, none⟩)), (5, .pointer (some ⟨g5, 0, none⟩))] [EV (.agg #[.slice AC n cC, .slice AA m cA, .slice AB m cB]), EV (.pointer (some ⟨gs, 2, none⟩)), EV (.slice AY kY cY), EV (.pointer (some ⟨gq, 0, none⟩)), EV (.slice AC n cC), EV (.int .i64 ((n : Int))), fun v w' => ∃ g0 : Nat, v = .slice (some ⟨g0, 0, none⟩) n n ∧ RB w' g0 n (PW w' 1 (fun _ => 0)), EV (.bool true), EV (.bool true), EV (.pointer (some ⟨gq, 2, none⟩)), EV (.slice AB m cB), EV (.pointer (some ⟨gs, 2, none⟩)), EV (.slice AY kY cY), Rw (2 + m * (b + by_ + 1)) (sm (fun l => B l * Y l) m), EV (.int .i64 ((sm (fun l => B l * Y l) m).num.sign)), EV (.bool true), EV (.bool true), EV (.bool true), EV (.pointer (some ⟨gs, 1, none⟩)), EV (.slice AX kX cX), EV (.int .i64 ((kX : Int))), EV (.bool false), EV (.bool false), EV (.bool false), UD, UD, UD, UD, EV (.bool false), EV (.bool false), UD, UD, UD, UD, UD, EV (.bool false), EV (.bool false)] (by kernel_rfl) (by kernel_rfl) ⟨rfl, rfl, rfl, trivial⟩ ?_ ?_ ?_
            · exact ⟨sI, sI, sI, sI, sI, sI, fun _ _ _ ⟨g0, h1, h2⟩ hb => ⟨g0, h1, h2.newW hb⟩, sI, sI, sI, sI, sI, sI, fun _ _ _ h hb => h.new hb, sI, sI, sI, sI, sI, sI, sI, sI, sI, sI, sI, sI, sI, sI, sI, sI, sI, sI, sI, sI, sI, sI, sI, trivial⟩
            · refine ⟨?_, ?_, ?_, ?_, ?_, ?_, ?_, ?_, ?_, ?_, ?_, ?_, ?_, ?_, ?_, ?_, ?_, ?_, ?_, ?_, ?_, ?_, ?_, ?_, ?_, ?_, ?_, ?_, ?_, ?_, ?_, ?_, ?_, ?_, ?_, ?_, ?_, trivial⟩
              · exact fun aa ww hb he hd => ob_plain rfl (load_prb rfl he.1 (Blk.keep HQ.out hb))
              · exact fun aa ww hb he hd => ob_plain rfl (fld_sol rfl (by decide) he.2.1)
              · exact fun aa ww hb he hd => ob_plain rfl (load_c28 rfl hd.1 (Blk.at2 HS.out hb))
              · exact fun aa ww hb he hd => ob_plain rfl (fld_prb rfl (by decide) he.1)
              · exact fun aa ww hb he hd => ob_plain rfl (load_c28 rfl hd.1 (Blk.at0 HQ.out hb))
              · exact fun aa ww hb he hd => ob_plain rfl (len_c Try.underlying28 rfl hd.1)
              · exact fun aa ww hb he hd => ob_plain rfl (gives_mkrat rfl hd.1 hd.1 (by omega))
              · exact fun aa ww hb he hd => ob_plain rfl (gives_call3 _ _ _ _ _ rfl (by kernel_rfl) (by obtain ⟨g0, e0, r0⟩ := hd.2.2.1; rw [show aa.eval (.tmp 57) = .agg #[.slice AC n cC, .slice AA m cA, .slice AB m cB] from hd.1, show aa.eval (.tmp 59) = .slice AY kY cY from hd.2.1, show aa.eval (.tmp 63) = .slice (some ⟨g0, 0, none⟩) n n from e0]; exact ret_t (bounds_any n m kY n cC cA cB cY n b by_ 1 AC AA AB AY (some ⟨g0, 0, none⟩) Ar ln cp A C B Y (fun _ => 0) _ (PrW.new HP.out (bthen HB.out hb HB.out.size)) HL.out (Rs.newW HY.out (bthen HB.out hb HB.out.size)) (Rs.of_rb r0) (Nat.le_refl _) hn hm hb1 (by omega) (by omega) HCy.out) (t_iff H0.out)))
              · exact fun _ _ _ he hd => ob_mv rfl rfl hd.1
              · exact fun aa ww hb he hd => ob_on 65 rfl (by kernel_rfl) hd.1 (fld_prb rfl (by decide) he.1)
              · exact fun aa ww hb he hd => ob_on 65 rfl (by kernel_rfl) hd.1 (load_c28 rfl hd.2.1 (Blk.at2 HQ.out hb))
              · exact fun aa ww hb he hd => ob_on 65 rfl (by kernel_rfl) hd.1 (fld_sol rfl (by decide) he.2.1)
              · exact fun aa ww hb he hd => ob_on 65 rfl (by kernel_rfl) hd.1 (load_c28 rfl hd.2.1 (Blk.at2 HS.out hb))
              · exact fun aa ww hb he hd => ob_on 65 rfl (by kernel_rfl) hd.1 (gives_call2 _ _ _ _ rfl (by kernel_rfl) (by rw [show aa.eval (.tmp 67) = .slice AB m cB from hd.2.1, show aa.eval (.tmp 69) = .slice AY kY cY from hd.2.2.1]; exact dot_any m kY cB cY b by_ _ _ B Y _ (Rs.newW HP.out.bb (bthen HB.out hb HB.out.size)) (Rs.newW HY.out (bthen HB.out hb HB.out.size)) (by omega) (by omega) (by omega) (by omega) HCy2.out))
              · exact fun aa ww hb he hd => ob_on 65 rfl (by kernel_rfl) hd.1 (gives_call1 _ _ _ rfl (by kernel_rfl) (sign_v (hd.2.1)))
              · exact fun aa ww hb he hd => ob_on 65 rfl (by kernel_rfl) hd.1 (gives_lt_int ((sm (fun l => B l * Y l) m).num.sign) 0 .i64 _ _ _ _ rfl hd.2.1 rfl ⟨congrArg Value.bool (sign_ltd.trans (decide_eq_true H1.out)), Below.refl _ _⟩)
              · exact fun aa ww hb he hd => ob_plain rfl (gives_pick true _ _ _ rfl hd.1 ⟨hd.2.1, Below.refl _ _⟩)
              · exact fun _ _ _ he hd => ob_mv rfl rfl hd.1
              · exact fun aa ww hb he hd => ob_on 74 rfl (by kernel_rfl) hd.1 (fld_sol rfl (by decide) he.2.1)
              · exact fun aa ww hb he hd => ob_on 74 rfl (by kernel_rfl) hd.1 (load_c28 rfl hd.2.1 (Blk.at1 HS.out hb))
              · exact fun aa ww hb he hd => ob_on 74 rfl (by kernel_rfl) hd.1 (len_c Try.underlying28 rfl hd.2.1)
              · exact fun aa ww hb he hd => ob_on 74 rfl (by kernel_rfl) hd.1 (gives_eq_int ((kX : Int)) 0 .i64 _ _ _ _ rfl hd.2.1 rfl ⟨congrArg Value.bool (keq0.trans (decide_eq_false H2.out)), Below.refl _ _⟩)
              · exact fun aa ww hb he hd => ob_plain rfl (gives_pick true _ _ _ rfl hd.1 ⟨hd.2.1, Below.refl _ _⟩)
              · exact fun _ _ _ he hd => ob_mv rfl rfl hd.1
              iterate 4 exact fun aa ww hb he hd => ob_off 80 rfl (by kernel_rfl) hd.1 rfl
              · exact fun aa ww hb he hd => ob_plain rfl (gives_pick false _ _ _ rfl hd.1 ⟨rfl, Below.refl _ _⟩)
              · exact fun _ _ _ he hd => ob_mv rfl rfl hd.1
              iterate 5 exact fun aa ww hb he hd => ob_off 86 rfl (by kernel_rfl) hd.1 rfl
              · exact fun aa ww hb he hd => ob_plain rfl (gives_pick false _ _ _ rfl hd.1 ⟨rfl, Below.refl _ _⟩)
              · exact fun aa ww hb he hd => ob_plain rfl (gives_assign _ rfl ⟨hd.1, Below.refl _ _⟩)
            intro vs w4 hb hR
            have e4 : vs 36 = .bool false := hR 36 (by decide)
            clear hR
            simp only [putsL, Nat.zero_add, Nat.reduceAdd, List.take_succ_cons, List.take_zero, Act.put, List.setIfInBounds_toArray, List.set_cons_zero, List.set_cons_succ]
            rw [e4]
            clear e4
            go_wp2_with fail
            go_ret
            exact ⟨false, rfl, bthen HB.out hb HB.out.size, f_iff (fun h => by
        obtain ⟨-, -, h⟩ := h
        rcases h with ⟨h, q⟩ | ⟨h, q⟩ | ⟨h, q⟩
        · exact absurd h (by decide)
        · exact H2.out q.2.2.1
        · exact absurd h (by decide))⟩
          · have H2 := Lib.hid h2; clear h2
            by_cases h3 : kR = 0
            rotate_left
            · have H3 := Lib.hid h3; clear h3
              refine wp_region_each (kss := [[], [], [(1, 58)], [], [(3, 60)], [(4, 61)], [(5, 62)], [(0, 57), (2, 59), (6, 63)], [(7, 64)], [(8, 65)], [(8, 65), (9, 66)], [(8, 65)], [(8, 65), (11, 68)], [(8, 65), (10, 67), (12, 69)], [(8, 65), (13, 70)], [(8, 65), (14, 71)], [(8, 65), (15, 72)], [(16, 73)], [(17, 74)], [(17, 74), (18, 75)], [(17, 74), (19, 76)], [(17, 74), (20, 77)], [(17, 74), (21, 78)], [(22, 79)], [(23, 80)], [(23, 80), (24, 81)], [(23, 80), (25, 82)], [(23, 80), (26, 83)], [(23, 80), (27, 84)], [(28, 85)], [(29, 86)], [(29, 86), (30, 87)], [(29, 86)], [(29, 86), (31, 88), (32, 89)], [(29, 86), (33, 90)], [(29, 86), (34, 91)], [(35, 92)]]) [(2, .pointer (some ⟨gq, 0, none⟩)), (3, .pointer (some ⟨gs, 0, none⟩)), (5, .pointer (some ⟨g5, 0, none⟩))] [EV (.agg #[.slice AC n cC, .slice AA m cA, .slice AB m cB]), EV (.pointer (some ⟨gs, 2, none⟩)), EV (.slice AY kY cY), EV (.pointer (some ⟨gq, 0, none⟩)), EV (.slice AC n cC), EV (.int .i64 ((n : Int))), fun v w' => ∃ g0 : Nat, v = .slice (some ⟨g0, 0, none⟩) n n ∧ RB w' g0 n (PW w' 1 (fun _ => 0)), EV (.bool true), EV (.bool true), EV (.pointer (some ⟨gq, 2, none⟩)), EV (.slice AB m cB), EV (.pointer (some ⟨gs, 2, none⟩)), EV (.slice AY kY cY), Rw (2 + m * (b + by_ + 1)) (sm (fun l => B l * Y l) m), EV (.int .i64 ((sm (fun l => B l * Y l) m).num.sign)), EV (.bool true), EV (.bool true), EV (.bool true), EV (.pointer (some ⟨gs, 1, none⟩)), EV (.slice AX kX cX), EV (.int .i64 ((kX : Int))), EV (.bool true), EV (.bool true), EV (.bool true), EV (.pointer (some ⟨gs, 3, none⟩)), EV (.slice AR kR cR), EV (.int .i64 ((kR : Int))), EV (.bool false), EV (.bool false), EV (.bool false), UD, UD, UD, UD, UD, EV (.bool false), EV (.bool false)] (by kernel_rfl) (by kernel_rfl) ⟨rfl, rfl, rfl, trivial⟩ ?_ ?_ ?_
              · exact ⟨sI, sI, sI, sI, sI, sI, fun _ _ _ ⟨g0, h1, h2⟩ hb => ⟨g0, h1, h2.newW hb⟩, sI, sI, sI, sI, sI, sI, fun _ _ _ h hb => h.new hb, sI, sI, sI, sI, sI, sI, sI, sI, sI, sI, sI, sI, sI, sI, sI, sI, sI, sI, sI, sI, sI, sI, sI, trivial⟩
              · refine ⟨?_, ?_, ?_, ?_, ?_, ?_, ?_, ?_, ?_, ?_, ?_, ?_, ?_, ?_, ?_, ?_, ?_, ?_, ?_, ?_, ?_, ?_, ?_, ?_, ?_, ?_, ?_, ?_, ?_, ?_, ?_, ?_, ?_, ?_, ?_, ?_, ?_, trivial⟩
                · exact fun aa ww hb he hd => ob_plain rfl (load_prb rfl he.1 (Blk.keep HQ.out hb))
                · exact fun aa ww hb he hd => ob_plain rfl (fld_sol rfl (by decide) he.2.1)
                · exact fun aa ww hb he hd => ob_plain rfl (load_c28 rfl hd.1 (Blk.at2 HS.out hb))
                · exact fun aa ww hb he hd => ob_plain rfl (fld_prb rfl (by decide) he.1)
                · exact fun aa ww hb he hd => ob_plain rfl (load_c28 rfl hd.1 (Blk.at0 HQ.out hb))
                · exact fun aa ww hb he hd => ob_plain rfl (len_c Try.underlying28 rfl hd.1)
                · exact fun aa ww hb he hd => ob_plain rfl (gives_mkrat rfl hd.1 hd.1 (by omega))
                · exact fun aa ww hb he hd => ob_plain rfl (gives_call3 _ _ _ _ _ rfl (by kernel_rfl) (by obtain ⟨g0, e0, r0⟩ := hd.2.2.1; rw [show aa.eval (.tmp 57) = .agg #[.slice AC n cC, .slice AA m cA, .slice AB m cB] from hd.1, show aa.eval (.tmp 59) = .slice AY kY cY from hd.2.1, show aa.eval (.tmp 63) = .slice (some ⟨g0, 0, none⟩) n n from e0]; exact ret_t (bounds_any n m kY n cC cA cB cY n b by_ 1 AC AA AB AY (some ⟨g0, 0, none⟩) Ar ln cp A C B Y (fun _ => 0) _ (PrW.new HP.out (bthen HB.out hb HB.out.size)) HL.out (Rs.newW HY.out (bthen HB.out hb HB.out.size)) (Rs.of_rb r0) (Nat.le_refl _) hn hm hb1 (by omega) (by omega) HCy.out) (t_iff H0.out)))
                · exact fun _ _ _ he hd => ob_mv rfl rfl hd.1
                · exact fun aa ww hb he hd => ob_on 65 rfl (by kernel_rfl) hd.1 (fld_prb rfl (by decide) he.1)
                · exact fun aa ww hb he hd => ob_on 65 rfl (by kernel_rfl) hd.1 (load_c28 rfl hd.2.1 (Blk.at2 HQ.out hb))
                · exact fun aa ww hb he hd => ob_on 65 rfl (by kernel_rfl) hd.1 (fld_sol rfl (by decide) he.2.1)
                · exact fun aa ww hb he hd => ob_on 65 rfl (by kernel_rfl) hd.1 (load_c28 rfl hd.2.1 (Blk.at2 HS.out hb))
                · exact fun aa ww hb he hd => ob_on 65 rfl (by kernel_rfl) hd.1 (gives_call2 _ _ _ _ rfl (by kernel_rfl) (by rw [show aa.eval (.tmp 67) = .slice AB m cB from hd.2.1, show aa.eval (.tmp 69) = .slice AY kY cY from hd.2.2.1]; exact dot_any m kY cB cY b by_ _ _ B Y _ (Rs.newW HP.out.bb (bthen HB.out hb HB.out.size)) (Rs.newW HY.out (bthen HB.out hb HB.out.size)) (by omega) (by omega) (by omega) (by omega) HCy2.out))
                · exact fun aa ww hb he hd => ob_on 65 rfl (by kernel_rfl) hd.1 (gives_call1 _ _ _ rfl (by kernel_rfl) (sign_v (hd.2.1)))
                · exact fun aa ww hb he hd => ob_on 65 rfl (by kernel_rfl) hd.1 (gives_lt_int ((sm (fun l => B l * Y l) m).num.sign) 0 .i64 _ _ _ _ rfl hd.2.1 rfl ⟨congrArg Value.bool (sign_ltd.trans (decide_eq_true H1.out)), Below.refl _ _⟩)
                · exact fun aa ww hb he hd => ob_plain rfl (gives_pick true _ _ _ rfl hd.1 ⟨hd.2.1, Below.refl _ _⟩)
                · exact fun _ _ _ he hd => ob_mv rfl rfl hd.1
                · exact fun aa ww hb he hd => ob_on 74 rfl (by kernel_rfl) hd.1 (fld_sol rfl (by decide) he.2.1)
                · exact fun aa ww hb he hd => ob_on 74 rfl (by kernel_rfl) hd.1 (load_c28 rfl hd.2.1 (Blk.at1 HS.out hb))
                · exact fun aa ww hb he hd => ob_on 74 rfl (by kernel_rfl) hd.1 (len_c Try.underlying28 rfl hd.2.1)
                · exact fun aa ww hb he hd => ob_on 74 rfl (by kernel_rfl) hd.1 (gives_eq_int ((kX : Int)) 0 .i64 _ _ _ _ rfl hd.2.1 rfl ⟨congrArg Value.bool (keq0.trans (decide_eq_true H2.out)), Below.refl _ _⟩)
                · exact fun aa ww hb he hd => ob_plain rfl (gives_pick true _ _ _ rfl hd.1 ⟨hd.2.1, Below.refl _ _⟩)
                · exact fun _ _ _ he hd => ob_mv rfl rfl hd.1
                · exact fun aa ww hb he hd => ob_on 80 rfl (by kernel_rfl) hd.1 (fld_sol rfl (by decide) he.2.1)
                · exact fun aa ww hb he hd => ob_on 80 rfl (by kernel_rfl) hd.1 (load_c28 rfl hd.2.1 (Blk.at3 HS.out hb))
                · exact fun aa ww hb he hd => ob_on 80 rfl (by kernel_rfl) hd.1 (len_c Try.underlying28 rfl hd.2.1)
                · exact fun aa ww hb he hd => ob_on 80 rfl (by kernel_rfl) hd.1 (gives_eq_int ((kR : Int)) 0 .i64 _ _ _ _ rfl hd.2.1 rfl ⟨congrArg Value.bool (keq0.trans (decide_eq_false H3.out)), Below.refl _ _⟩)
                · exact fun aa ww hb he hd => ob_plain rfl (gives_pick true _ _ _ rfl hd.1 ⟨hd.2.1, Below.refl _ _⟩)
                · exact fun _ _ _ he hd => ob_mv rfl rfl hd.1
                iterate 5 exact fun aa ww hb he hd => ob_off 86 rfl (by kernel_rfl) hd.1 rfl
                · exact fun aa ww hb he hd => ob_plain rfl (gives_pick false _ _ _ rfl hd.1 ⟨rfl, Below.refl _ _⟩)
                · exact fun aa ww hb he hd => ob_plain rfl (gives_assign _ rfl ⟨hd.1, Below.refl _ _⟩)
              intro vs w4 hb hR
              have e4 : vs 36 = .bool false := hR 36 (by decide)
              clear hR
              simp only [putsL, Nat.zero_add, Nat.reduceAdd, List.take_succ_cons, List.take_zero, Act.put, List.setIfInBounds_toArray, List.set_cons_zero, List.set_cons_succ]
              rw [e4]
              clear e4
              go_wp2_with fail
              go_ret
              exact ⟨false, rfl, bthen HB.out hb HB.out.size, f_iff (fun h => by
          obtain ⟨-, -, h⟩ := h
          rcases h with ⟨h, q⟩ | ⟨h, q⟩ | ⟨h, q⟩
          · exact absurd h (by decide)
          · exact H3.out q.2.2.2.1
          · exact absurd h (by decide))⟩
            · have H3 := Lib.hid h3; clear h3
              by_cases h4 : v = ((0 : Int) : Rat)
              rotate_left
              · have H4 := Lib.hid h4; clear h4
                refine wp_region_each (kss := [[], [], [(1, 58)], [], [(3, 60)], [(4, 61)], [(5, 62)], [(0, 57), (2, 59), (6, 63)], [(7, 64)], [(8, 65)], [(8, 65), (9, 66)], [(8, 65)], [(8, 65), (11, 68)], [(8, 65), (10, 67), (12, 69)], [(8, 65), (13, 70)], [(8, 65), (14, 71)], [(8, 65), (15, 72)], [(16, 73)], [(17, 74)], [(17, 74), (18, 75)], [(17, 74), (19, 76)], [(17, 74), (20, 77)], [(17, 74), (21, 78)], [(22, 79)], [(23, 80)], [(23, 80), (24, 81)], [(23, 80), (25, 82)], [(23, 80), (26, 83)], [(23, 80), (27, 84)], [(28, 85)], [(29, 86)], [(29, 86), (30, 87)], [(29, 86)], [(29, 86), (31, 88), (32, 89)], [(29, 86), (33, 90)], [(29, 86), (34, 91)], [(35, 92)]]) [(2, .pointer (some ⟨gq, 0, none⟩)), (3, .pointer (some ⟨gs, 0, none⟩)), (5, .pointer (some ⟨g5, 0, none⟩))] [EV (.agg #[.slice AC n cC, .slice AA m cA, .slice AB m cB]), EV (.pointer (some ⟨gs, 2, none⟩)), EV (.slice AY kY cY), EV (.pointer (some ⟨gq, 0, none⟩)), EV (.slice AC n cC), EV (.int .i64 ((n : Int))), fun v w' => ∃ g0 : Nat, v = .slice (some ⟨g0, 0, none⟩) n n ∧ RB w' g0 n (PW w' 1 (fun _ => 0)), EV (.bool true), EV (.bool true), EV (.pointer (some ⟨gq, 2, none⟩)), EV (.slice AB m cB), EV (.pointer (some ⟨gs, 2, none⟩)), EV (.slice AY kY cY), Rw (2 + m * (b + by_ + 1)) (sm (fun l => B l * Y l) m), EV (.int .i64 ((sm (fun l => B l * Y l) m).num.sign)), EV (.bool true), EV (.bool true), EV (.bool true), EV (.pointer (some ⟨gs, 1, none⟩)), EV (.slice AX kX cX), EV (.int .i64 ((kX : Int))), EV (.bool true), EV (.bool true), EV (.bool true), EV (.pointer (some ⟨gs, 3, none⟩)), EV (.slice AR kR cR), EV (.int .i64 ((kR : Int))), EV (.bool true), EV (.bool true), EV (.bool true), EV (.pointer (some ⟨gs, 4, none⟩)), Rw (bv) (v), Rw (2) (((0 : Int) : Rat)), EV (.int .i64 (rcq v (((0 : Int) : Rat)))), EV (.bool false), EV (.bool false), EV (.bool false)] (by kernel_rfl) (by kernel_rfl) ⟨rfl, rfl, rfl, trivial⟩ ?_ ?_ ?_
                · exact ⟨sI, sI, sI, sI, sI, sI, fun _ _ _ ⟨g0, h1, h2⟩ hb => ⟨g0, h1, h2.newW hb⟩, sI, sI, sI, sI, sI, sI, fun _ _ _ h hb => h.new hb, sI, sI, sI, sI, sI, sI, sI, sI, sI, sI, sI, sI, sI, sI, sI, sI, sI, fun _ _ _ h hb => h.new hb, fun _ _ _ h hb => h.new hb, sI, sI, sI, sI, trivial⟩
                · refine ⟨?_, ?_, ?_, ?_, ?_, ?_, ?_, ?_, ?_, ?_, ?_, ?_, ?_, ?_, ?_, ?_, ?_, ?_, ?_, ?_, ?_, ?_, ?_, ?_, ?_, ?_, ?_, ?_, ?_, ?_, ?_, ?_, ?_, ?_, ?_, ?_, ?_, trivial⟩
                  · exact fun aa ww hb he hd => ob_plain rfl (load_prb rfl he.1 (Blk.keep HQ.out hb))
                  · exact fun aa ww hb he hd => ob_plain rfl (fld_sol rfl (by decide) he.2.1)
                  · exact fun aa ww hb he hd => ob_plain rfl (load_c28 rfl hd.1 (Blk.at2 HS.out hb))
                  · exact fun aa ww hb he hd => ob_plain rfl (fld_prb rfl (by decide) he.1)
                  · exact fun aa ww hb he hd => ob_plain rfl (load_c28 rfl hd.1 (Blk.at0 HQ.out hb))
                  · exact fun aa ww hb he hd => ob_plain rfl (len_c Try.underlying28 rfl hd.1)
                  · exact fun aa ww hb he hd => ob_plain rfl (gives_mkrat rfl hd.1 hd.1 (by omega))
                  · exact fun aa ww hb he hd => ob_plain rfl (gives_call3 _ _ _ _ _ rfl (by kernel_rfl) (by obtain ⟨g0, e0, r0⟩ := hd.2.2.1; rw [show aa.eval (.tmp 57) = .agg #[.slice AC n cC, .slice AA m cA, .slice AB m cB] from hd.1, show aa.eval (.tmp 59) = .slice AY kY cY from hd.2.1, show aa.eval (.tmp 63) = .slice (some ⟨g0, 0, none⟩) n n from e0]; exact ret_t (bounds_any n m kY n cC cA cB cY n b by_ 1 AC AA AB AY (some ⟨g0, 0, none⟩) Ar ln cp A C B Y (fun _ => 0) _ (PrW.new HP.out (bthen HB.out hb HB.out.size)) HL.out (Rs.newW HY.out (bthen HB.out hb HB.out.size)) (Rs.of_rb r0) (Nat.le_refl _) hn hm hb1 (by omega) (by omega) HCy.out) (t_iff H0.out)))
                  · exact fun _ _ _ he hd => ob_mv rfl rfl hd.1
                  · exact fun aa ww hb he hd => ob_on 65 rfl (by kernel_rfl) hd.1 (fld_prb rfl (by decide) he.1)
                  · exact fun aa ww hb he hd => ob_on 65 rfl (by kernel_rfl) hd.1 (load_c28 rfl hd.2.1 (Blk.at2 HQ.out hb))
                  · exact fun aa ww hb he hd => ob_on 65 rfl (by kernel_rfl) hd.1 (fld_sol rfl (by decide) he.2.1)
                  · exact fun aa ww hb he hd => ob_on 65 rfl (by kernel_rfl) hd.1 (load_c28 rfl hd.2.1 (Blk.at2 HS.out hb))
                  · exact fun aa ww hb he hd => ob_on 65 rfl (by kernel_rfl) hd.1 (gives_call2 _ _ _ _ rfl (by kernel_rfl) (by rw [show aa.eval (.tmp 67) = .slice AB m cB from hd.2.1, show aa.eval (.tmp 69) = .slice AY kY cY from hd.2.2.1]; exact dot_any m kY cB cY b by_ _ _ B Y _ (Rs.newW HP.out.bb (bthen HB.out hb HB.out.size)) (Rs.newW HY.out (bthen HB.out hb HB.out.size)) (by omega) (by omega) (by omega) (by omega) HCy2.out))
                  · exact fun aa ww hb he hd => ob_on 65 rfl (by kernel_rfl) hd.1 (gives_call1 _ _ _ rfl (by kernel_rfl) (sign_v (hd.2.1)))
                  · exact fun aa ww hb he hd => ob_on 65 rfl (by kernel_rfl) hd.1 (gives_lt_int ((sm (fun l => B l * Y l) m).num.sign) 0 .i64 _ _ _ _ rfl hd.2.1 rfl ⟨congrArg Value.bool (sign_ltd.trans (decide_eq_true H1.out)), Below.refl _ _⟩)
                  · exact fun aa ww hb he hd => ob_plain rfl (gives_pick true _ _ _ rfl hd.1 ⟨hd.2.1, Below.refl _ _⟩)
                  · exact fun _ _ _ he hd => ob_mv rfl rfl hd.1
                  · exact fun aa ww hb he hd => ob_on 74 rfl (by kernel_rfl) hd.1 (fld_sol rfl (by decide) he.2.1)
                  · exact fun aa ww hb he hd => ob_on 74 rfl (by kernel_rfl) hd.1 (load_c28 rfl hd.2.1 (Blk.at1 HS.out hb))
                  · exact fun aa ww hb he hd => ob_on 74 rfl (by kernel_rfl) hd.1 (len_c Try.underlying28 rfl hd.2.1)
                  · exact fun aa ww hb he hd => ob_on 74 rfl (by kernel_rfl) hd.1 (gives_eq_int ((kX : Int)) 0 .i64 _ _ _ _ rfl hd.2.1 rfl ⟨congrArg Value.bool (keq0.trans (decide_eq_true H2.out)), Below.refl _ _⟩)
                  · exact fun aa ww hb he hd => ob_plain rfl (gives_pick true _ _ _ rfl hd.1 ⟨hd.2.1, Below.refl _ _⟩)
                  · exact fun _ _ _ he hd => ob_mv rfl rfl hd.1
                  · exact fun aa ww hb he hd => ob_on 80 rfl (by kernel_rfl) hd.1 (fld_sol rfl (by decide) he.2.1)
                  · exact fun aa ww hb he hd => ob_on 80 rfl (by kernel_rfl) hd.1 (load_c28 rfl hd.2.1 (Blk.at3 HS.out hb))
                  · exact fun aa ww hb he hd => ob_on 80 rfl (by kernel_rfl) hd.1 (len_c Try.underlying28 rfl hd.2.1)
                  · exact fun aa ww hb he hd => ob_on 80 rfl (by kernel_rfl) hd.1 (gives_eq_int ((kR : Int)) 0 .i64 _ _ _ _ rfl hd.2.1 rfl ⟨congrArg Value.bool (keq0.trans (decide_eq_true H3.out)), Below.refl _ _⟩)
                  · exact fun aa ww hb he hd => ob_plain rfl (gives_pick true _ _ _ rfl hd.1 ⟨hd.2.1, Below.refl _ _⟩)
                  · exact fun _ _ _ he hd => ob_mv rfl rfl hd.1
                  · exact fun aa ww hb he hd => ob_on 86 rfl (by kernel_rfl) hd.1 (fld_sol rfl (by decide) he.2.1)
                  · exact fun aa ww hb he hd => ob_on 86 rfl (by kernel_rfl) hd.1 (load_sv rfl hd.2.1 (Blk.keep HS.out hb) (Rw.new HV.out (bthen HB.out hb HB.out.size)))
                  · exact fun aa ww hb he hd => ob_on 86 rfl (by kernel_rfl) hd.1 (load_bx rfl he.2.2.1 (Bx.new HX5.out hb))
                  · exact fun aa ww hb he hd => ob_on 86 rfl (by kernel_rfl) hd.1 (gives_call2 _ _ _ _ rfl (by kernel_rfl) (cmp_v (hd.2.1) (hd.2.2.1) (by have := HCx.out; have := HCy2.out; have := HCr.out; omega)))
                  · exact fun aa ww hb he hd => ob_on 86 rfl (by kernel_rfl) hd.1 (gives_eq_int (rcq v (((0 : Int) : Rat))) 0 .i64 _ _ _ _ rfl hd.2.1 rfl ⟨congrArg Value.bool (rcq_eqb.trans (decide_eq_false H4.out)), Below.refl _ _⟩)
                  · exact fun aa ww hb he hd => ob_plain rfl (gives_pick true _ _ _ rfl hd.1 ⟨hd.2.1, Below.refl _ _⟩)
                  · exact fun aa ww hb he hd => ob_plain rfl (gives_assign _ rfl ⟨hd.1, Below.refl _ _⟩)
                intro vs w4 hb hR
                have e4 : vs 36 = .bool false := hR 36 (by decide)
                clear hR
                simp only [putsL, Nat.zero_add, Nat.reduceAdd, List.take_succ_cons, List.take_zero, Act.put, List.setIfInBounds_toArray, List.set_cons_zero, List.set_cons_succ]
                rw [e4]
                clear e4
                go_wp2_with fail
                go_ret
                exact ⟨false, rfl, bthen HB.out hb HB.out.size, f_iff (fun h => by
            obtain ⟨-, -, h⟩ := h
            rcases h with ⟨h, q⟩ | ⟨h, q⟩ | ⟨h, q⟩
            · exact absurd h (by decide)
            · exact H4.out q.2.2.2.2
            · exact absurd h (by decide))⟩
              · have H4 := Lib.hid h4; clear h4
                refine wp_region_each (kss := [[], [], [(1, 58)], [], [(3, 60)], [(4, 61)], [(5, 62)], [(0, 57), (2, 59), (6, 63)], [(7, 64)], [(8, 65)], [(8, 65), (9, 66)], [(8, 65)], [(8, 65), (11, 68)], [(8, 65), (10, 67), (12, 69)], [(8, 65), (13, 70)], [(8, 65), (14, 71)], [(8, 65), (15, 72)], [(16, 73)], [(17, 74)], [(17, 74), (18, 75)], [(17, 74), (19, 76)], [(17, 74), (20, 77)], [(17, 74), (21, 78)], [(22, 79)], [(23, 80)], [(23, 80), (24, 81)], [(23, 80), (25, 82)], [(23, 80), (26, 83)], [(23, 80), (27, 84)], [(28, 85)], [(29, 86)], [(29, 86), (30, 87)], [(29, 86)], [(29, 86), (31, 88), (32, 89)], [(29, 86), (33, 90)], [(29, 86), (34, 91)], [(35, 92)]]) [(2, .pointer (some ⟨gq, 0, none⟩)), (3, .pointer (some ⟨gs, 0, none⟩)), (5, .pointer (some ⟨g5, 0, none⟩))] [EV (.agg #[.slice AC n cC, .slice AA m cA, .slice AB m cB]), EV (.pointer (some ⟨gs, 2, none⟩)), EV (.slice AY kY cY), EV (.pointer (some ⟨gq, 0, none⟩)), EV (.slice AC n cC), EV (.int .i64 ((n : Int))), fun v w' => ∃ g0 : Nat, v = .slice (some ⟨g0, 0, none⟩) n n ∧ RB w' g0 n (PW w' 1 (fun _ => 0)), EV (.bool true), EV (.bool true), EV (.pointer (some ⟨gq, 2, none⟩)), EV (.slice AB m cB), EV (.pointer (some ⟨gs, 2, none⟩)), EV (.slice AY kY cY), Rw (2 + m * (b + by_ + 1)) (sm (fun l => B l * Y l) m), EV (.int .i64 ((sm (fun l => B l * Y l) m).num.sign)), EV (.bool true), EV (.bool true), EV (.bool true), EV (.pointer (some ⟨gs, 1, none⟩)), EV (.slice AX kX cX), EV (.int .i64 ((kX : Int))), EV (.bool true), EV (.bool true), EV (.bool true), EV (.pointer (some ⟨gs, 3, none⟩)), EV (.slice AR kR cR), EV (.int .i64 ((kR : Int))), EV (.bool true), EV (.bool true), EV (.bool true), EV (.pointer (some ⟨gs, 4, none⟩)), Rw (bv) (v), Rw (2) (((0 : Int) : Rat)), EV (.int .i64 (rcq v (((0 : Int) : Rat)))), EV (.bool true), EV (.bool true), EV (.bool true)] (by kernel_rfl) (by kernel_rfl) ⟨rfl, rfl, rfl, trivial⟩ ?_ ?_ ?_
                · exact ⟨sI, sI, sI, sI, sI, sI, fun _ _ _ ⟨g0, h1, h2⟩ hb => ⟨g0, h1, h2.newW hb⟩, sI, sI, sI, sI, sI, sI, fun _ _ _ h hb => h.new hb, sI, sI, sI, sI, sI, sI, sI, sI, sI, sI, sI, sI, sI, sI, sI, sI, sI, fun _ _ _ h hb => h.new hb, fun _ _ _ h hb => h.new hb, sI, sI, sI, sI, trivial⟩
                · refine ⟨?_, ?_, ?_, ?_, ?_, ?_, ?_, ?_, ?_, ?_, ?_, ?_, ?_, ?_, ?_, ?_, ?_, ?_, ?_, ?_, ?_, ?_, ?_, ?_, ?_, ?_, ?_, ?_, ?_, ?_, ?_, ?_, ?_, ?_, ?_, ?_, ?_, trivial⟩
                  · exact fun aa ww hb he hd => ob_plain rfl (load_prb rfl he.1 (Blk.keep HQ.out hb))
                  · exact fun aa ww hb he hd => ob_plain rfl (fld_sol rfl (by decide) he.2.1)
                  · exact fun aa ww hb he hd => ob_plain rfl (load_c28 rfl hd.1 (Blk.at2 HS.out hb))
                  · exact fun aa ww hb he hd => ob_plain rfl (fld_prb rfl (by decide) he.1)
                  · exact fun aa ww hb he hd => ob_plain rfl (load_c28 rfl hd.1 (Blk.at0 HQ.out hb))
                  · exact fun aa ww hb he hd => ob_plain rfl (len_c Try.underlying28 rfl hd.1)
                  · exact fun aa ww hb he hd => ob_plain rfl (gives_mkrat rfl hd.1 hd.1 (by omega))
                  · exact fun aa ww hb he hd => ob_plain rfl (gives_call3 _ _ _ _ _ rfl (by kernel_rfl) (by obtain ⟨g0, e0, r0⟩ := hd.2.2.1; rw [show aa.eval (.tmp 57) = .agg #[.slice AC n cC, .slice AA m cA, .slice AB m cB] from hd.1, show aa.eval (.tmp 59) = .slice AY kY cY from hd.2.1, show aa.eval (.tmp 63) = .slice (some ⟨g0, 0, none⟩) n n from e0]; exact ret_t (bounds_any n m kY n cC cA cB cY n b by_ 1 AC AA AB AY (some ⟨g0, 0, none⟩) Ar ln cp A C B Y (fun _ => 0) _ (PrW.new HP.out (bthen HB.out hb HB.out.size)) HL.out (Rs.newW HY.out (bthen HB.out hb HB.out.size)) (Rs.of_rb r0) (Nat.le_refl _) hn hm hb1 (by omega) (by omega) HCy.out) (t_iff H0.out)))
                  · exact fun _ _ _ he hd => ob_mv rfl rfl hd.1
                  · exact fun aa ww hb he hd => ob_on 65 rfl (by kernel_rfl) hd.1 (fld_prb rfl (by decide) he.1)
                  · exact fun aa ww hb he hd => ob_on 65 rfl (by kernel_rfl) hd.1 (load_c28 rfl hd.2.1 (Blk.at2 HQ.out hb))
                  · exact fun aa ww hb he hd => ob_on 65 rfl (by kernel_rfl) hd.1 (fld_sol rfl (by decide) he.2.1)
                  · exact fun aa ww hb he hd => ob_on 65 rfl (by kernel_rfl) hd.1 (load_c28 rfl hd.2.1 (Blk.at2 HS.out hb))
                  · exact fun aa ww hb he hd => ob_on 65 rfl (by kernel_rfl) hd.1 (gives_call2 _ _ _ _ rfl (by kernel_rfl) (by rw [show aa.eval (.tmp 67) = .slice AB m cB from hd.2.1, show aa.eval (.tmp 69) = .slice AY kY cY from hd.2.2.1]; exact dot_any m kY cB cY b by_ _ _ B Y _ (Rs.newW HP.out.bb (bthen HB.out hb HB.out.size)) (Rs.newW HY.out (bthen HB.out hb HB.out.size)) (by omega) (by omega) (by omega) (by omega) HCy2.out))
                  · exact fun aa ww hb he hd => ob_on 65 rfl (by kernel_rfl) hd.1 (gives_call1 _ _ _ rfl (by kernel_rfl) (sign_v (hd.2.1)))
                  · exact fun aa ww hb he hd => ob_on 65 rfl (by kernel_rfl) hd.1 (gives_lt_int ((sm (fun l => B l * Y l) m).num.sign) 0 .i64 _ _ _ _ rfl hd.2.1 rfl ⟨congrArg Value.bool (sign_ltd.trans (decide_eq_true H1.out)), Below.refl _ _⟩)
                  · exact fun aa ww hb he hd => ob_plain rfl (gives_pick true _ _ _ rfl hd.1 ⟨hd.2.1, Below.refl _ _⟩)
                  · exact fun _ _ _ he hd => ob_mv rfl rfl hd.1
                  · exact fun aa ww hb he hd => ob_on 74 rfl (by kernel_rfl) hd.1 (fld_sol rfl (by decide) he.2.1)
                  · exact fun aa ww hb he hd => ob_on 74 rfl (by kernel_rfl) hd.1 (load_c28 rfl hd.2.1 (Blk.at1 HS.out hb))
                  · exact fun aa ww hb he hd => ob_on 74 rfl (by kernel_rfl) hd.1 (len_c Try.underlying28 rfl hd.2.1)
                  · exact fun aa ww hb he hd => ob_on 74 rfl (by kernel_rfl) hd.1 (gives_eq_int ((kX : Int)) 0 .i64 _ _ _ _ rfl hd.2.1 rfl ⟨congrArg Value.bool (keq0.trans (decide_eq_true H2.out)), Below.refl _ _⟩)
                  · exact fun aa ww hb he hd => ob_plain rfl (gives_pick true _ _ _ rfl hd.1 ⟨hd.2.1, Below.refl _ _⟩)
                  · exact fun _ _ _ he hd => ob_mv rfl rfl hd.1
                  · exact fun aa ww hb he hd => ob_on 80 rfl (by kernel_rfl) hd.1 (fld_sol rfl (by decide) he.2.1)
                  · exact fun aa ww hb he hd => ob_on 80 rfl (by kernel_rfl) hd.1 (load_c28 rfl hd.2.1 (Blk.at3 HS.out hb))
                  · exact fun aa ww hb he hd => ob_on 80 rfl (by kernel_rfl) hd.1 (len_c Try.underlying28 rfl hd.2.1)
                  · exact fun aa ww hb he hd => ob_on 80 rfl (by kernel_rfl) hd.1 (gives_eq_int ((kR : Int)) 0 .i64 _ _ _ _ rfl hd.2.1 rfl ⟨congrArg Value.bool (keq0.trans (decide_eq_true H3.out)), Below.refl _ _⟩)
                  · exact fun aa ww hb he hd => ob_plain rfl (gives_pick true _ _ _ rfl hd.1 ⟨hd.2.1, Below.refl _ _⟩)
                  · exact fun _ _ _ he hd => ob_mv rfl rfl hd.1
                  · exact fun aa ww hb he hd => ob_on 86 rfl (by kernel_rfl) hd.1 (fld_sol rfl (by decide) he.2.1)
                  · exact fun aa ww hb he hd => ob_on 86 rfl (by kernel_rfl) hd.1 (load_sv rfl hd.2.1 (Blk.keep HS.out hb) (Rw.new HV.out (bthen HB.out hb HB.out.size)))
                  · exact fun aa ww hb he hd => ob_on 86 rfl (by kernel_rfl) hd.1 (load_bx rfl he.2.2.1 (Bx.new HX5.out hb))
                  · exact fun aa ww hb he hd => ob_on 86 rfl (by kernel_rfl) hd.1 (gives_call2 _ _ _ _ rfl (by kernel_rfl) (cmp_v (hd.2.1) (hd.2.2.1) (by have := HCx.out; have := HCy2.out; have := HCr.out; omega)))
                  · exact fun aa ww hb he hd => ob_on 86 rfl (by kernel_rfl) hd.1 (gives_eq_int (rcq v (((0 : Int) : Rat))) 0 .i64 _ _ _ _ rfl hd.2.1 rfl ⟨congrArg Value.bool (rcq_eqb.trans (decide_eq_true H4.out)), Below.refl _ _⟩)
                  · exact fun aa ww hb he hd => ob_plain rfl (gives_pick true _ _ _ rfl hd.1 ⟨hd.2.1, Below.refl _ _⟩)
                  · exact fun aa ww hb he hd => ob_plain rfl (gives_assign _ rfl ⟨hd.1, Below.refl _ _⟩)
                intro vs w4 hb hR
                have e4 : vs 36 = .bool true := hR 36 (by decide)
                clear hR
                simp only [putsL, Nat.zero_add, Nat.reduceAdd, List.take_succ_cons, List.take_zero, Act.put, List.setIfInBounds_toArray, List.set_cons_zero, List.set_cons_succ]
                rw [e4]
                clear e4
                go_wp2_with fail
                go_ret
                exact ⟨true, rfl, bthen HB.out hb HB.out.size, t_iff ⟨rfl, HL.out, .inr (.inl ⟨rfl, H0.out, H1.out, H2.out, H3.out, H4.out⟩)⟩⟩
    · by_cases hz2 : z = 2
      · subst hz2
        go_upto_region 10 with (fail)
        clear e0
        refine wp_region_join (kss := [[], [(0, 95)], [], [(2, 97)], [], [(4, 99)], [(5, 100)], [(6, 101)], [(1, 96), (3, 98), (7, 102)], []]) [(2, .pointer (some ⟨gq, 0, none⟩))] [EV (.pointer (some ⟨gq, 0, none⟩)), EV (.slice AC n cC), EV (.pointer (some ⟨gq, 1, none⟩)), EV (.slice AA m cA), EV (.pointer (some ⟨gq, 2, none⟩)), EV (.slice AB m cB), EV (.int .i64 ((m : Int))), fun v w' => ∃ g0 : Nat, v = .slice (some ⟨g0, 0, none⟩) m m ∧ RB w' g0 m (PW w' 1 (fun _ => 0)), fun v w' => ∃ g0 : Nat, v = .agg #[.slice AC n cC, .slice AA m cA, .slice (some ⟨g0, 0, none⟩) m m] ∧ RB w' g0 m (PW w' 1 (fun _ => 0)), Zp w3.heap.size] 10 [] (by kernel_rfl) (by kernel_rfl) ⟨rfl, trivial⟩ [false, false, false, false, false, false, false, false, false, true] ?_ ?_ ?_ ?_
        · exact fun i hi => absurd hi (by simp)
        · exact ⟨eI, eI, eI, eI, eI, eI, eI, fun _ _ _ ⟨g0, h1, h2⟩ hb => ⟨g0, h1, h2.newW hb⟩, fun _ _ _ ⟨g0, h1, h2⟩ hb => ⟨g0, h1, h2.newW hb⟩, fun _ _ _ h hb => h.new hb, trivial⟩
        · refine ⟨?_, ?_, ?_, ?_, ?_, ?_, ?_, ?_, ?_, ?_, trivial⟩
          · exact fun aa ww hb he hd => ob_plain rfl (fld_prb rfl (by decide) he.1)
          · exact fun aa ww hb he hd => ob_plain rfl (load_c28 rfl hd.1 (Blk.at0 HQ.out hb))
          · exact fun aa ww hb he hd => ob_plain rfl (fld_prb rfl (by decide) he.1)
          · exact fun aa ww hb he hd => ob_plain rfl (load_c29 rfl hd.1 (Blk.at1 HQ.out hb))
          · exact fun aa ww hb he hd => ob_plain rfl (fld_prb rfl (by decide) he.1)
          · exact fun aa ww hb he hd => ob_plain rfl (load_c28 rfl hd.1 (Blk.at2 HQ.out hb))
          · exact fun aa ww hb he hd => ob_plain rfl (len_c Try.underlying28 rfl hd.1)
          · exact fun aa ww hb he hd => ob_plain rfl (gives_mkrat rfl hd.1 hd.1 (by omega))
          · exact fun aa ww hb he hd => ob_plain rfl (by obtain ⟨g0, e0, r0⟩ := hd.2.2.1; exact gives_mono (gives_built3 rfl hd.1 hd.2.1 e0 (built_prb _ _ _ _ _ _ _ _ _)) (fun v w' ⟨h1, h2⟩ => ⟨⟨g0, h1, r0.newW h2⟩, h2⟩))
          · exact fun aa ww hb he hd => ⟨by simp [Region.wanted], alloc_prb rfl hb⟩
        intro vs w4 hb hR _
        have r103 := hR 8 (by decide)
        have r6 := hR 9 (by decide)
        clear hR
        simp only [putsL, Nat.zero_add, Nat.reduceAdd, List.take_succ_cons, List.take_zero, Act.put, List.setIfInBounds_toArray, List.set_cons_zero, List.set_cons_succ]
        obtain ⟨g0, k103, hr0⟩ := (show ∃ g0 : Nat, vs 8 = .agg #[.slice AC n cC, .slice AA m cA, .slice (some ⟨g0, 0, none⟩) m m] ∧ RB w4 g0 m (PW w4 1 (fun _ => 0)) from r103)
        obtain ⟨g6, k6, hg6, hb6⟩ := (show Zp w3.heap.size (vs 9) w4 from r6)
        clear r103 r6
        rw [k103, k6]
        clear k103 k6
        show wpAny _ _ _ _ 1 _ _ _
        refine wpAny_next (i := 10) (by kernel_rfl) rfl rfl (store_prb (g := g6) rfl rfl rfl rfl hb6 (by simp) (by simp [Value.oneCell']) ?_)
        intro w5 kp hg hsz hG
        have HG := Lib.hid hG
        have h06 : g0 ≠ g6 := by obtain ⟨cs, hc, -⟩ := hr0; exact Blk.ne_ hc hb6 (by decide)
        have hr5 := hr0.grown hg h06 (Q := PW w5 1 (fun _ => 0)) (fun j v _ hv => PW.keep hv kp)
        have hbelow : Below w3.heap.size w3 w5 := hb.grown hg hb.size (fun x hx => by cases hx; exact hg6)
        have HPC := Lib.hid (PrW.cone (HP.out.new (bthen HB.out hbelow HB.out.size)) hr5 hb0)
        have HQn := Lib.hid (HQ.out.keep hbelow)
        have HSn := Lib.hid (HS.out.keep hbelow)
        have HXn := Lib.hid (HX5.out.new hbelow)
        have HBn := Lib.hid (bthen HB.out hbelow HB.out.size)
        clear hb kp hg hsz hG h06 hr0 hr5 hb6 hg6 hbelow HQ HS HX5 HB
        have HQ := HQn; have HS := HSn; have HX5 := HXn; have HB := HBn
        clear HQn HSn HXn HBn
        refine wpAny_end (by kernel_rfl) (calm_normal ?_) _
        go_upto_region 11 with (fail)
        by_cases h0 : kX = n ∧ Primal n m A B X
        rotate_left
        · have H0 := Lib.hid h0; clear h0
          refine wp_region_seq (kss := [[], [], [(1, 105)], [(0, 104), (2, 106)], [(3, 107)], [(4, 108)], [(4, 108)], [(4, 108), (6, 110)], [(4, 108), (5, 109), (7, 111)], [(4, 108), (8, 112)], [(9, 113)], [(10, 114)], [(10, 114), (11, 115)], [(10, 114)], [(10, 114), (13, 117)], [(10, 114), (12, 116), (14, 118)], [(10, 114), (15, 119)], [(10, 114), (16, 120)], [(10, 114), (17, 121)], [(18, 122)], [(19, 123)], [(19, 123), (20, 124)], [(19, 123), (21, 125)], [(19, 123), (22, 126)], [(19, 123), (23, 127)], [(24, 128)], [(25, 129)], [(25, 129), (26, 130)], [(25, 129)], [(25, 129), (27, 131), (28, 132)], [(25, 129), (29, 133)], [(25, 129), (30, 134)], [(31, 135)]]) [(2, .pointer (some ⟨gq, 0, none⟩)), (3, .pointer (some ⟨gs, 0, none⟩)), (6, .pointer (some ⟨g6, 0, none⟩)), (5, .pointer (some ⟨g5, 0, none⟩))] [EV (.agg #[.slice AC n cC, .slice AA m cA, .slice AB m cB]), EV (.pointer (some ⟨gs, 1, none⟩)), EV (.slice AX kX cX), EV (.bool false), EV (.bool false), UD, UD, UD, UD, EV (.bool false), EV (.bool false), UD, UD, UD, UD, UD, UD, UD, EV (.bool false), EV (.bool false), UD, UD, UD, UD, EV (.bool false), EV (.bool false), UD, UD, UD, UD, UD, EV (.bool false), EV (.bool false)] (by kernel_rfl) ⟨rfl, rfl, rfl, rfl, trivial⟩ ?_ ?_ ?_
          · exact ⟨sI, sI, sI, sI, sI, sI, sI, sI, sI, sI, sI, sI, sI, sI, sI, sI, sI, sI, sI, sI, sI, sI, sI, sI, sI, sI, sI, sI, sI, sI, sI, sI, sI, trivial⟩
          · refine ⟨?_, ?_, ?_, ?_, ?_, ?_, ?_, ?_, ?_, ?_, ?_, ?_, ?_, ?_, ?_, ?_, ?_, ?_, ?_, ?_, ?_, ?_, ?_, ?_, ?_, ?_, ?_, ?_, ?_, ?_, ?_, ?_, ?_, trivial⟩
            · exact fun aa ww hb he hd => ob_plain rfl (load_prb rfl he.1 (Blk.keep HQ.out hb))
            · exact fun aa ww hb he hd => ob_plain rfl (fld_sol rfl (by decide) he.2.1)
            · exact fun aa ww hb he hd => ob_plain rfl (load_c28 rfl hd.1 (Blk.at1 HS.out hb))
            · exact fun aa ww hb he hd => ob_plain rfl (gives_call2 _ _ _ _ rfl (by kernel_rfl) (by rw [show aa.eval (.tmp 104) = .agg #[.slice AC n cC, .slice AA m cA, .slice AB m cB] from hd.1, show aa.eval (.tmp 106) = .slice AX kX cX from hd.2.1]; exact ret_t (sfeas_any n m kX cC cA cB cX b bx AC AA AB AX Ar ln cp A C B X _ (PrW.new HP.out (bthen HB.out hb HB.out.size)) HL.out (Rs.newW HX.out (bthen HB.out hb HB.out.size)) hn hm hb1 (by omega) HCx.out) (f_iff H0.out)))
            · exact fun _ _ _ he hd => ob_mv rfl rfl hd.1
            iterate 4 exact fun aa ww hb he hd => ob_off 108 rfl (by kernel_rfl) hd.1 rfl
            · exact fun aa ww hb he hd => ob_plain rfl (gives_pick false _ _ _ rfl hd.1 ⟨rfl, Below.refl _ _⟩)
            · exact fun _ _ _ he hd => ob_mv rfl rfl hd.1
            iterate 7 exact fun aa ww hb he hd => ob_off 114 rfl (by kernel_rfl) hd.1 rfl
            · exact fun aa ww hb he hd => ob_plain rfl (gives_pick false _ _ _ rfl hd.1 ⟨rfl, Below.refl _ _⟩)
            · exact fun _ _ _ he hd => ob_mv rfl rfl hd.1
            iterate 4 exact fun aa ww hb he hd => ob_off 123 rfl (by kernel_rfl) hd.1 rfl
            · exact fun aa ww hb he hd => ob_plain rfl (gives_pick false _ _ _ rfl hd.1 ⟨rfl, Below.refl _ _⟩)
            · exact fun _ _ _ he hd => ob_mv rfl rfl hd.1
            iterate 5 exact fun aa ww hb he hd => ob_off 129 rfl (by kernel_rfl) hd.1 rfl
            · exact fun aa ww hb he hd => ob_plain rfl (gives_pick false _ _ _ rfl hd.1 ⟨rfl, Below.refl _ _⟩)
            · exact fun aa ww hb he hd => ob_plain rfl (gives_assign _ rfl ⟨hd.1, Below.refl _ _⟩)
          intro vs w6 hb hR
          have e4 : vs 32 = .bool false := hR 32 (by decide)
          clear hR
          simp only [putsL, Nat.zero_add, Nat.reduceAdd, List.take_succ_cons, List.take_zero, Act.put, List.setIfInBounds_toArray, List.set_cons_zero, List.set_cons_succ]
          rw [e4]
          clear e4
          go_wp2_with fail
          go_ret
          exact ⟨false, rfl, bthen HB.out hb HB.out.size, f_iff (fun h => by
    obtain ⟨-, -, h⟩ := h
    rcases h with ⟨h, q⟩ | ⟨h, q⟩ | ⟨h, q⟩
    · exact absurd h (by decide)
    · exact absurd h (by decide)
    · exact H0.out q.1)⟩
        · have H0 := Lib.hid h0; clear h0
          have hnx : n ≤ kX := by have := H0.out.1; omega
          by_cases h1 : kR = n ∧ Primal n m A (fun _ => 0) R
          rotate_left
          · have H1 := Lib.hid h1; clear h1
            refine wp_region_seq (kss := [[], [], [(1, 105)], [(0, 104), (2, 106)], [(3, 107)], [(4, 108)], [(4, 108)], [(4, 108), (6, 110)], [(4, 108), (5, 109), (7, 111)], [(4, 108), (8, 112)], [(9, 113)], [(10, 114)], [(10, 114), (11, 115)], [(10, 114)], [(10, 114), (13, 117)], [(10, 114), (12, 116), (14, 118)], [(10, 114), (15, 119)], [(10, 114), (16, 120)], [(10, 114), (17, 121)], [(18, 122)], [(19, 123)], [(19, 123), (20, 124)], [(19, 123), (21, 125)], [(19, 123), (22, 126)], [(19, 123), (23, 127)], [(24, 128)], [(25, 129)], [(25, 129), (26, 130)], [(25, 129)], [(25, 129), (27, 131), (28, 132)], [(25, 129), (29, 133)], [(25, 129), (30, 134)], [(31, 135)]]) [(2, .pointer (some ⟨gq, 0, none⟩)), (3, .pointer (some ⟨gs, 0, none⟩)), (6, .pointer (some ⟨g6, 0, none⟩)), (5, .pointer (some ⟨g5, 0, none⟩))] [EV (.agg #[.slice AC n cC, .slice AA m cA, .slice AB m cB]), EV (.pointer (some ⟨gs, 1, none⟩)), EV (.slice AX kX cX), EV (.bool true), EV (.bool true), EV (.agg #[.slice AC n cC, .slice AA m cA, .slice ((some ⟨g0, 0, none⟩)) m m]), EV (.pointer (some ⟨gs, 3, none⟩)), EV (.slice AR kR cR), EV (.bool false), EV (.bool false), EV (.bool false), UD, UD, UD, UD, UD, UD, UD, EV (.bool false), EV (.bool false), UD, UD, UD, UD, EV (.bool false), EV (.bool false), UD, UD, UD, UD, UD, EV (.bool false), EV (.bool false)] (by kernel_rfl) ⟨rfl, rfl, rfl, rfl, trivial⟩ ?_ ?_ ?_
            · exact ⟨sI, sI, sI, sI, sI, sI, sI, sI, sI, sI, sI, sI, sI, sI, sI, sI, sI, sI, sI, sI, sI, sI, sI, sI, sI, sI, sI, sI, sI, sI, sI, sI, sI, trivial⟩
            · refine ⟨?_, ?_, ?_, ?_, ?_, ?_, ?_, ?_, ?_, ?_, ?_, ?_, ?_, ?_, ?_, ?_, ?_, ?_, ?_, ?_, ?_, ?_, ?_, ?_, ?_, ?_, ?_, ?_, ?_, ?_, ?_, ?_, ?_, trivial⟩
              · exact fun aa ww hb he hd => ob_plain rfl (load_prb rfl he.1 (Blk.keep HQ.out hb))
              · exact fun aa ww hb he hd => ob_plain rfl (fld_sol rfl (by decide) he.2.1)
              · exact fun aa ww hb he hd => ob_plain rfl (load_c28 rfl hd.1 (Blk.at1 HS.out hb))
              · exact fun aa ww hb he hd => ob_plain rfl (gives_call2 _ _ _ _ rfl (by kernel_rfl) (by rw [show aa.eval (.tmp 104) = .agg #[.slice AC n cC, .slice AA m cA, .slice AB m cB] from hd.1, show aa.eval (.tmp 106) = .slice AX kX cX from hd.2.1]; exact ret_t (sfeas_any n m kX cC cA cB cX b bx AC AA AB AX Ar ln cp A C B X _ (PrW.new HP.out (bthen HB.out hb HB.out.size)) HL.out (Rs.newW HX.out (bthen HB.out hb HB.out.size)) hn hm hb1 (by omega) HCx.out) (t_iff H0.out)))
              · exact fun _ _ _ he hd => ob_mv rfl rfl hd.1
              · exact fun aa ww hb he hd => ob_on 108 rfl (by kernel_rfl) hd.1 (load_prb rfl he.2.2.1 (Blk.keep HG.out hb))
              · exact fun aa ww hb he hd => ob_on 108 rfl (by kernel_rfl) hd.1 (fld_sol rfl (by decide) he.2.1)
              · exact fun aa ww hb he hd => ob_on 108 rfl (by kernel_rfl) hd.1 (load_c28 rfl hd.2.1 (Blk.at3 HS.out hb))
              · exact fun aa ww hb he hd => ob_on 108 rfl (by kernel_rfl) hd.1 (gives_call2 _ _ _ _ rfl (by kernel_rfl) (by rw [show aa.eval (.tmp 109) = .agg #[.slice AC n cC, .slice AA m cA, .slice ((some ⟨g0, 0, none⟩)) m m] from hd.2.1, show aa.eval (.tmp 111) = .slice AR kR cR from hd.2.2.1]; exact ret_t (sfeas_any n m kR cC cA m cR b br AC AA (some ⟨g0, 0, none⟩) AR Ar ln cp A C (fun _ => 0) R _ (PrW.new HPC.out hb) HL.out (Rs.newW HR.out (bthen HB.out hb HB.out.size)) hn hm hb1 (by omega) HCr.out) (f_iff H1.out)))
              · exact fun aa ww hb he hd => ob_plain rfl (gives_pick true _ _ _ rfl hd.1 ⟨hd.2.1, Below.refl _ _⟩)
              · exact fun _ _ _ he hd => ob_mv rfl rfl hd.1
              iterate 7 exact fun aa ww hb he hd => ob_off 114 rfl (by kernel_rfl) hd.1 rfl
              · exact fun aa ww hb he hd => ob_plain rfl (gives_pick false _ _ _ rfl hd.1 ⟨rfl, Below.refl _ _⟩)
              · exact fun _ _ _ he hd => ob_mv rfl rfl hd.1
              iterate 4 exact fun aa ww hb he hd => ob_off 123 rfl (by kernel_rfl) hd.1 rfl
              · exact fun aa ww hb he hd => ob_plain rfl (gives_pick false _ _ _ rfl hd.1 ⟨rfl, Below.refl _ _⟩)
              · exact fun _ _ _ he hd => ob_mv rfl rfl hd.1
              iterate 5 exact fun aa ww hb he hd => ob_off 129 rfl (by kernel_rfl) hd.1 rfl
              · exact fun aa ww hb he hd => ob_plain rfl (gives_pick false _ _ _ rfl hd.1 ⟨rfl, Below.refl _ _⟩)
              · exact fun aa ww hb he hd => ob_plain rfl (gives_assign _ rfl ⟨hd.1, Below.refl _ _⟩)
            intro vs w6 hb hR
            have e4 : vs 32 = .bool false := hR 32 (by decide)
            clear hR
            simp only [putsL, Nat.zero_add, Nat.reduceAdd, List.take_succ_cons, List.take_zero, Act.put, List.setIfInBounds_toArray, List.set_cons_zero, List.set_cons_succ]
            rw [e4]
            clear e4
            go_wp2_with fail
            go_ret
            exact ⟨false, rfl, bthen HB.out hb HB.out.size, f_iff (fun h => by
      obtain ⟨-, -, h⟩ := h
      rcases h with ⟨h, q⟩ | ⟨h, q⟩ | ⟨h, q⟩
      · exact absurd h (by decide)
      · exact absurd h (by decide)
      · exact H1.out q.2.1)⟩
          · have H1 := Lib.hid h1; clear h1
            have hnr : n ≤ kR := by have := H1.out.1; omega
            by_cases h2 : 0 < sm (fun l => C l * R l) n
            rotate_left
            · have H2 := Lib.hid h2; clear h2
              refine wp_region_seq (kss := [[], [], [(1, 105)], [(0, 104), (2, 106)], [(3, 107)], [(4, 108)], [(4, 108)], [(4, 108), (6, 110)], [(4, 108), (5, 109), (7, 111)], [(4, 108), (8, 112)], [(9, 113)], [(10, 114)], [(10, 114), (11, 115)], [(10, 114)], [(10, 114), (13, 117)], [(10, 114), (12, 116), (14, 118)], [(10, 114), (15, 119)], [(10, 114), (16, 120)], [(10, 114), (17, 121)], [(18, 122)], [(19, 123)], [(19, 123), (20, 124)], [(19, 123), (21, 125)], [(19, 123), (22, 126)], [(19, 123), (23, 127)], [(24, 128)], [(25, 129)], [(25, 129), (26, 130)], [(25, 129)], [(25, 129), (27, 131), (28, 132)], [(25, 129), (29, 133)], [(25, 129), (30, 134)], [(31, 135)]]) [(2, .pointer (some ⟨gq, 0, none⟩)), (3, .pointer (some ⟨gs, 0, none⟩)), (6, .pointer (some ⟨g6, 0, none⟩)), (5, .pointer (some ⟨g5, 0, none⟩))] [EV (.agg #[.slice AC n cC, .slice AA m cA, .slice AB m cB]), EV (.pointer (some ⟨gs, 1, none⟩)), EV (.slice AX kX cX), EV (.bool true), EV (.bool true), EV (.agg #[.slice AC n cC, .slice AA m cA, .slice ((some ⟨g0, 0, none⟩)) m m]), EV (.pointer (some ⟨gs, 3, none⟩)), EV (.slice AR kR cR), EV (.bool true), EV (.bool true), EV (.bool true), EV (.pointer (some ⟨gq, 0, none⟩)), EV (.slice AC n cC), EV (.pointer (some ⟨gs, 3, none⟩)), EV (.slice AR kR cR), Rw (2 + n * (b + br + 1)) (sm (fun l => C l * R l) n), EV (.int .i64 ((sm (fun l => C l * R l) n).num.sign)), EV (.bool false), EV (.bool false), EV (.bool false), UD, UD, UD, UD, EV (.bool false), EV (.bool false), UD, UD, UD, UD, UD, EV (.bool false), EV (.bool false)] (by kernel_rfl) ⟨rfl, rfl, rfl, rfl, trivial⟩ ?_ ?_ ?_
              · exact ⟨sI, sI, sI, sI, sI, sI, sI, sI, sI, sI, sI, sI, sI, sI, sI, fun _ _ _ h hb => h.new hb, sI, sI, sI, sI, sI, sI, sI, sI, sI, sI, sI, sI, sI, sI, sI, sI, sI, trivial⟩
              · refine ⟨?_, ?_, ?_, ?_, ?_, ?_, ?_, ?_, ?_, ?_, ?_, ?_, ?_, ?_, ?_, ?_, ?_, ?_, ?_, ?_, ?_, ?_, ?_, ?_, ?_, ?_, ?_, ?_, ?_, ?_, ?_, ?_, ?_, trivial⟩
                · exact fun aa ww hb he hd => ob_plain rfl (load_prb rfl he.1 (Blk.keep HQ.out hb))
                · exact fun aa ww hb he hd => ob_plain rfl (fld_sol rfl (by decide) he.2.1)
                · exact fun aa ww hb he hd => ob_plain rfl (load_c28 rfl hd.1 (Blk.at1 HS.out hb))
                · exact fun aa ww hb he hd => ob_plain rfl (gives_call2 _ _ _ _ rfl (by kernel_rfl) (by rw [show aa.eval (.tmp 104) = .agg #[.slice AC n cC, .slice AA m cA, .slice AB m cB] from hd.1, show aa.eval (.tmp 106) = .slice AX kX cX from hd.2.1]; exact ret_t (sfeas_any n m kX cC cA cB cX b bx AC AA AB AX Ar ln cp A C B X _ (PrW.new HP.out (bthen HB.out hb HB.out.size)) HL.out (Rs.newW HX.out (bthen HB.out hb HB.out.size)) hn hm hb1 (by omega) HCx.out) (t_iff H0.out)))
                · exact fun _ _ _ he hd => ob_mv rfl rfl hd.1
                · exact fun aa ww hb he hd => ob_on 108 rfl (by kernel_rfl) hd.1 (load_prb rfl he.2.2.1 (Blk.keep HG.out hb))
                · exact fun aa ww hb he hd => ob_on 108 rfl (by kernel_rfl) hd.1 (fld_sol rfl (by decide) he.2.1)
                · exact fun aa ww hb he hd => ob_on 108 rfl (by kernel_rfl) hd.1 (load_c28 rfl hd.2.1 (Blk.at3 HS.out hb))
                · exact fun aa ww hb he hd => ob_on 108 rfl (by kernel_rfl) hd.1 (gives_call2 _ _ _ _ rfl (by kernel_rfl) (by rw [show aa.eval (.tmp 109) = .agg #[.slice AC n cC, .slice AA m cA, .slice ((some ⟨g0, 0, none⟩)) m m] from hd.2.1, show aa.eval (.tmp 111) = .slice AR kR cR from hd.2.2.1]; exact ret_t (sfeas_any n m kR cC cA m cR b br AC AA (some ⟨g0, 0, none⟩) AR Ar ln cp A C (fun _ => 0) R _ (PrW.new HPC.out hb) HL.out (Rs.newW HR.out (bthen HB.out hb HB.out.size)) hn hm hb1 (by omega) HCr.out) (t_iff H1.out)))
                · exact fun aa ww hb he hd => ob_plain rfl (gives_pick true _ _ _ rfl hd.1 ⟨hd.2.1, Below.refl _ _⟩)
                · exact fun _ _ _ he hd => ob_mv rfl rfl hd.1
                · exact fun aa ww hb he hd => ob_on 114 rfl (by kernel_rfl) hd.1 (fld_prb rfl (by decide) he.1)
                · exact fun aa ww hb he hd => ob_on 114 rfl (by kernel_rfl) hd.1 (load_c28 rfl hd.2.1 (Blk.at0 HQ.out hb))
                · exact fun aa ww hb he hd => ob_on 114 rfl (by kernel_rfl) hd.1 (fld_sol rfl (by decide) he.2.1)
                · exact fun aa ww hb he hd => ob_on 114 rfl (by kernel_rfl) hd.1 (load_c28 rfl hd.2.1 (Blk.at3 HS.out hb))
                · exact fun aa ww hb he hd => ob_on 114 rfl (by kernel_rfl) hd.1 (gives_call2 _ _ _ _ rfl (by kernel_rfl) (by rw [show aa.eval (.tmp 116) = .slice AC n cC from hd.2.1, show aa.eval (.tmp 118) = .slice AR kR cR from hd.2.2.1]; exact dot_any n kR cC cR b br _ _ C R _ (Rs.newW HP.out.c (bthen HB.out hb HB.out.size)) (Rs.newW HR.out (bthen HB.out hb HB.out.size)) (by omega) (by omega) (by omega) (by omega) HCr.out))
                · exact fun aa ww hb he hd => ob_on 114 rfl (by kernel_rfl) hd.1 (gives_call1 _ _ _ rfl (by kernel_rfl) (sign_v (hd.2.1)))
                · exact fun aa ww hb he hd => ob_on 114 rfl (by kernel_rfl) hd.1 (gives_gt_int ((sm (fun l => C l * R l) n).num.sign) 0 .i64 _ _ _ _ rfl hd.2.1 rfl ⟨congrArg Value.bool (sign_gtd.trans (decide_eq_false H2.out)), Below.refl _ _⟩)
                · exact fun aa ww hb he hd => ob_plain rfl (gives_pick true _ _ _ rfl hd.1 ⟨hd.2.1, Below.refl _ _⟩)
                · exact fun _ _ _ he hd => ob_mv rfl rfl hd.1
                iterate 4 exact fun aa ww hb he hd => ob_off 123 rfl (by kernel_rfl) hd.1 rfl
                · exact fun aa ww hb he hd => ob_plain rfl (gives_pick false _ _ _ rfl hd.1 ⟨rfl, Below.refl _ _⟩)
                · exact fun _ _ _ he hd => ob_mv rfl rfl hd.1
                iterate 5 exact fun aa ww hb he hd => ob_off 129 rfl (by kernel_rfl) hd.1 rfl
                · exact fun aa ww hb he hd => ob_plain rfl (gives_pick false _ _ _ rfl hd.1 ⟨rfl, Below.refl _ _⟩)
                · exact fun aa ww hb he hd => ob_plain rfl (gives_assign _ rfl ⟨hd.1, Below.refl _ _⟩)
              intro vs w6 hb hR
              have e4 : vs 32 = .bool false := hR 32 (by decide)
              clear hR
              simp only [putsL, Nat.zero_add, Nat.reduceAdd, List.take_succ_cons, List.take_zero, Act.put, List.setIfInBounds_toArray, List.set_cons_zero, List.set_cons_succ]
              rw [e4]
              clear e4
              go_wp2_with fail
              go_ret
              exact ⟨false, rfl, bthen HB.out hb HB.out.size, f_iff (fun h => by
        obtain ⟨-, -, h⟩ := h
        rcases h with ⟨h, q⟩ | ⟨h, q⟩ | ⟨h, q⟩
        · exact absurd h (by decide)
        · exact absurd h (by decide)
        · exact H2.out q.2.2.1)⟩
            · have H2 := Lib.hid h2; clear h2
              by_cases h3 : kY = 0
              rotate_left
              · have H3 := Lib.hid h3; clear h3
                refine wp_region_seq (kss := [[], [], [(1, 105)], [(0, 104), (2, 106)], [(3, 107)], [(4, 108)], [(4, 108)], [(4, 108), (6, 110)], [(4, 108), (5, 109), (7, 111)], [(4, 108), (8, 112)], [(9, 113)], [(10, 114)], [(10, 114), (11, 115)], [(10, 114)], [(10, 114), (13, 117)], [(10, 114), (12, 116), (14, 118)], [(10, 114), (15, 119)], [(10, 114), (16, 120)], [(10, 114), (17, 121)], [(18, 122)], [(19, 123)], [(19, 123), (20, 124)], [(19, 123), (21, 125)], [(19, 123), (22, 126)], [(19, 123), (23, 127)], [(24, 128)], [(25, 129)], [(25, 129), (26, 130)], [(25, 129)], [(25, 129), (27, 131), (28, 132)], [(25, 129), (29, 133)], [(25, 129), (30, 134)], [(31, 135)]]) [(2, .pointer (some ⟨gq, 0, none⟩)), (3, .pointer (some ⟨gs, 0, none⟩)), (6, .pointer (some ⟨g6, 0, none⟩)), (5, .pointer (some ⟨g5, 0, none⟩))] [EV (.agg #[.slice AC n cC, .slice AA m cA, .slice AB m cB]), EV (.pointer (some ⟨gs, 1, none⟩)), EV (.slice AX kX cX), EV (.bool true), EV (.bool true), EV (.agg #[.slice AC n cC, .slice AA m cA, .slice ((some ⟨g0, 0, none⟩)) m m]), EV (.pointer (some ⟨gs, 3, none⟩)), EV (.slice AR kR cR), EV (.bool true), EV (.bool true), EV (.bool true), EV (.pointer (some ⟨gq, 0, none⟩)), EV (.slice AC n cC), EV (.pointer (some ⟨gs, 3, none⟩)), EV (.slice AR kR cR), Rw (2 + n * (b + br + 1)) (sm (fun l => C l * R l) n), EV (.int .i64 ((sm (fun l => C l * R l) n).num.sign)), EV (.bool true), EV (.bool true), EV (.bool true), EV (.pointer (some ⟨gs, 2, none⟩)), EV (.slice AY kY cY), EV (.int .i64 ((kY : Int))), EV (.bool false), EV (.bool false), EV (.bool false), UD, UD, UD, UD, UD, EV (.bool false), EV (.bool false)] (by kernel_rfl) ⟨rfl, rfl, rfl, rfl, trivial⟩ ?_ ?_ ?_
                · exact ⟨sI, sI, sI, sI, sI, sI, sI, sI, sI, sI, sI, sI, sI, sI, sI, fun _ _ _ h hb => h.new hb, sI, sI, sI, sI, sI, sI, sI, sI, sI, sI, sI, sI, sI, sI, sI, sI, sI, trivial⟩
                · refine ⟨?_, ?_, ?_, ?_, ?_, ?_, ?_, ?_, ?_, ?_, ?_, ?_, ?_, ?_, ?_, ?_, ?_, ?_, ?_, ?_, ?_, ?_, ?_, ?_, ?_, ?_, ?_, ?_, ?_, ?_, ?_, ?_, ?_, trivial⟩
                  · exact fun aa ww hb he hd => ob_plain rfl (load_prb rfl he.1 (Blk.keep HQ.out hb))
                  · exact fun aa ww hb he hd => ob_plain rfl (fld_sol rfl (by decide) he.2.1)
                  · exact fun aa ww hb he hd => ob_plain rfl (load_c28 rfl hd.1 (Blk.at1 HS.out hb))
                  · exact fun aa ww hb he hd => ob_plain rfl (gives_call2 _ _ _ _ rfl (by kernel_rfl) (by rw [show aa.eval (.tmp 104) = .agg #[.slice AC n cC, .slice AA m cA, .slice AB m cB] from hd.1, show aa.eval (.tmp 106) = .slice AX kX cX from hd.2.1]; exact ret_t (sfeas_any n m kX cC cA cB cX b bx AC AA AB AX Ar ln cp A C B X _ (PrW.new HP.out (bthen HB.out hb HB.out.size)) HL.out (Rs.newW HX.out (bthen HB.out hb HB.out.size)) hn hm hb1 (by omega) HCx.out) (t_iff H0.out)))
                  · exact fun _ _ _ he hd => ob_mv rfl rfl hd.1
                  · exact fun aa ww hb he hd => ob_on 108 rfl (by kernel_rfl) hd.1 (load_prb rfl he.2.2.1 (Blk.keep HG.out hb))
                  · exact fun aa ww hb he hd => ob_on 108 rfl (by kernel_rfl) hd.1 (fld_sol rfl (by decide) he.2.1)
                  · exact fun aa ww hb he hd => ob_on 108 rfl (by kernel_rfl) hd.1 (load_c28 rfl hd.2.1 (Blk.at3 HS.out hb))
                  · exact fun aa ww hb he hd => ob_on 108 rfl (by kernel_rfl) hd.1 (gives_call2 _ _ _ _ rfl (by kernel_rfl) (by rw [show aa.eval (.tmp 109) = .agg #[.slice AC n cC, .slice AA m cA, .slice ((some ⟨g0, 0, none⟩)) m m] from hd.2.1, show aa.eval (.tmp 111) = .slice AR kR cR from hd.2.2.1]; exact ret_t (sfeas_any n m kR cC cA m cR b br AC AA (some ⟨g0, 0, none⟩) AR Ar ln cp A C (fun _ => 0) R _ (PrW.new HPC.out hb) HL.out (Rs.newW HR.out (bthen HB.out hb HB.out.size)) hn hm hb1 (by omega) HCr.out) (t_iff H1.out)))
                  · exact fun aa ww hb he hd => ob_plain rfl (gives_pick true _ _ _ rfl hd.1 ⟨hd.2.1, Below.refl _ _⟩)
                  · exact fun _ _ _ he hd => ob_mv rfl rfl hd.1
                  · exact fun aa ww hb he hd => ob_on 114 rfl (by kernel_rfl) hd.1 (fld_prb rfl (by decide) he.1)
                  · exact fun aa ww hb he hd => ob_on 114 rfl (by kernel_rfl) hd.1 (load_c28 rfl hd.2.1 (Blk.at0 HQ.out hb))
                  · exact fun aa ww hb he hd => ob_on 114 rfl (by kernel_rfl) hd.1 (fld_sol rfl (by decide) he.2.1)
                  · exact fun aa ww hb he hd => ob_on 114 rfl (by kernel_rfl) hd.1 (load_c28 rfl hd.2.1 (Blk.at3 HS.out hb))
                  · exact fun aa ww hb he hd => ob_on 114 rfl (by kernel_rfl) hd.1 (gives_call2 _ _ _ _ rfl (by kernel_rfl) (by rw [show aa.eval (.tmp 116) = .slice AC n cC from hd.2.1, show aa.eval (.tmp 118) = .slice AR kR cR from hd.2.2.1]; exact dot_any n kR cC cR b br _ _ C R _ (Rs.newW HP.out.c (bthen HB.out hb HB.out.size)) (Rs.newW HR.out (bthen HB.out hb HB.out.size)) (by omega) (by omega) (by omega) (by omega) HCr.out))
                  · exact fun aa ww hb he hd => ob_on 114 rfl (by kernel_rfl) hd.1 (gives_call1 _ _ _ rfl (by kernel_rfl) (sign_v (hd.2.1)))
                  · exact fun aa ww hb he hd => ob_on 114 rfl (by kernel_rfl) hd.1 (gives_gt_int ((sm (fun l => C l * R l) n).num.sign) 0 .i64 _ _ _ _ rfl hd.2.1 rfl ⟨congrArg Value.bool (sign_gtd.trans (decide_eq_true H2.out)), Below.refl _ _⟩)
                  · exact fun aa ww hb he hd => ob_plain rfl (gives_pick true _ _ _ rfl hd.1 ⟨hd.2.1, Below.refl _ _⟩)
                  · exact fun _ _ _ he hd => ob_mv rfl rfl hd.1
                  · exact fun aa ww hb he hd => ob_on 123 rfl (by kernel_rfl) hd.1 (fld_sol rfl (by decide) he.2.1)
                  · exact fun aa ww hb he hd => ob_on 123 rfl (by kernel_rfl) hd.1 (load_c28 rfl hd.2.1 (Blk.at2 HS.out hb))
                  · exact fun aa ww hb he hd => ob_on 123 rfl (by kernel_rfl) hd.1 (len_c Try.underlying28 rfl hd.2.1)
                  · exact fun aa ww hb he hd => ob_on 123 rfl (by kernel_rfl) hd.1 (gives_eq_int ((kY : Int)) 0 .i64 _ _ _ _ rfl hd.2.1 rfl ⟨congrArg Value.bool (keq0.trans (decide_eq_false H3.out)), Below.refl _ _⟩)
                  · exact fun aa ww hb he hd => ob_plain rfl (gives_pick true _ _ _ rfl hd.1 ⟨hd.2.1, Below.refl _ _⟩)
                  · exact fun _ _ _ he hd => ob_mv rfl rfl hd.1
                  iterate 5 exact fun aa ww hb he hd => ob_off 129 rfl (by kernel_rfl) hd.1 rfl
                  · exact fun aa ww hb he hd => ob_plain rfl (gives_pick false _ _ _ rfl hd.1 ⟨rfl, Below.refl _ _⟩)
                  · exact fun aa ww hb he hd => ob_plain rfl (gives_assign _ rfl ⟨hd.1, Below.refl _ _⟩)
                intro vs w6 hb hR
                have e4 : vs 32 = .bool false := hR 32 (by decide)
                clear hR
                simp only [putsL, Nat.zero_add, Nat.reduceAdd, List.take_succ_cons, List.take_zero, Act.put, List.setIfInBounds_toArray, List.set_cons_zero, List.set_cons_succ]
                rw [e4]
                clear e4
                go_wp2_with fail
                go_ret
                exact ⟨false, rfl, bthen HB.out hb HB.out.size, f_iff (fun h => by
          obtain ⟨-, -, h⟩ := h
          rcases h with ⟨h, q⟩ | ⟨h, q⟩ | ⟨h, q⟩
          · exact absurd h (by decide)
          · exact absurd h (by decide)
          · exact H3.out q.2.2.2.1)⟩
              · have H3 := Lib.hid h3; clear h3
                by_cases h4 : v = ((0 : Int) : Rat)
                rotate_left
                · have H4 := Lib.hid h4; clear h4
                  refine wp_region_seq (kss := [[], [], [(1, 105)], [(0, 104), (2, 106)], [(3, 107)], [(4, 108)], [(4, 108)], [(4, 108), (6, 110)], [(4, 108), (5, 109), (7, 111)], [(4, 108), (8, 112)], [(9, 113)], [(10, 114)], [(10, 114), (11, 115)], [(10, 114)], [(10, 114), (13, 117)], [(10, 114), (12, 116), (14, 118)], [(10, 114), (15, 119)], [(10, 114), (16, 120)], [(10, 114), (17, 121)], [(18, 122)], [(19, 123)], [(19, 123), (20, 124)], [(19, 123), (21, 125)], [(19, 123), (22, 126)], [(19, 123), (23, 127)], [(24, 128)], [(25, 129)], [(25, 129), (26, 130)], [(25, 129)], [(25, 129), (27, 131), (28, 132)], [(25, 129), (29, 133)], [(25, 129), (30, 134)], [(31, 135)]]) [(2, .pointer (some ⟨gq, 0, none⟩)), (3, .pointer (some ⟨gs, 0, none⟩)), (6, .pointer (some ⟨g6, 0, none⟩)), (5, .pointer (some ⟨g5, 0, none⟩))] [EV (.agg #[.slice AC n cC, .slice AA m cA, .slice AB m cB]), EV (.pointer (some ⟨gs, 1, none⟩)), EV (.slice AX kX cX), EV (.bool true), EV (.bool true), EV (.agg #[.slice AC n cC, .slice AA m cA, .slice ((some ⟨g0, 0, none⟩)) m m]), EV (.pointer (some ⟨gs, 3, none⟩)), EV (.slice AR kR cR), EV (.bool true), EV (.bool true), EV (.bool true), EV (.pointer (some ⟨gq, 0, none⟩)), EV (.slice AC n cC), EV (.pointer (some ⟨gs, 3, none⟩)), EV (.slice AR kR cR), Rw (2 + n * (b + br + 1)) (sm (fun l => C l * R l) n), EV (.int .i64 ((sm (fun l => C l * R l) n).num.sign)), EV (.bool true), EV (.bool true), EV (.bool true), EV (.pointer (some ⟨gs, 2, none⟩)), EV (.slice AY kY cY), EV (.int .i64 ((kY : Int))), EV (.bool true), EV (.bool true), EV (.bool true), EV (.pointer (some ⟨gs, 4, none⟩)), Rw (bv) (v), Rw (2) (((0 : Int) : Rat)), EV (.int .i64 (rcq v (((0 : Int) : Rat)))), EV (.bool false), EV (.bool false), EV (.bool false)] (by kernel_rfl) ⟨rfl, rfl, rfl, rfl, trivial⟩ ?_ ?_ ?_
                  · exact ⟨sI, sI, sI, sI, sI, sI, sI, sI, sI, sI, sI, sI, sI, sI, sI, fun _ _ _ h hb => h.new hb, sI, sI, sI, sI, sI, sI, sI, sI, sI, sI, sI, fun _ _ _ h hb => h.new hb, fun _ _ _ h hb => h.new hb, sI, sI, sI, sI, trivial⟩
                  · refine ⟨?_, ?_, ?_, ?_, ?_, ?_, ?_, ?_, ?_, ?_, ?_, ?_, ?_, ?_, ?_, ?_, ?_, ?_, ?_, ?_, ?_, ?_, ?_, ?_, ?_, ?_, ?_, ?_, ?_, ?_, ?_, ?_, ?_, trivial⟩
                    · exact fun aa ww hb he hd => ob_plain rfl (load_prb rfl he.1 (Blk.keep HQ.out hb))
                    · exact fun aa ww hb he hd => ob_plain rfl (fld_sol rfl (by decide) he.2.1)
                    · exact fun aa ww hb he hd => ob_plain rfl (load_c28 rfl hd.1 (Blk.at1 HS.out hb))
                    · exact fun aa ww hb he hd => ob_plain rfl (gives_call2 _ _ _ _ rfl (by kernel_rfl) (by rw [show aa.eval (.tmp 104) = .agg #[.slice AC n cC, .slice AA m cA, .slice AB m cB] from hd.1, show aa.eval (.tmp 106) = .slice AX kX cX from hd.2.1]; exact ret_t (sfeas_any n m kX cC cA cB cX b bx AC AA AB AX Ar ln cp A C B X _ (PrW.new HP.out (bthen HB.out hb HB.out.size)) HL.out (Rs.newW HX.out (bthen HB.out hb HB.out.size)) hn hm hb1 (by omega) HCx.out) (t_iff H0.out)))
                    · exact fun _ _ _ he hd => ob_mv rfl rfl hd.1
                    · exact fun aa ww hb he hd => ob_on 108 rfl (by kernel_rfl) hd.1 (load_prb rfl he.2.2.1 (Blk.keep HG.out hb))
                    · exact fun aa ww hb he hd => ob_on 108 rfl (by kernel_rfl) hd.1 (fld_sol rfl (by decide) he.2.1)
                    · exact fun aa ww hb he hd => ob_on 108 rfl (by kernel_rfl) hd.1 (load_c28 rfl hd.2.1 (Blk.at3 HS.out hb))
                    · exact fun aa ww hb he hd => ob_on 108 rfl (by kernel_rfl) hd.1 (gives_call2 _ _ _ _ rfl (by kernel_rfl) (by rw [show aa.eval (.tmp 109) = .agg #[.slice AC n cC, .slice AA m cA, .slice ((some ⟨g0, 0, none⟩)) m m] from hd.2.1, show aa.eval (.tmp 111) = .slice AR kR cR from hd.2.2.1]; exact ret_t (sfeas_any n m kR cC cA m cR b br AC AA (some ⟨g0, 0, none⟩) AR Ar ln cp A C (fun _ => 0) R _ (PrW.new HPC.out hb) HL.out (Rs.newW HR.out (bthen HB.out hb HB.out.size)) hn hm hb1 (by omega) HCr.out) (t_iff H1.out)))
                    · exact fun aa ww hb he hd => ob_plain rfl (gives_pick true _ _ _ rfl hd.1 ⟨hd.2.1, Below.refl _ _⟩)
                    · exact fun _ _ _ he hd => ob_mv rfl rfl hd.1
                    · exact fun aa ww hb he hd => ob_on 114 rfl (by kernel_rfl) hd.1 (fld_prb rfl (by decide) he.1)
                    · exact fun aa ww hb he hd => ob_on 114 rfl (by kernel_rfl) hd.1 (load_c28 rfl hd.2.1 (Blk.at0 HQ.out hb))
                    · exact fun aa ww hb he hd => ob_on 114 rfl (by kernel_rfl) hd.1 (fld_sol rfl (by decide) he.2.1)
                    · exact fun aa ww hb he hd => ob_on 114 rfl (by kernel_rfl) hd.1 (load_c28 rfl hd.2.1 (Blk.at3 HS.out hb))
                    · exact fun aa ww hb he hd => ob_on 114 rfl (by kernel_rfl) hd.1 (gives_call2 _ _ _ _ rfl (by kernel_rfl) (by rw [show aa.eval (.tmp 116) = .slice AC n cC from hd.2.1, show aa.eval (.tmp 118) = .slice AR kR cR from hd.2.2.1]; exact dot_any n kR cC cR b br _ _ C R _ (Rs.newW HP.out.c (bthen HB.out hb HB.out.size)) (Rs.newW HR.out (bthen HB.out hb HB.out.size)) (by omega) (by omega) (by omega) (by omega) HCr.out))
                    · exact fun aa ww hb he hd => ob_on 114 rfl (by kernel_rfl) hd.1 (gives_call1 _ _ _ rfl (by kernel_rfl) (sign_v (hd.2.1)))
                    · exact fun aa ww hb he hd => ob_on 114 rfl (by kernel_rfl) hd.1 (gives_gt_int ((sm (fun l => C l * R l) n).num.sign) 0 .i64 _ _ _ _ rfl hd.2.1 rfl ⟨congrArg Value.bool (sign_gtd.trans (decide_eq_true H2.out)), Below.refl _ _⟩)
                    · exact fun aa ww hb he hd => ob_plain rfl (gives_pick true _ _ _ rfl hd.1 ⟨hd.2.1, Below.refl _ _⟩)
                    · exact fun _ _ _ he hd => ob_mv rfl rfl hd.1
                    · exact fun aa ww hb he hd => ob_on 123 rfl (by kernel_rfl) hd.1 (fld_sol rfl (by decide) he.2.1)
                    · exact fun aa ww hb he hd => ob_on 123 rfl (by kernel_rfl) hd.1 (load_c28 rfl hd.2.1 (Blk.at2 HS.out hb))
                    · exact fun aa ww hb he hd => ob_on 123 rfl (by kernel_rfl) hd.1 (len_c Try.underlying28 rfl hd.2.1)
                    · exact fun aa ww hb he hd => ob_on 123 rfl (by kernel_rfl) hd.1 (gives_eq_int ((kY : Int)) 0 .i64 _ _ _ _ rfl hd.2.1 rfl ⟨congrArg Value.bool (keq0.trans (decide_eq_true H3.out)), Below.refl _ _⟩)
                    · exact fun aa ww hb he hd => ob_plain rfl (gives_pick true _ _ _ rfl hd.1 ⟨hd.2.1, Below.refl _ _⟩)
                    · exact fun _ _ _ he hd => ob_mv rfl rfl hd.1
                    · exact fun aa ww hb he hd => ob_on 129 rfl (by kernel_rfl) hd.1 (fld_sol rfl (by decide) he.2.1)
                    · exact fun aa ww hb he hd => ob_on 129 rfl (by kernel_rfl) hd.1 (load_sv rfl hd.2.1 (Blk.keep HS.out hb) (Rw.new HV.out (bthen HB.out hb HB.out.size)))
                    · exact fun aa ww hb he hd => ob_on 129 rfl (by kernel_rfl) hd.1 (load_bx rfl he.2.2.2.1 (Bx.new HX5.out hb))
                    · exact fun aa ww hb he hd => ob_on 129 rfl (by kernel_rfl) hd.1 (gives_call2 _ _ _ _ rfl (by kernel_rfl) (cmp_v (hd.2.1) (hd.2.2.1) (by have := HCx.out; have := HCy2.out; have := HCr.out; omega)))
                    · exact fun aa ww hb he hd => ob_on 129 rfl (by kernel_rfl) hd.1 (gives_eq_int (rcq v (((0 : Int) : Rat))) 0 .i64 _ _ _ _ rfl hd.2.1 rfl ⟨congrArg Value.bool (rcq_eqb.trans (decide_eq_false H4.out)), Below.refl _ _⟩)
                    · exact fun aa ww hb he hd => ob_plain rfl (gives_pick true _ _ _ rfl hd.1 ⟨hd.2.1, Below.refl _ _⟩)
                    · exact fun aa ww hb he hd => ob_plain rfl (gives_assign _ rfl ⟨hd.1, Below.refl _ _⟩)
                  intro vs w6 hb hR
                  have e4 : vs 32 = .bool false := hR 32 (by decide)
                  clear hR
                  simp only [putsL, Nat.zero_add, Nat.reduceAdd, List.take_succ_cons, List.take_zero, Act.put, List.setIfInBounds_toArray, List.set_cons_zero, List.set_cons_succ]
                  rw [e4]
                  clear e4
                  go_wp2_with fail
                  go_ret
                  exact ⟨false, rfl, bthen HB.out hb HB.out.size, f_iff (fun h => by
            obtain ⟨-, -, h⟩ := h
            rcases h with ⟨h, q⟩ | ⟨h, q⟩ | ⟨h, q⟩
            · exact absurd h (by decide)
            · exact absurd h (by decide)
            · exact H4.out q.2.2.2.2)⟩
                · have H4 := Lib.hid h4; clear h4
                  refine wp_region_seq (kss := [[], [], [(1, 105)], [(0, 104), (2, 106)], [(3, 107)], [(4, 108)], [(4, 108)], [(4, 108), (6, 110)], [(4, 108), (5, 109), (7, 111)], [(4, 108), (8, 112)], [(9, 113)], [(10, 114)], [(10, 114), (11, 115)], [(10, 114)], [(10, 114), (13, 117)], [(10, 114), (12, 116), (14, 118)], [(10, 114), (15, 119)], [(10, 114), (16, 120)], [(10, 114), (17, 121)], [(18, 122)], [(19, 123)], [(19, 123), (20, 124)], [(19, 123), (21, 125)], [(19, 123), (22, 126)], [(19, 123), (23, 127)], [(24, 128)], [(25, 129)], [(25, 129), (26, 130)], [(25, 129)], [(25, 129), (27, 131), (28, 132)], [(25, 129), (29, 133)], [(25, 129), (30, 134)], [(31, 135)]]) [(2, .pointer (some ⟨gq, 0, none⟩)), (3, .pointer (some ⟨gs, 0, none⟩)), (6, .pointer (some ⟨g6, 0, none⟩)), (5, .pointer (some ⟨g5, 0, none⟩))] [EV (.agg #[.slice AC n cC, .slice AA m cA, .slice AB m cB]), EV (.pointer (some ⟨gs, 1, none⟩)), EV (.slice AX kX cX), EV (.bool true), EV (.bool true), EV (.agg #[.slice AC n cC, .slice AA m cA, .slice ((some ⟨g0, 0, none⟩)) m m]), EV (.pointer (some ⟨gs, 3, none⟩)), EV (.slice AR kR cR), EV (.bool true), EV (.bool true), EV (.bool true), EV (.pointer (some ⟨gq, 0, none⟩)), EV (.slice AC n cC), EV (.pointer (some ⟨gs, 3, none⟩)), EV (.slice AR kR cR), Rw (2 + n * (b + br + 1)) (sm (fun l => C l * R l) n), EV (.int .i64 ((sm (fun l => C l * R l) n).num.sign)), EV (.bool true), EV (.bool true), EV (.bool true), EV (.pointer (some ⟨gs, 2, none⟩)), EV (.slice AY kY cY), EV (.int .i64 ((kY : Int))), EV (.bool true), EV (.bool true), EV (.bool true), EV (.pointer (some ⟨gs, 4, none⟩)), Rw (bv) (v), Rw (2) (((0 : Int) : Rat)), EV (.int .i64 (rcq v (((0 : Int) : Rat)))), EV (.bool true), EV (.bool true), EV (.bool true)] (by kernel_rfl) ⟨rfl, rfl, rfl, rfl, trivial⟩ ?_ ?_ ?_
                  · exact ⟨sI, sI, sI, sI, sI, sI, sI, sI, sI, sI, sI, sI, sI, sI, sI, fun _ _ _ h hb => h.new hb, sI, sI, sI, sI, sI, sI, sI, sI, sI, sI, sI, fun _ _ _ h hb => h.new hb, fun _ _ _ h hb => h.new hb, sI, sI, sI, sI, trivial⟩
                  · refine ⟨?_, ?_, ?_, ?_, ?_, ?_, ?_, ?_, ?_, ?_, ?_, ?_, ?_, ?_, ?_, ?_, ?_, ?_, ?_, ?_, ?_, ?_, ?_, ?_, ?_, ?_, ?_, ?_, ?_, ?_, ?_, ?_, ?_, trivial⟩
                    · exact fun aa ww hb he hd => ob_plain rfl (load_prb rfl he.1 (Blk.keep HQ.out hb))
                    · exact fun aa ww hb he hd => ob_plain rfl (fld_sol rfl (by decide) he.2.1)
                    · exact fun aa ww hb he hd => ob_plain rfl (load_c28 rfl hd.1 (Blk.at1 HS.out hb))
                    · exact fun aa ww hb he hd => ob_plain rfl (gives_call2 _ _ _ _ rfl (by kernel_rfl) (by rw [show aa.eval (.tmp 104) = .agg #[.slice AC n cC, .slice AA m cA, .slice AB m cB] from hd.1, show aa.eval (.tmp 106) = .slice AX kX cX from hd.2.1]; exact ret_t (sfeas_any n m kX cC cA cB cX b bx AC AA AB AX Ar ln cp A C B X _ (PrW.new HP.out (bthen HB.out hb HB.out.size)) HL.out (Rs.newW HX.out (bthen HB.out hb HB.out.size)) hn hm hb1 (by omega) HCx.out) (t_iff H0.out)))
                    · exact fun _ _ _ he hd => ob_mv rfl rfl hd.1
                    · exact fun aa ww hb he hd => ob_on 108 rfl (by kernel_rfl) hd.1 (load_prb rfl he.2.2.1 (Blk.keep HG.out hb))
                    · exact fun aa ww hb he hd => ob_on 108 rfl (by kernel_rfl) hd.1 (fld_sol rfl (by decide) he.2.1)
                    · exact fun aa ww hb he hd => ob_on 108 rfl (by kernel_rfl) hd.1 (load_c28 rfl hd.2.1 (Blk.at3 HS.out hb))
                    · exact fun aa ww hb he hd => ob_on 108 rfl (by kernel_rfl) hd.1 (gives_call2 _ _ _ _ rfl (by kernel_rfl) (by rw [show aa.eval (.tmp 109) = .agg #[.slice AC n cC, .slice AA m cA, .slice ((some ⟨g0, 0, none⟩)) m m] from hd.2.1, show aa.eval (.tmp 111) = .slice AR kR cR from hd.2.2.1]; exact ret_t (sfeas_any n m kR cC cA m cR b br AC AA (some ⟨g0, 0, none⟩) AR Ar ln cp A C (fun _ => 0) R _ (PrW.new HPC.out hb) HL.out (Rs.newW HR.out (bthen HB.out hb HB.out.size)) hn hm hb1 (by omega) HCr.out) (t_iff H1.out)))
                    · exact fun aa ww hb he hd => ob_plain rfl (gives_pick true _ _ _ rfl hd.1 ⟨hd.2.1, Below.refl _ _⟩)
                    · exact fun _ _ _ he hd => ob_mv rfl rfl hd.1
                    · exact fun aa ww hb he hd => ob_on 114 rfl (by kernel_rfl) hd.1 (fld_prb rfl (by decide) he.1)
                    · exact fun aa ww hb he hd => ob_on 114 rfl (by kernel_rfl) hd.1 (load_c28 rfl hd.2.1 (Blk.at0 HQ.out hb))
                    · exact fun aa ww hb he hd => ob_on 114 rfl (by kernel_rfl) hd.1 (fld_sol rfl (by decide) he.2.1)
                    · exact fun aa ww hb he hd => ob_on 114 rfl (by kernel_rfl) hd.1 (load_c28 rfl hd.2.1 (Blk.at3 HS.out hb))
                    · exact fun aa ww hb he hd => ob_on 114 rfl (by kernel_rfl) hd.1 (gives_call2 _ _ _ _ rfl (by kernel_rfl) (by rw [show aa.eval (.tmp 116) = .slice AC n cC from hd.2.1, show aa.eval (.tmp 118) = .slice AR kR cR from hd.2.2.1]; exact dot_any n kR cC cR b br _ _ C R _ (Rs.newW HP.out.c (bthen HB.out hb HB.out.size)) (Rs.newW HR.out (bthen HB.out hb HB.out.size)) (by omega) (by omega) (by omega) (by omega) HCr.out))
                    · exact fun aa ww hb he hd => ob_on 114 rfl (by kernel_rfl) hd.1 (gives_call1 _ _ _ rfl (by kernel_rfl) (sign_v (hd.2.1)))
                    · exact fun aa ww hb he hd => ob_on 114 rfl (by kernel_rfl) hd.1 (gives_gt_int ((sm (fun l => C l * R l) n).num.sign) 0 .i64 _ _ _ _ rfl hd.2.1 rfl ⟨congrArg Value.bool (sign_gtd.trans (decide_eq_true H2.out)), Below.refl _ _⟩)
                    · exact fun aa ww hb he hd => ob_plain rfl (gives_pick true _ _ _ rfl hd.1 ⟨hd.2.1, Below.refl _ _⟩)
                    · exact fun _ _ _ he hd => ob_mv rfl rfl hd.1
                    · exact fun aa ww hb he hd => ob_on 123 rfl (by kernel_rfl) hd.1 (fld_sol rfl (by decide) he.2.1)
                    · exact fun aa ww hb he hd => ob_on 123 rfl (by kernel_rfl) hd.1 (load_c28 rfl hd.2.1 (Blk.at2 HS.out hb))
                    · exact fun aa ww hb he hd => ob_on 123 rfl (by kernel_rfl) hd.1 (len_c Try.underlying28 rfl hd.2.1)
                    · exact fun aa ww hb he hd => ob_on 123 rfl (by kernel_rfl) hd.1 (gives_eq_int ((kY : Int)) 0 .i64 _ _ _ _ rfl hd.2.1 rfl ⟨congrArg Value.bool (keq0.trans (decide_eq_true H3.out)), Below.refl _ _⟩)
                    · exact fun aa ww hb he hd => ob_plain rfl (gives_pick true _ _ _ rfl hd.1 ⟨hd.2.1, Below.refl _ _⟩)
                    · exact fun _ _ _ he hd => ob_mv rfl rfl hd.1
                    · exact fun aa ww hb he hd => ob_on 129 rfl (by kernel_rfl) hd.1 (fld_sol rfl (by decide) he.2.1)
                    · exact fun aa ww hb he hd => ob_on 129 rfl (by kernel_rfl) hd.1 (load_sv rfl hd.2.1 (Blk.keep HS.out hb) (Rw.new HV.out (bthen HB.out hb HB.out.size)))
                    · exact fun aa ww hb he hd => ob_on 129 rfl (by kernel_rfl) hd.1 (load_bx rfl he.2.2.2.1 (Bx.new HX5.out hb))
                    · exact fun aa ww hb he hd => ob_on 129 rfl (by kernel_rfl) hd.1 (gives_call2 _ _ _ _ rfl (by kernel_rfl) (cmp_v (hd.2.1) (hd.2.2.1) (by have := HCx.out; have := HCy2.out; have := HCr.out; omega)))
                    · exact fun aa ww hb he hd => ob_on 129 rfl (by kernel_rfl) hd.1 (gives_eq_int (rcq v (((0 : Int) : Rat))) 0 .i64 _ _ _ _ rfl hd.2.1 rfl ⟨congrArg Value.bool (rcq_eqb.trans (decide_eq_true H4.out)), Below.refl _ _⟩)
                    · exact fun aa ww hb he hd => ob_plain rfl (gives_pick true _ _ _ rfl hd.1 ⟨hd.2.1, Below.refl _ _⟩)
                    · exact fun aa ww hb he hd => ob_plain rfl (gives_assign _ rfl ⟨hd.1, Below.refl _ _⟩)
                  intro vs w6 hb hR
                  have e4 : vs 32 = .bool true := hR 32 (by decide)
                  clear hR
                  simp only [putsL, Nat.zero_add, Nat.reduceAdd, List.take_succ_cons, List.take_zero, Act.put, List.setIfInBounds_toArray, List.set_cons_zero, List.set_cons_succ]
                  rw [e4]
                  clear e4
                  go_wp2_with fail
                  go_ret
                  exact ⟨true, rfl, bthen HB.out hb HB.out.size, t_iff ⟨rfl, HL.out, .inr (.inr ⟨rfl, H0.out, H1.out, H2.out, H3.out, H4.out⟩)⟩⟩
      · go_wp2_with fail
        go_ret
        exact ⟨false, rfl, HB.out, f_iff (fun h => by
          obtain ⟨-, -, h⟩ := h
          rcases h with ⟨h, -⟩ | ⟨h, -⟩ | ⟨h, -⟩
          · exact hz0 h
          · exact hz1 h
          · exact hz2 h)⟩
end Go.Proofs.Ytamcibmjpmibdaa
