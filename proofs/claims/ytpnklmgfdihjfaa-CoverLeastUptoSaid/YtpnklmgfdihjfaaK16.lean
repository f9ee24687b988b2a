/-
Contract of law29.made. Printed by gen/scv.py.
The reference of Cover: Has, Sum, Covers, Packs. Printed by gen/scv.py.
The walk of CoverChecks. Printed by gen/scv.py.
Contracts of reference functions and of slices.Equal.
Contracts of law26.Few and slices.Clone.
The reduction of a hypergraph, plainly: which step comes next, and runs of steps.
Contracts of hypergraph.absorb and hypergraph.isolate.
Contract of hypergraph.Reduce.
Contract of hypergraph.Acyclic.
Contract of hypergraph.Inside.
-/
import Derived.Test.YtpnklmgfdihjfaaK14
import Derived.Test.YtpnklmgfdihjfaaK13
import Derived.Test.YtpnklmgfdihjfaaK15
import Derived.Test.YtpnklmgfdihjfaaK6
import Derived.Test.YtpnklmgfdihjfaaK1
import Derived.Deep.LoopGhost
namespace Go.Proofs.Ytpnklmgfdihjfaa
open Go.RowKit
set_option linter.unusedVariables false
set_option linter.unusedSimpArgs false

/-- What made answers. -/
def MadeR (a bn : Nat) (xs ys : List Int) (dn : Nat) (vN : Int) (v : Value) (w : World) : Prop := ∃ (A2 : Option Addr) (c2 : Nat) (D2 : Option Addr) (d2 : Nat) (s2 : Bool) (A5 : Option Addr) (k5 c5 : Nat) (B5 : Option Addr) (m5 d5 : Nat) (A1 : Option Addr) (c1 : Nat) (D1 : Option Addr) (d1 : Nat),
  v = .tuple #[.agg #[.slice A2 a c2, .slice D2 bn d2, .bool s2, .slice A5 k5 c5, .slice B5 m5 d5], .slice A1 a c1, .slice D1 bn d1, .int .i64 (dn : Int)] ∧ Rs w w.heap.size A2 a (PW w 2 (fun j => ((inth xs j : Int) : Rat) / ((dn : Int) : Rat))) ∧ Rs w w.heap.size D2 bn (PW w 2 (fun j => ((inth ys j : Int) : Rat) / ((dn : Int) : Rat))) ∧ Rw 2 (((vN : Int) : Rat) / ((dn : Int) : Rat)) (.agg #[.bool s2, .slice A5 k5 c5, .slice B5 m5 d5]) w ∧ Xs w w.heap.size A1 a xs ∧ Xs w w.heap.size D1 bn ys
set_option maxRecDepth 100000 in
set_option maxHeartbeats 8000000 in
theorem made_any (D a bn ca cb : Nat) (AX AY : Option Addr) (xs ys : List Int) (vN : Int) (w : World) (hX : Ks .i8 128 w w.heap.size AX a xs) (hY : Ks .i8 128 w w.heap.size AY bn ys) (hD : D ≤ 255) (hv : -128 ≤ vN ∧ vN < 128) (hln : a ≤ 1100000 ∧ bn ≤ 1100000) :
    Calls Try.prog 14 #[.agg #[.int .u8 (D : Int), .slice AX a ca, .slice AY bn cb, .int .i8 vN]] w (RV w (MadeR a bn xs ys (D % 6 + 1) vN)) := by
  have HX0 := Lib.hid hX; have HY0 := Lib.hid hY; have HVn := Lib.hid hv; have HLn := Lib.hid hln; clear hX hY hv hln
  obtain ⟨dn, hdn⟩ : ∃ dn, dn = D % 6 + 1 := ⟨_, rfl⟩
  have e2 : (D : Int) % 6 + 1 = (dn : Int) := by omega
  have HDn := Lib.hid (show 1 ≤ dn ∧ dn ≤ 6 by omega)
  rw [← hdn]
  have HDe := Lib.hid hdn; clear hdn
  have e3 : ((D : Int) % 6) ≤ 5 := by omega
  have e4 : 0 ≤ ((D : Int) % 6) := by omega
  go_enter Try.func14, Try.ntmps14
  go_upto_region 1 with (fail)
  have hbw := bthen (al w (.cells #[.int .u8 (D : Int), .slice AX a ca, .slice AY bn cb, .int .i8 vN] 43)) (al _ (.cells #[.slice none 0 0, .slice none 0 0, .bool false, .slice none 0 0, .slice none 0 0] 33)) (by simp)
  have HG := Lib.hid ((Blk.new w 43 #[.int .u8 (D : Int), .slice AX a ca, .slice AY bn cb, .int .i8 vN]).keep (al _ (.cells #[.slice none 0 0, .slice none 0 0, .bool false, .slice none 0 0, .slice none 0 0] 33)))
  have H2 := Lib.hid (Blk.new (w.alloc (.cells #[.int .u8 (D : Int), .slice AX a ca, .slice AY bn cb, .int .i8 vN] 43)) 33 #[.slice none 0 0, .slice none 0 0, .bool false, .slice none 0 0, .slice none 0 0])
  rw [show (w.alloc (.cells #[.int .u8 (D : Int), .slice AX a ca, .slice AY bn cb, .int .i8 vN] 43)).heap.size = w.heap.size + 1 from by simp] at H2
  have HB := Lib.hid hbw
  clear hbw
  generalize (w.alloc (.cells #[.int .u8 (D : Int), .slice AX a ca, .slice AY bn cb, .int .i8 vN] 43)).alloc (.cells #[.slice none 0 0, .slice none 0 0, .bool false, .slice none 0 0, .slice none 0 0] 33) = w1 at *
  obtain ⟨g1, hg1⟩ : ∃ g1, g1 = w.heap.size := ⟨_, rfl⟩
  obtain ⟨g2, hg2⟩ : ∃ g2, g2 = w.heap.size + 1 := ⟨_, rfl⟩
  rw [← hg2] at H2 ⊢
  rw [← hg1] at HG ⊢
  have HGg1 := Lib.hid (show w.heap.size ≤ g1 ∧ w.heap.size ≤ g2 from by omega)
  clear hg1 hg2
  have HL0 := Lib.hid (show g1 < w1.heap.size ∧ g2 < w1.heap.size ∧ w.heap.size ≤ w1.heap.size from ⟨HG.out.lt, H2.out.lt, HB.out.size⟩)
  have x0 := Blk.at0 HG.out (Below.refl _ _)
  go_upto_region 2 with (fail)
  clear x0
  first | rw [e2] | (rw [show RowKit.wrap64 ((D : Int) % 6 + 1) = (dn : Int) from by unfold RowKit.wrap64; omega]) | skip
  clear e2 e3 e4
  go_upto_region 3 with (fail)
  have hbw := al w1 (.cells #[.slice none 0 0, .slice none 0 0, .bool false, .slice none 0 0, .slice none 0 0] 33)
  have HU := Lib.hid (Blk.new w1 33 #[.slice none 0 0, .slice none 0 0, .bool false, .slice none 0 0, .slice none 0 0])
  replace HB := Lib.hid (bthen HB.out hbw HB.out.size)
  replace HG := Lib.hid (HG.out.keep hbw)
  replace H2 := Lib.hid (H2.out.keep hbw)
  clear hbw
  generalize w1.alloc (.cells #[.slice none 0 0, .slice none 0 0, .bool false, .slice none 0 0, .slice none 0 0] 33) = w2 at *
  obtain ⟨g7, hg7⟩ : ∃ g7, g7 = w1.heap.size := ⟨_, rfl⟩
  rw [← hg7] at HU ⊢
  have HGg7 := Lib.hid (show w1.heap.size ≤ g7 from by omega)
  clear hg7
  obtain ⟨b0, hb0⟩ : ∃ b0, b0 = w2.heap.size := ⟨_, rfl⟩
  have hst : MdS w b0 g1 g2 g7 #[.int .u8 (D : Int), .slice AX a ca, .slice AY bn cb, .int .i8 vN] (.slice none 0 0) (.slice none 0 0) (.slice none 0 0) 0 [] (.slice none 0 0) 0 (fun j => ((inth xs j : Int) : Rat) / ((dn : Int) : Rat)) (.slice none 0 0) 0 [] (.slice none 0 0) 0 (fun j => ((inth ys j : Int) : Rat) / ((dn : Int) : Rat)) w2 := ⟨HG.out, H2.out, HU.out, OwnC.nil _ _ _ _, OR.nil _ _ _, OwnC.nil _ _ _ _, OR.nil _ _ _, ⟨.inl rfl, .inl rfl⟩, ⟨.inl rfl, .inl rfl⟩, HB.out, by have h1 := HG.out.lt; have h2 := H2.out.lt; have h3 := HU.out.lt; have := HL0.out; have := HGg7.out; omega, by omega⟩
  have HI := Lib.hid hst
  clear hst HG H2 HU HB hb0 HL0
  have x1 := Blk.at1 HI.out.gb (Below.refl _ _)
  go_wp2_with fail
  clear x1
  go_loopg [22, 8] a (fun g iv ov wr => ∃ (i c1 c2 : Nat) (A1 A2 : Option Addr), iv = .int .i64 i ∧ ov = .slice A1 i c1 ∧ i + g = a ∧ Hid (MdS w b0 g1 g2 g7 #[.int .u8 (D : Int), .slice AX a ca, .slice AY bn cb, .int .i8 vN] (.slice A2 i c2) (.slice none 0 0) (.slice A1 i c1) i (I64 (xs.take i)) (.slice A2 i c2) i (fun j => ((inth xs j : Int) : Rat) / ((dn : Int) : Rat)) (.slice none 0 0) 0 [] (.slice none 0 0) 0 (fun j => ((inth ys j : Int) : Rat) / ((dn : Int) : Rat)) wr))
  case atStart => exact ⟨0, 0, 0, none, none, rfl, rfl, by omega, HI⟩
  case round =>
    obtain ⟨i, c1, c2, A1, A2, rfl, rfl, hin, HJ⟩ := hrel
    clear HI
    by_cases hi : i < a
    · have i1 : ((i : Int) < (a : Int)) := by omega
      have i6 : (i : Int) ≤ 1100000 := by have := HLn.out; omega
      obtain ⟨adX, hAd, -, hcX⟩ := (HX0.out.below HJ.out.hb).at_ hi
      have hxb := (HX0.out).lt hi
      obtain ⟨xi, hxi⟩ : ∃ xi, xi = inth xs i := ⟨_, rfl⟩
      rw [← hxi] at hcX hxb
      have HXi := Lib.hid hxi; have HXb := Lib.hid hxb; clear hxi hxb
      subst hAd
      go_upto_region 7 with (fail)
      clear hcX
      refine wp_region_joins (kss := [[], [], [(1, 27)], [(2, 28)]]) [(8, .slice A1 i c1), (11, .int .i8 xi)] [EV (.slice A1 i c1), EV (.int .i8 xi), EV (.int .i64 xi), fun zz w' => ∃ g0 : Nat, zz = .slice (some ⟨g0, 0, none⟩) 1 1 ∧ Blk w' g0 3 #[.int .i64 xi]] 4 (by kernel_rfl) ⟨rfl, rfl, trivial⟩ [false, false, false, false] ?_ ?_ ?_
      · exact ⟨eI, eI, eI, fun _ _ _ ⟨g0, h1, h2⟩ hb => ⟨g0, h1, h2.keep hb⟩, trivial⟩
      · refine ⟨?_, ?_, ?_, ?_, trivial⟩
        · exact fun _ _ _ he hd => ob_mv rfl rfl he.1
        · exact fun _ _ _ he hd => ob_mv rfl rfl he.2.1
        · exact fun aa ww hb he hd => ob_plain rfl (conv_i8n HXb.out rfl hd.1)
        · exact fun aa ww hb he hd => ob_plain rfl (gives_bs_int rfl hd.1)
      intro vs w3 hb hR
      have e26 : vs 0 = .slice A1 i c1 := hR 0 (by decide)
      have r29 := hR 3 (by decide)
      clear hR
      simp only [putsL, Nat.zero_add, Nat.reduceAdd, List.take_succ_cons, List.take_zero, Act.put, List.setIfInBounds_toArray, List.set_cons_zero, List.set_cons_succ]
      rw [e26]
      clear e26
      obtain ⟨g0, e29, hz⟩ := r29
      rw [e29]
      clear e29
      replace HJ := Lib.hid (MdS.below HJ.out hb)
      clear hb
      show wpOps _ _ _ [4, 5] _ _
      refine wpOps_next rfl rfl (wp_app_int9 _ _ rfl b0 (.slice A1 i c1) i _ rfl HJ.out.w1 g0 xi rfl hz (by omega) HJ.out.sz ?_)
      intro v' w4 ho hgr hor kp
      obtain ⟨A8, c8, rfl⟩ := own_form ho.own
      show wpOps _ _ _ _ (Act.put _ (some 30) _) _
      simp only [Act.put, List.setIfInBounds_toArray, List.set_cons_zero, List.set_cons_succ]
      replace HJ := Lib.hid (HJ.out.pushW ho hgr hor kp)
      clear ho hgr hor kp hz
      refine wpOps_next rfl rfl (wp_assign 8 (.tmp 30) rfl rfl (.slice A8 (i + 1) c8) rfl ?_)
      simp only [Act.put, List.setIfInBounds_toArray, List.set_cons_zero, List.set_cons_succ]
      unfold wpOps
      go_upto_region 8 with (fail)
      refine wp_region_join (kss := [[], [(0, 31)], [], [(2, 33)], [], [(3, 34), (4, 35)], [(5, 36)]]) [(7, .pointer (some ⟨g7, 0, none⟩)), (11, .int .i8 xi), (6, .int .i64 ((dn : Int)))] [EV (.pointer (some ⟨g7, 0, none⟩)), EV (.slice A2 i c2), EV (.int .i8 xi), EV (.int .i64 xi), EV (.int .i64 ((dn : Int))), Rv (2) (((xi : Int) : Rat) / ((dn : Int) : Rat)), OneN (2) (((xi : Int) : Rat) / ((dn : Int) : Rat))] 7 [] (by kernel_rfl) (by kernel_rfl) ⟨rfl, rfl, rfl, trivial⟩ [false, false, false, false, false, false, false] ?_ ?_ ?_ ?_
      · exact fun i hi => absurd hi (by simp)
      · exact ⟨eI, eI, eI, eI, eI, fun _ _ _ h hb => h.new hb, fun _ _ _ h hb => h.new hb, trivial⟩
      · refine ⟨?_, ?_, ?_, ?_, ?_, ?_, ?_, trivial⟩
        · exact fun aa ww hb he hd => ob_plain rfl (fld_cov (k := 0) rfl (by decide) he.1)
        · exact fun aa ww hb he hd => ob_plain rfl (load_c28 rfl hd.1 (Blk.at0 HJ.out.cu hb))
        · exact fun _ _ _ he hd => ob_mv rfl rfl he.2.1
        · exact fun aa ww hb he hd => ob_plain rfl (conv_i8l HXb.out rfl hd.1)
        · exact fun _ _ _ he hd => ob_mv rfl rfl he.2.2.1
        · exact fun aa ww hb he hd => ob_plain rfl (gives_call2 _ _ _ _ rfl (by kernel_rfl) (by rw [show aa.eval (.tmp 34) = _ from hd.1, show aa.eval (.tmp 35) = _ from hd.2.1]; exact of29_any xi (dn : Int) (by have := HXb.out; omega) (by have := HDn.out; omega) (by have := HDn.out; omega) _))
        · exact fun aa ww hb he hd => ob_plain rfl (gives_one_n rfl hd.1)
      intro vs w5 hb hR _
      have r37 : OneN (2) (((xi : Int) : Rat) / ((dn : Int) : Rat)) (vs 6) w5 := hR 6 (by decide)
      have e32 : vs 1 = .slice A2 i c2 := hR 1 (by decide)
      clear hR
      simp only [putsL, Nat.zero_add, Nat.reduceAdd, List.take_succ_cons, List.take_zero, Act.put, List.setIfInBounds_toArray, List.set_cons_zero, List.set_cons_succ]
      rw [e32]
      clear e32
      obtain ⟨A7, e37, hr1⟩ := r37
      rw [e37]
      clear e37
      replace HJ := Lib.hid (MdS.below HJ.out hb)
      clear hb
      show wpAny _ _ _ _ 3 _ _ _
      refine wpAny_next (i := 7) (by kernel_rfl) rfl rfl (wp_push_rat9 _ _ rfl b0 (.slice A2 i c2) i _ rfl HJ.out.w2 w5.heap.size A7 1 _ rfl hr1 (by omega) HJ.out.sz ?_)
      intro v' w6 ho hgr hor kp
      have hO := ho (PN w6 2 (fun j => ((inth xs j : Int) : Rat) / ((dn : Int) : Rat))) (fun l u hl hv => PN.keep hv kp) (fun u hv => by have h := PN.keep (f := fun _ => ((xi : Int) : Rat) / ((dn : Int) : Rat)) (j := 0) hv kp; show Rv 2 (((inth xs i : Int) : Rat) / ((dn : Int) : Rat)) u w6; rw [← HXi.out]; exact h)
      obtain ⟨A9, c9, rfl⟩ := hO.form
      show wpAny _ _ _ _ _ _ (Act.put _ (some 38) _) _
      simp only [Act.put, List.setIfInBounds_toArray, List.set_cons_zero, List.set_cons_succ]
      replace HJ := Lib.hid (HJ.out.pushX hO hgr hor kp)
      clear ho hO hgr hor kp hr1
      refine wpAny_next (i := 8) (by kernel_rfl) rfl rfl (wp_of_gives (fld_cov (k := 0) rfl (by decide) rfl) ?_)
      rintro _ w7 ⟨rfl, hb⟩
      replace HJ := Lib.hid (MdS.below HJ.out hb)
      clear hb
      show wpAny _ _ _ _ _ _ (Act.put _ (some 39) _) _
      simp only [Act.put, List.setIfInBounds_toArray, List.set_cons_zero, List.set_cons_succ]
      refine wpAny_next (i := 9) (by kernel_rfl) rfl rfl (store_c28 rfl rfl rfl rfl (Blk.at0 HJ.out.cu (Below.refl _ _)) (HJ.out.cu.frozen 0) ?_)
      replace HJ := Lib.hid (HJ.out.set0 (x := .slice A9 (i + 1) c9) (by intro z; simp))
      generalize w7.setCell ⟨g7, 0, none⟩ (.slice A9 (i + 1) c9) = w8 at *
      refine wpAny_end (by kernel_rfl) (calm_normal ?_) _
      go_wp2_with fail
      go_roundg (gk - 1)
      case measure => omega
      case rel => exact ⟨i + 1, c8, c9, A8, A9, by go_num, rfl, by omega, by rw [I64_take (by have := HX0.out.2.1.1; omega), HXi.out.symm]; exact HJ⟩
    · obtain rfl : a = i := by omega
      have HI := Lib.hid (show MdS w b0 g1 g2 g7 #[.int .u8 (D : Int), .slice AX a ca, .slice AY bn cb, .int .i8 vN] (.slice A2 a c2) (.slice none 0 0) (.slice A1 a c1) a (I64 (xs.take a)) (.slice A2 a c2) a (fun j => ((inth xs j : Int) : Rat) / ((dn : Int) : Rat)) (.slice none 0 0) 0 (I64 (ys.take 0)) (.slice none 0 0) 0 (fun j => ((inth ys j : Int) : Rat) / ((dn : Int) : Rat)) wr from HJ.out)
      clear HJ
      have x2 := Blk.at2 HI.out.gb (Below.refl _ _)
      go_wp2_with fail
      clear x2
      go_loopg [44, 9] bn (fun g iv ov wr => ∃ (i d1 d2 : Nat) (D1 D2 : Option Addr), iv = .int .i64 i ∧ ov = .slice D1 i d1 ∧ i + g = bn ∧ Hid (MdS w b0 g1 g2 g7 #[.int .u8 (D : Int), .slice AX a ca, .slice AY bn cb, .int .i8 vN] (.slice A2 a c2) (.slice D2 i d2) (.slice A1 a c1) a (I64 (xs.take a)) (.slice A2 a c2) a (fun j => ((inth xs j : Int) : Rat) / ((dn : Int) : Rat)) (.slice D1 i d1) i (I64 (ys.take i)) (.slice D2 i d2) i (fun j => ((inth ys j : Int) : Rat) / ((dn : Int) : Rat)) wr))
      case atStart => exact ⟨0, 0, 0, none, none, rfl, rfl, by omega, HI⟩
      case round =>
        obtain ⟨i, d1, d2, D1, D2, rfl, rfl, hin, HJ⟩ := hrel
        clear HI
        by_cases hi : i < bn
        · have i1 : ((i : Int) < (bn : Int)) := by omega
          have i6 : (i : Int) ≤ 1100000 := by have := HLn.out; omega
          obtain ⟨adX, hAd, -, hcX⟩ := (HY0.out.below HJ.out.hb).at_ hi
          have hxb := (HY0.out).lt hi
          obtain ⟨xi, hxi⟩ : ∃ xi, xi = inth ys i := ⟨_, rfl⟩
          rw [← hxi] at hcX hxb
          have HXi := Lib.hid hxi; have HXb := Lib.hid hxb; clear hxi hxb
          subst hAd
          go_upto_region 13 with (fail)
          clear hcX
          refine wp_region_joins (kss := [[], [], [(1, 49)], [(2, 50)]]) [(9, .slice D1 i d1), (13, .int .i8 xi)] [EV (.slice D1 i d1), EV (.int .i8 xi), EV (.int .i64 xi), fun zz w' => ∃ g0 : Nat, zz = .slice (some ⟨g0, 0, none⟩) 1 1 ∧ Blk w' g0 3 #[.int .i64 xi]] 4 (by kernel_rfl) ⟨rfl, rfl, trivial⟩ [false, false, false, false] ?_ ?_ ?_
          · exact ⟨eI, eI, eI, fun _ _ _ ⟨g0, h1, h2⟩ hb => ⟨g0, h1, h2.keep hb⟩, trivial⟩
          · refine ⟨?_, ?_, ?_, ?_, trivial⟩
            · exact fun _ _ _ he hd => ob_mv rfl rfl he.1
            · exact fun _ _ _ he hd => ob_mv rfl rfl he.2.1
            · exact fun aa ww hb he hd => ob_plain rfl (conv_i8n HXb.out rfl hd.1)
            · exact fun aa ww hb he hd => ob_plain rfl (gives_bs_int rfl hd.1)
          intro vs w3 hb hR
          have e48 : vs 0 = .slice D1 i d1 := hR 0 (by decide)
          have r51 := hR 3 (by decide)
          clear hR
          simp only [putsL, Nat.zero_add, Nat.reduceAdd, List.take_succ_cons, List.take_zero, Act.put, List.setIfInBounds_toArray, List.set_cons_zero, List.set_cons_succ]
          rw [e48]
          clear e48
          obtain ⟨g0, e51, hz⟩ := r51
          rw [e51]
          clear e51
          replace HJ := Lib.hid (MdS.below HJ.out hb)
          clear hb
          show wpOps _ _ _ [4, 5] _ _
          refine wpOps_next rfl rfl (wp_app_int9 _ _ rfl b0 (.slice D1 i d1) i _ rfl HJ.out.p1 g0 xi rfl hz (by omega) HJ.out.sz ?_)
          intro v' w4 ho hgr hor kp
          obtain ⟨A8, c8, rfl⟩ := own_form ho.own
          show wpOps _ _ _ _ (Act.put _ (some 52) _) _
          simp only [Act.put, List.setIfInBounds_toArray, List.set_cons_zero, List.set_cons_succ]
          replace HJ := Lib.hid (HJ.out.pushP ho hgr hor kp)
          clear ho hgr hor kp hz
          refine wpOps_next rfl rfl (wp_assign 9 (.tmp 52) rfl rfl (.slice A8 (i + 1) c8) rfl ?_)
          simp only [Act.put, List.setIfInBounds_toArray, List.set_cons_zero, List.set_cons_succ]
          unfold wpOps
          go_upto_region 14 with (fail)
          refine wp_region_join (kss := [[], [(0, 53)], [], [(2, 55)], [], [(3, 56), (4, 57)], [(5, 58)]]) [(7, .pointer (some ⟨g7, 0, none⟩)), (13, .int .i8 xi), (6, .int .i64 ((dn : Int)))] [EV (.pointer (some ⟨g7, 1, none⟩)), EV (.slice D2 i d2), EV (.int .i8 xi), EV (.int .i64 xi), EV (.int .i64 ((dn : Int))), Rv (2) (((xi : Int) : Rat) / ((dn : Int) : Rat)), OneN (2) (((xi : Int) : Rat) / ((dn : Int) : Rat))] 7 [] (by kernel_rfl) (by kernel_rfl) ⟨rfl, rfl, rfl, trivial⟩ [false, false, false, false, false, false, false] ?_ ?_ ?_ ?_
          · exact fun i hi => absurd hi (by simp)
          · exact ⟨eI, eI, eI, eI, eI, fun _ _ _ h hb => h.new hb, fun _ _ _ h hb => h.new hb, trivial⟩
          · refine ⟨?_, ?_, ?_, ?_, ?_, ?_, ?_, trivial⟩
            · exact fun aa ww hb he hd => ob_plain rfl (fld_cov (k := 1) rfl (by decide) he.1)
            · exact fun aa ww hb he hd => ob_plain rfl (load_c28 rfl hd.1 (Blk.at1 HJ.out.cu hb))
            · exact fun _ _ _ he hd => ob_mv rfl rfl he.2.1
            · exact fun aa ww hb he hd => ob_plain rfl (conv_i8l HXb.out rfl hd.1)
            · exact fun _ _ _ he hd => ob_mv rfl rfl he.2.2.1
            · exact fun aa ww hb he hd => ob_plain rfl (gives_call2 _ _ _ _ rfl (by kernel_rfl) (by rw [show aa.eval (.tmp 56) = _ from hd.1, show aa.eval (.tmp 57) = _ from hd.2.1]; exact of29_any xi (dn : Int) (by have := HXb.out; omega) (by have := HDn.out; omega) (by have := HDn.out; omega) _))
            · exact fun aa ww hb he hd => ob_plain rfl (gives_one_n rfl hd.1)
          intro vs w5 hb hR _
          have r59 : OneN (2) (((xi : Int) : Rat) / ((dn : Int) : Rat)) (vs 6) w5 := hR 6 (by decide)
          have e54 : vs 1 = .slice D2 i d2 := hR 1 (by decide)
          clear hR
          simp only [putsL, Nat.zero_add, Nat.reduceAdd, List.take_succ_cons, List.take_zero, Act.put, List.setIfInBounds_toArray, List.set_cons_zero, List.set_cons_succ]
          rw [e54]
          clear e54
          obtain ⟨A7, e59, hr1⟩ := r59
          rw [e59]
          clear e59
          replace HJ := Lib.hid (MdS.below HJ.out hb)
          clear hb
          show wpAny _ _ _ _ 3 _ _ _
          refine wpAny_next (i := 7) (by kernel_rfl) rfl rfl (wp_push_rat9 _ _ rfl b0 (.slice D2 i d2) i _ rfl HJ.out.p2 w5.heap.size A7 1 _ rfl hr1 (by omega) HJ.out.sz ?_)
          intro v' w6 ho hgr hor kp
          have hO := ho (PN w6 2 (fun j => ((inth ys j : Int) : Rat) / ((dn : Int) : Rat))) (fun l u hl hv => PN.keep hv kp) (fun u hv => by have h := PN.keep (f := fun _ => ((xi : Int) : Rat) / ((dn : Int) : Rat)) (j := 0) hv kp; show Rv 2 (((inth ys i : Int) : Rat) / ((dn : Int) : Rat)) u w6; rw [← HXi.out]; exact h)
          obtain ⟨A9, c9, rfl⟩ := hO.form
          show wpAny _ _ _ _ _ _ (Act.put _ (some 60) _) _
          simp only [Act.put, List.setIfInBounds_toArray, List.set_cons_zero, List.set_cons_succ]
          replace HJ := Lib.hid (HJ.out.pushY hO hgr hor kp)
          clear ho hO hgr hor kp hr1
          refine wpAny_next (i := 8) (by kernel_rfl) rfl rfl (wp_of_gives (fld_cov (k := 1) rfl (by decide) rfl) ?_)
          rintro _ w7 ⟨rfl, hb⟩
          replace HJ := Lib.hid (MdS.below HJ.out hb)
          clear hb
          show wpAny _ _ _ _ _ _ (Act.put _ (some 61) _) _
          simp only [Act.put, List.setIfInBounds_toArray, List.set_cons_zero, List.set_cons_succ]
          refine wpAny_next (i := 9) (by kernel_rfl) rfl rfl (store_c28 rfl rfl rfl rfl (Blk.at1 HJ.out.cu (Below.refl _ _)) (HJ.out.cu.frozen 1) ?_)
          replace HJ := Lib.hid (HJ.out.set1 (x := .slice A9 (i + 1) c9) (by intro z; simp))
          generalize w7.setCell ⟨g7, 1, none⟩ (.slice A9 (i + 1) c9) = w8 at *
          refine wpAny_end (by kernel_rfl) (calm_normal ?_) _
          go_wp2_with fail
          go_roundg (gk - 1)
          case measure => omega
          case rel => exact ⟨i + 1, c8, c9, A8, A9, by go_num, rfl, by omega, by rw [I64_take (by have := HY0.out.2.1.1; omega), HXi.out.symm]; exact HJ⟩
        · obtain rfl : bn = i := by omega
          go_upto_region 16 with (fail)
          refine wp_region_joins (kss := [[], [(0, 63)], [(1, 64)], [], [(2, 65), (3, 66)], []]) [(1, .pointer (some ⟨g1, 0, none⟩)), (6, .int .i64 ((dn : Int))), (7, .pointer (some ⟨g7, 0, none⟩))] [EV (.pointer (some ⟨g1, 3, none⟩)), EV (.int .i8 vN), EV (.int .i64 vN), EV (.int .i64 ((dn : Int))), Rv (2) (((vN : Int) : Rat) / ((dn : Int) : Rat)), EV (.pointer (some ⟨g7, 2, none⟩))] 6 (by kernel_rfl) ⟨rfl, rfl, rfl, trivial⟩ [false, false, false, false, false, false] ?_ ?_ ?_
          · exact ⟨eI, eI, eI, eI, fun _ _ _ h hb => h.new hb, eI, trivial⟩
          · refine ⟨?_, ?_, ?_, ?_, ?_, ?_, trivial⟩
            · exact fun aa ww hb he hd => ob_plain rfl (fld_gus (k := 3) rfl (by decide) he.1)
            · exact fun aa ww hb he hd => ob_plain rfl (load_i8n rfl hd.1 (Blk.at3 HJ.out.gb hb))
            · exact fun aa ww hb he hd => ob_plain rfl (conv_i8l HVn.out rfl hd.1)
            · exact fun _ _ _ he hd => ob_mv rfl rfl he.2.1
            · exact fun aa ww hb he hd => ob_plain rfl (gives_call2 _ _ _ _ rfl (by kernel_rfl) (by rw [show aa.eval (.tmp 65) = _ from hd.1, show aa.eval (.tmp 66) = _ from hd.2.1]; exact of29_any vN (dn : Int) (by have := HVn.out; omega) (by have := HDn.out; omega) (by have := HDn.out; omega) _))
            · exact fun aa ww hb he hd => ob_plain rfl (fld_cov (k := 2) rfl (by decide) he.2.2.1)
          intro vs w3 hb hR
          have r67 : Rv (2) (((vN : Int) : Rat) / ((dn : Int) : Rat)) (vs 4) w3 := hR 4 (by decide)
          have e68 : vs 5 = .pointer (some ⟨g7, 2, none⟩) := hR 5 (by decide)
          clear hR
          simp only [putsL, Nat.zero_add, Nat.reduceAdd, List.take_succ_cons, List.take_zero, Act.put, List.setIfInBounds_toArray, List.set_cons_zero, List.set_cons_succ]
          rw [e68]
          clear e68
          have HV := Lib.hid r67
          obtain ⟨s2, A5, k5, c5, B5, m5, d5, e67, -⟩ := r67
          rw [e67] at HV ⊢
          clear e67
          replace HJ := Lib.hid (MdS.below HJ.out hb)
          clear hb
          show wpOps _ _ _ [6] _ _
          refine wpOps_next rfl rfl (store_cv2 rfl rfl rfl rfl HJ.out.cu (by simp) (by simp [Value.oneCell']) ?_)
          intro w4 kp hg hsz hC
          have hl := HJ.out.lo
          have HC := Lib.hid hC; have HVv := Lib.hid (HV.out.keepN kp)
          have HW1 := Lib.hid (HJ.out.w1.blk HJ.out.cu (by decide) hg); have HW2 := Lib.hid (HJ.out.w2.blk HJ.out.cu (by decide) hg (fun _ _ _ hv => PN.keep hv kp)); have HP1 := Lib.hid (HJ.out.p1.blk HJ.out.cu (by decide) hg); have HP2 := Lib.hid (HJ.out.p2.blk HJ.out.cu (by decide) hg (fun _ _ _ hv => PN.keep hv kp))
          have HRs := Lib.hid (HJ.out.rs.grown hg (fun e => by injection e with e; omega))
          have HBf := Lib.hid (HJ.out.hb.grown hg HJ.out.hb.size (fun k e => by cases e; omega))
          have HL2 := Lib.hid (show w.heap.size ≤ g2 from HGg1.out.2)
          clear kp hg hsz hC HJ HV hl
          unfold wpOps
          go_upto_region 17 with (fail)
          refine wp_region_joins (kss := [[], [], [], []]) [(7, .pointer (some ⟨g7, 0, none⟩)), (8, .slice A1 a c1), (9, .slice D1 bn d1), (6, .int .i64 ((dn : Int)))] [EV (.agg #[.slice A2 a c2, .slice D2 bn d2, .bool s2, .slice A5 k5 c5, .slice B5 m5 d5]), EV (.slice A1 a c1), EV (.slice D1 bn d1), EV (.int .i64 ((dn : Int)))] 4 (by kernel_rfl) ⟨rfl, rfl, rfl, rfl, trivial⟩ [false, false, false, false] ?_ ?_ ?_
          · exact ⟨eI, eI, eI, eI, trivial⟩
          · refine ⟨?_, ?_, ?_, ?_, trivial⟩
            · exact fun aa ww hb he hd => ob_plain rfl (load_cov rfl he.1 (Blk.keep HC.out hb))
            · exact fun _ _ _ he hd => ob_mv rfl rfl he.2.1
            · exact fun _ _ _ he hd => ob_mv rfl rfl he.2.2.1
            · exact fun _ _ _ he hd => ob_mv rfl rfl he.2.2.2.1
          intro vs w5 hb hR
          have e69 : vs 0 = .agg #[.slice A2 a c2, .slice D2 bn d2, .bool s2, .slice A5 k5 c5, .slice B5 m5 d5] := hR 0 (by decide)
          have e70 : vs 1 = .slice A1 a c1 := hR 1 (by decide)
          have e71 : vs 2 = .slice D1 bn d1 := hR 2 (by decide)
          have e72 : vs 3 = .int .i64 ((dn : Int)) := hR 3 (by decide)
          clear hR
          simp only [putsL, Nat.zero_add, Nat.reduceAdd, List.take_succ_cons, List.take_zero, Act.put, List.setIfInBounds_toArray, List.set_cons_zero, List.set_cons_succ]
          rw [e69, e70, e71, e72]
          clear e69 e70 e71 e72
          replace HC := Lib.hid (HC.out.keep hb)
          replace HVv := Lib.hid (HVv.out.new hb)
          replace HW1 := Lib.hid (HW1.out.below hb)
          replace HW2 := Lib.hid (HW2.out.newN hb)
          replace HP1 := Lib.hid (HP1.out.below hb)
          replace HP2 := Lib.hid (HP2.out.newN hb)
          replace HRs := Lib.hid (HRs.out.keep hb)
          replace HBf := Lib.hid (bthen HBf.out hb HBf.out.size)
          clear hb
          show wpOps _ _ _ [4, 5, 6, 7] _ _
          refine wpOps_next rfl rfl (store_cov rfl rfl rfl rfl HRs.out (by simp) (by simp [Value.oneCell']) ?_)
          intro w6 kp hg hsz hX
          have HXa := Lib.hid hX
          replace HVv := Lib.hid (HVv.out.keepN kp)
          replace HW1 := Lib.hid (HW1.out.blk HRs.out (by decide) hg); replace HW2 := Lib.hid (HW2.out.blk HRs.out (by decide) hg (fun _ _ _ hv => PN.keep hv kp)); replace HP1 := Lib.hid (HP1.out.blk HRs.out (by decide) hg); replace HP2 := Lib.hid (HP2.out.blk HRs.out (by decide) hg (fun _ _ _ hv => PN.keep hv kp))
          replace HBf := Lib.hid (HBf.out.grown hg HBf.out.size (fun k e => by cases e; exact HL2.out))
          clear kp hg hsz hX HRs HC
          refine wpOps_next rfl rfl (wp_assign 3 (.tmp 70) rfl rfl (.slice A1 a c1) rfl ?_)
          simp only [Act.put, List.setIfInBounds_toArray, List.set_cons_zero, List.set_cons_succ]
          refine wpOps_next rfl rfl (wp_assign 4 (.tmp 71) rfl rfl (.slice D1 bn d1) rfl ?_)
          simp only [Act.put, List.setIfInBounds_toArray, List.set_cons_zero, List.set_cons_succ]
          refine wpOps_next rfl rfl (wp_assign 5 (.tmp 72) rfl rfl (.int .i64 (dn : Int)) rfl ?_)
          simp only [Act.put, List.setIfInBounds_toArray, List.set_cons_zero, List.set_cons_succ]
          unfold wpOps
          go_wp2_with fail
          refine bodyPost_ret (v := .tuple #[.agg #[.slice A2 a c2, .slice D2 bn d2, .bool s2, .slice A5 k5 c5, .slice B5 m5 d5], .slice A1 a c1, .slice D1 bn d1, .int .i64 (dn : Int)]) (results_cell_tmp3 Try.results14 _ _ _ _ _ (0, 0) _ rfl HXa.out Try.underlying33 rfl rfl) rfl ?_
          have ex : xs.take a = xs := List.take_of_length_le (by have := HX0.out.2.1.1; omega)
          have ey : ys.take bn = ys := List.take_of_length_le (by have := HY0.out.2.1.1; omega)
          have o1 := HW1.out.own; have o2 := HP1.out.own
          rw [ex] at o1; rw [ey] at o2
          obtain ⟨A1a, c1a, q1, hx1⟩ := Xs.of_own o1 (fun x hx => by have := HX0.out.2.2 x hx; omega)
          obtain ⟨D1a, d1a, q2, hy1⟩ := Xs.of_own o2 (fun x hx => by have := HY0.out.2.2 x hx; omega)
          cases q1; cases q2
          exact ⟨_, rfl, ⟨A2, c2, D2, d2, s2, A5, k5, c5, B5, m5, d5, _, _, _, _, rfl, HW2.out.rs.toW, HP2.out.rs.toW, HVv.out.rw, hx1, hy1⟩, HBf.out⟩
end Go.Proofs.Ytpnklmgfdihjfaa
namespace Go.Proofs.Ytpnklmgfdihjfaa
open Go.RowKit
set_option linter.unusedVariables false
set_option linter.unusedSimpArgs false

theorem isum_bd {f : Nat → Int} : ∀ {n : Nat}, (∀ j, j < n → -128 ≤ f j ∧ f j ≤ 128) → -128 * (n : Int) ≤ isum f n ∧ isum f n ≤ 128 * (n : Int)
  | 0, _ => ⟨by show _ ≤ (0 : Int); omega, by show (0 : Int) ≤ _; omega⟩
  | n + 1, h => by
    have h1 := isum_bd (f := f) (n := n) fun j hj => h j (by omega)
    have h2 := h n (by omega)
    show _ ≤ isum f n + f n ∧ isum f n + f n ≤ _
    omega
theorem if_bd {c : Bool} {z : Int} (h : -128 ≤ z ∧ z < 128) : -128 ≤ (if c then z else 0) ∧ (if c then z else 0) ≤ 128 := by
  cases c
  · exact ⟨by show -128 ≤ (0 : Int); omega, by show (0 : Int) ≤ 128; omega⟩
  · exact ⟨h.1, by show z ≤ 128; omega⟩
set_option maxRecDepth 100000 in
set_option maxHeartbeats 8000000 in
theorem has9_any (s v : Nat) (hs : s < 4294967296) (hv : v < 32) (w : World) : Calls Try.prog 48 #[.int .u32 (s : Int), .int .i64 (v : Int)] w (fun e w' => e = .returned (.bool (s.testBit v)) ∧ w' = w) := by
  have hbit := bit_of_div s v
  have i0 : (0 : Int) ≤ (v : Int) := by omega
  have i32 : (v : Int) < 32 := by omega
  go_enter Try.func48, Try.ntmps48
  go_wp2_with fail
  go_ret
  exact ⟨by first | rw [hbit] | rfl, rfl⟩
set_option maxRecDepth 100000 in
set_option maxHeartbeats 8000000 in
theorem sum9_any (a c : Nat) (A : Option Addr) (ws : List Int) (w : World) (hX : Xs w w.heap.size A a ws) (ha : a ≤ 1000) (hws : ∀ j, j < a → -128 ≤ inth ws j ∧ inth ws j < 128) : Calls Try.prog 24 #[.slice A a c] w (fun e w' => e = .returned (.int .i64 (isum (inth ws) a)) ∧ w' = w) := by
  have HX := Lib.hid hX; have HW := Lib.hid hws; clear hX hws
  go_enter Try.func24, Try.ntmps24
  go_wp2_with fail
  go_loopg [4, 3] a (fun g iv sv wr => ∃ i : Nat, iv = .int .i64 i ∧ sv = .int .i64 (isum (inth ws) i) ∧ i + g = a ∧ w = wr)
  case atStart => exact ⟨0, rfl, rfl, by omega, rfl⟩
  case round =>
    obtain ⟨i, rfl, rfl, hia, rfl⟩ := hrel
    by_cases hi : i < a
    · have i1 : ((i : Int) < (a : Int)) := by omega
      obtain ⟨ad, rfl, -, hc⟩ := HX.out.at_ hi
      have hw := HW.out i hi
      have hb := isum_bd (f := inth ws) (n := i) (fun j hj => by have := HW.out j (by omega); omega)
      obtain ⟨z, hz⟩ : ∃ z, z = inth ws i := ⟨_, rfl⟩
      obtain ⟨y, hy⟩ : ∃ y, y = isum (inth ws) i := ⟨_, rfl⟩
      have HZ := Lib.hid (And.intro hz hy)
      rw [← hz] at hc hw
      rw [← hy] at hb ⊢
      clear hz hy
      go_wp2_with fail
      go_roundg (gk - 1)
      case measure => omega
      case rel => exact ⟨i + 1, by go_num, by rw [show isum (inth ws) (i + 1) = y + z from by rw [HZ.out.1, HZ.out.2]; rfl]; try go_num, by omega, rfl⟩
    · obtain rfl : a = i := by omega
      go_wp2_with fail
      go_ret
      exact ⟨rfl, rfl⟩
/-- What Covers answers. -/
def CvsV (nn len a : Nat) (es : List Nat) (s : Nat) (ws : List Int) (dn : Nat) (v : Value) : Prop := ∃ t : Bool, v = .bool t ∧ (t = true ↔ a = len ∧ CvI nn len (nth es) s (inth ws) dn)
set_option maxRecDepth 100000 in
set_option maxHeartbeats 8000000 in
theorem covers9_any (nn len a s dn ce c : Nat) (AE A : Option Addr) (es : List Nat) (ws : List Int) (w : World) (hE : Es w w.heap.size AE len es) (hX : Xs w w.heap.size A a ws) (hs : s < 4294967296) (hn : nn ≤ 6) (hl : len ≤ 100 ∧ a ≤ 100) (hd : dn ≤ 1000) (hws : ∀ j, j < a → -128 ≤ inth ws j ∧ inth ws j < 128) :
    Calls Try.prog 22 #[.int .i64 (nn : Int), .slice AE len ce, .int .u32 (s : Int), .slice A a c, .int .i64 (dn : Int)] w (RV w (fun v _ => CvsV nn len a es s ws dn v)) := by
  have HE := Lib.hid hE; have HX := Lib.hid hX; have HW := Lib.hid hws; have HS := Lib.hid hs; clear hE hX hws hs
  go_enter Try.func22, Try.ntmps22
  by_cases hal : a = len
  rotate_left
  · have t0 : ((a : Int) != (len : Int)) = true := by simp; omega
    go_wp2_with fail
    go_ret
    exact ⟨_, rfl, ⟨false, rfl, ⟨fun h => absurd h (by decide), fun h => absurd h.1 hal⟩⟩, Below.refl _ _⟩
  obtain rfl : len = a := hal.symm
  clear hal
  go_wp2_with fail
  go_loopg [11] len (fun g iv wr => ∃ i : Nat, iv = .int .i64 i ∧ i + g = len ∧ w = wr ∧ Hid (∀ j, j < i → 0 ≤ inth ws j))
  case atStart => exact ⟨0, rfl, by omega, rfl, Lib.hid (fun j hj => absurd hj (by omega))⟩
  case round =>
    obtain ⟨i, rfl, hil, rfl, HP⟩ := hrel
    by_cases hi : i < len
    · have i1 : ((i : Int) < (len : Int)) := by omega
      obtain ⟨ad, rfl, -, hc⟩ := HX.out.at_ hi
      obtain ⟨z, hz⟩ : ∃ z, z = inth ws i := ⟨_, rfl⟩
      rw [← hz] at hc
      have HZ := Lib.hid hz; clear hz
      by_cases hn : z < 0
      · skip
        go_wp2_with fail
        go_ret
        exact ⟨_, rfl, ⟨false, rfl, ⟨fun h => absurd h (by decide), fun h => absurd (h.2.1 i hi) (by rw [← HZ.out]; omega)⟩⟩, Below.refl _ _⟩
      go_wp2_with fail
      go_roundg (gk - 1)
      case measure => omega
      case rel => exact ⟨i + 1, by go_num, by omega, rfl, Lib.hid (fun j hj => by
        by_cases e : j = i
        · subst e; rw [← HZ.out]; omega
        · exact HP.out j (by omega))⟩
    · obtain rfl : len = i := by omega
      go_wp2_with fail
      go_loopg [12] nn (fun g iv wr => ∃ v : Nat, iv = .int .i64 v ∧ v + g = nn ∧ w = wr ∧ Hid (∀ y, y < v → s.testBit y = true → (dn : Int) ≤ isum (fun i => if (nth es i).testBit y then inth ws i else 0) len))
      case atStart => exact ⟨0, rfl, by omega, rfl, Lib.hid (fun j hj => absurd hj (by omega))⟩
      case round =>
        obtain ⟨v, rfl, hvn, rfl, HQ⟩ := hrel
        obtain ⟨G, hG⟩ : ∃ G, G = gk := ⟨_, rfl⟩
        subst hG
        by_cases hv : v < nn
        · have i1 : ((v : Int) < (nn : Int)) := by omega
          go_wp2_with fail
          go_loopg [14, 13] len (fun g iv sv wr => ∃ i : Nat, iv = .int .i64 i ∧ sv = .int .i64 (isum (fun i => if (nth es i).testBit v then inth ws i else 0) i) ∧ i + g = len ∧ w = wr)
          case atStart => exact ⟨0, rfl, rfl, by omega, rfl⟩
          case round =>
            obtain ⟨i, rfl, rfl, hil, rfl⟩ := hrel
            obtain ⟨y, hy⟩ : ∃ y, y = isum (fun i => if (nth es i).testBit v then inth ws i else 0) i := ⟨_, rfl⟩
            have hb := isum_bd (f := (fun i => if (nth es i).testBit v then inth ws i else 0)) (n := i) (fun j hj => if_bd (HW.out j (by omega)))
            rw [← hy] at hb ⊢
            have HY := Lib.hid hy; clear hy
            by_cases hi : i < len
            · have i2 : ((i : Int) < (len : Int)) := by omega
              obtain ⟨adE, rfl, -, hcE⟩ := HE.out.at_ hi
              have he := HE.out.lt hi
              obtain ⟨e, hee⟩ : ∃ e, e = nth es i := ⟨_, rfl⟩
              rw [← hee] at hcE he
              have HEe := Lib.hid hee; clear hee
              go_wp2_with fail
              refine (has9_any e v he (by omega) _).mono ?_
              rintro e w2 ⟨rfl, rfl⟩
              clear hcE
              cases hbt : e.testBit v with
              | false =>
                go_wp2_with fail
                go_roundg (gk - 1)
                case measure => omega
                case rel => exact ⟨i + 1, by go_num, by rw [show isum (fun i => if (nth es i).testBit v then inth ws i else 0) (i + 1) = y from by rw [HY.out]; show _ + (if (nth es i).testBit v then inth ws i else 0) = _; rw [← HEe.out, hbt]; simp], by omega, rfl⟩
              | true =>
                obtain ⟨ad, rfl, -, hc⟩ := HX.out.at_ hi
                have hw := HW.out i hi
                obtain ⟨z, hz⟩ : ∃ z, z = inth ws i := ⟨_, rfl⟩
                rw [← hz] at hc hw
                have HZ := Lib.hid hz; clear hz
                go_wp2_with fail
                go_roundg (gk - 1)
                case measure => omega
                case rel => exact ⟨i + 1, by go_num, by rw [show isum (fun i => if (nth es i).testBit v then inth ws i else 0) (i + 1) = y + z from by rw [HY.out, HZ.out]; show _ + (if (nth es i).testBit v then inth ws i else 0) = _; rw [← HEe.out, hbt]; rfl]; try go_num, by omega, rfl⟩
            · obtain rfl : len = i := by omega
              go_wp2_with fail
              refine (has9_any s v HS.out (by omega) _).mono ?_
              rintro e w2 ⟨rfl, rfl⟩
              cases hbt : s.testBit v with
              | false =>
                go_wp2_with fail
                go_roundg (G - 1)
                case measure => omega
                case rel => exact ⟨v + 1, by go_num, by omega, rfl, Lib.hid (fun q hq hb => by
                  by_cases e : q = v
                  · subst e; rw [hbt] at hb; exact absurd hb (by decide)
                  · exact HQ.out q (by omega) hb)⟩
              | true =>
                by_cases hlt : y < (dn : Int)
                · skip
                  go_wp2_with fail
                  go_ret
                  exact ⟨_, rfl, ⟨false, rfl, ⟨fun h => absurd h (by decide), fun h => absurd (h.2.2 v hv hbt) (by rw [← HY.out]; omega)⟩⟩, Below.refl _ _⟩
                go_wp2_with fail
                go_roundg (G - 1)
                case measure => omega
                case rel => exact ⟨v + 1, by go_num, by omega, rfl, Lib.hid (fun q hq hb => by
                  by_cases e : q = v
                  · subst e; rw [← HY.out]; omega
                  · exact HQ.out q (by omega) hb)⟩
        · obtain rfl : nn = v := by omega
          go_wp2_with fail
          go_ret
          exact ⟨_, rfl, ⟨true, rfl, ⟨fun _ => ⟨rfl, HP.out, HQ.out⟩, fun _ => rfl⟩⟩, Below.refl _ _⟩
/-- What Packs answers. -/
def PksV (nn len a : Nat) (es : List Nat) (s : Nat) (ws : List Int) (dn : Nat) (v : Value) : Prop := ∃ t : Bool, v = .bool t ∧ (t = true ↔ a = nn ∧ PkI nn len (nth es) s (inth ws) dn)
set_option maxRecDepth 100000 in
set_option maxHeartbeats 8000000 in
theorem packs9_any (nn len a s dn ce c : Nat) (AE A : Option Addr) (es : List Nat) (ws : List Int) (w : World) (hE : Es w w.heap.size AE len es) (hX : Xs w w.heap.size A a ws) (hs : s < 4294967296) (hn : nn ≤ 6) (hl : len ≤ 100 ∧ a ≤ 100) (hd : dn ≤ 1000) (hws : ∀ j, j < a → -128 ≤ inth ws j ∧ inth ws j < 128) :
    Calls Try.prog 25 #[.int .i64 (nn : Int), .slice AE len ce, .int .u32 (s : Int), .slice A a c, .int .i64 (dn : Int)] w (RV w (fun v _ => PksV nn len a es s ws dn v)) := by
  have HE := Lib.hid hE; have HX := Lib.hid hX; have HW := Lib.hid hws; have HS := Lib.hid hs; clear hE hX hws hs
  go_enter Try.func25, Try.ntmps25
  by_cases hal : a = nn
  rotate_left
  · have t0 : ((a : Int) != (nn : Int)) = true := by simp; omega
    go_wp2_with fail
    go_ret
    exact ⟨_, rfl, ⟨false, rfl, ⟨fun h => absurd h (by decide), fun h => absurd h.1 hal⟩⟩, Below.refl _ _⟩
  obtain rfl : nn = a := hal.symm
  clear hal
  go_wp2_with fail
  go_loopg [11] nn (fun g iv wr => ∃ v : Nat, iv = .int .i64 v ∧ v + g = nn ∧ w = wr ∧ Hid (∀ x, x < v → 0 ≤ inth ws x ∧ (s.testBit x = false → inth ws x = 0)))
  case atStart => exact ⟨0, rfl, by omega, rfl, Lib.hid (fun j hj => absurd hj (by omega))⟩
  case round =>
    obtain ⟨v, rfl, hvn, rfl, HP⟩ := hrel
    by_cases hi : v < nn
    · have i1 : ((v : Int) < (nn : Int)) := by omega
      obtain ⟨ad, rfl, -, hc⟩ := HX.out.at_ hi
      obtain ⟨z, hz⟩ : ∃ z, z = inth ws v := ⟨_, rfl⟩
      rw [← hz] at hc
      have HZ := Lib.hid hz; clear hz
      by_cases hn0 : z < 0
      · skip
        go_wp2_with fail
        go_ret
        exact ⟨_, rfl, ⟨false, rfl, ⟨fun h => absurd h (by decide), fun h => absurd ((h.2.1 v hi).1) (by rw [← HZ.out]; omega)⟩⟩, Below.refl _ _⟩
      go_wp2_with fail
      refine (has9_any s v HS.out (by omega) _).mono ?_
      rintro e w2 ⟨rfl, rfl⟩
      cases hbt : s.testBit v with
      | true =>
        go_wp2_with fail
        go_roundg (gk - 1)
        case measure => omega
        case rel => exact ⟨v + 1, by go_num, by omega, rfl, Lib.hid (fun q hq => by
          by_cases e : q = v
          · subst e; rw [← HZ.out]; exact ⟨by omega, fun h => by rw [hbt] at h; exact absurd h (by decide)⟩
          · exact HP.out q (by omega))⟩
      | false =>
        by_cases hz0 : z = 0
        rotate_left
        · have t0 : (z != 0) = true := by simpa using hz0
          go_wp2_with fail
          go_ret
          exact ⟨_, rfl, ⟨false, rfl, ⟨fun h => absurd h (by decide), fun h => absurd ((h.2.1 v hi).2 hbt) (by rw [← HZ.out]; exact hz0)⟩⟩, Below.refl _ _⟩
        subst hz0
        go_wp2_with fail
        go_roundg (gk - 1)
        case measure => omega
        case rel => exact ⟨v + 1, by go_num, by omega, rfl, Lib.hid (fun q hq => by
          by_cases e : q = v
          · subst e; rw [← HZ.out]; exact ⟨by omega, fun _ => rfl⟩
          · exact HP.out q (by omega))⟩
    · obtain rfl : nn = v := by omega
      go_wp2_with fail
      go_loopg [12] len (fun g iv wr => ∃ i : Nat, iv = .int .i64 i ∧ i + g = len ∧ w = wr ∧ Hid (∀ y, y < i → isum (fun x => if (nth es y).testBit x then inth ws x else 0) nn ≤ (dn : Int)))
      case atStart => exact ⟨0, rfl, by omega, rfl, Lib.hid (fun j hj => absurd hj (by omega))⟩
      case round =>
        obtain ⟨i, rfl, hil, rfl, HQ⟩ := hrel
        obtain ⟨G, hG⟩ : ∃ G, G = gk := ⟨_, rfl⟩
        subst hG
        by_cases hi : i < len
        · have i1 : ((i : Int) < (len : Int)) := by omega
          obtain ⟨adE, rfl, -, hcE⟩ := HE.out.at_ hi
          have he := HE.out.lt hi
          obtain ⟨e, hee⟩ : ∃ e, e = nth es i := ⟨_, rfl⟩
          rw [← hee] at hcE he
          have HEe := Lib.hid hee; clear hee
          go_wp2_with fail
          go_loopg [14, 13] nn (fun g iv sv wr => ∃ v : Nat, iv = .int .i64 v ∧ sv = .int .i64 (isum (fun x => if e.testBit x then inth ws x else 0) v) ∧ v + g = nn ∧ w = wr)
          case atStart => exact ⟨0, rfl, rfl, by omega, rfl⟩
          case round =>
            obtain ⟨v, rfl, rfl, hvn, rfl⟩ := hrel
            obtain ⟨y, hy⟩ : ∃ y, y = isum (fun x => if e.testBit x then inth ws x else 0) v := ⟨_, rfl⟩
            have hb := isum_bd (f := (fun x => if e.testBit x then inth ws x else 0)) (n := v) (fun j hj => if_bd (HW.out j (by omega)))
            rw [← hy] at hb ⊢
            have HY := Lib.hid hy; clear hy
            by_cases hv : v < nn
            · have i2 : ((v : Int) < (nn : Int)) := by omega
              go_wp2_with fail
              refine (has9_any e v he (by omega) _).mono ?_
              rintro e w2 ⟨rfl, rfl⟩
              cases hbt : e.testBit v with
              | false =>
                go_wp2_with fail
                go_roundg (gk - 1)
                case measure => omega
                case rel => exact ⟨v + 1, by go_num, by rw [show isum (fun x => if e.testBit x then inth ws x else 0) (v + 1) = y from by rw [HY.out]; show _ + (if e.testBit v then inth ws v else 0) = _; rw [hbt]; simp], by omega, rfl⟩
              | true =>
                obtain ⟨ad, rfl, -, hc⟩ := HX.out.at_ hv
                have hw := HW.out v hv
                obtain ⟨z, hz⟩ : ∃ z, z = inth ws v := ⟨_, rfl⟩
                rw [← hz] at hc hw
                have HZ := Lib.hid hz; clear hz
                go_wp2_with fail
                go_roundg (gk - 1)
                case measure => omega
                case rel => exact ⟨v + 1, by go_num, by rw [show isum (fun x => if e.testBit x then inth ws x else 0) (v + 1) = y + z from by rw [HY.out, HZ.out]; show _ + (if e.testBit v then inth ws v else 0) = _; rw [hbt]; rfl]; try go_num, by omega, rfl⟩
            · obtain rfl : nn = v := by omega
              by_cases hgt : y > (dn : Int)
              · skip
                go_wp2_with fail
                go_ret
                exact ⟨_, rfl, ⟨false, rfl, ⟨fun h => absurd h (by decide), fun h => absurd (h.2.2 i hi) (by rw [← HEe.out, ← HY.out]; omega)⟩⟩, Below.refl _ _⟩
              clear hcE
              go_wp2_with fail
              go_roundg (G - 1)
              case measure => omega
              case rel => exact ⟨i + 1, by go_num, by omega, rfl, Lib.hid (fun q hq => by
                by_cases e9 : q = i
                · subst e9; rw [← HEe.out, ← HY.out]; omega
                · exact HQ.out q (by omega))⟩
        · obtain rfl : len = i := by omega
          go_wp2_with fail
          go_ret
          exact ⟨_, rfl, ⟨true, rfl, ⟨fun _ => ⟨rfl, HP.out, HQ.out⟩, fun _ => rfl⟩⟩, Below.refl _ _⟩
end Go.Proofs.Ytpnklmgfdihjfaa
namespace Go.Proofs.Ytpnklmgfdihjfaa
open Go.RowKit
set_option linter.unusedVariables false
set_option linter.unusedSimpArgs false

theorem gives_call5 {P : Program} {o : Oper} {a : Act} {w : World} {K : Value → World → Prop} (f : FuncId) (x1 x2 x3 x4 x5 : Operand) (ts : Array TypeId) (ho : o.op = .call { callee := .value (.func f), args := #[x1, x2, x3, x4, x5], argTypes := ts }) (hf : callsB P f = true)
    (h : Calls P f #[a.eval x1, a.eval x2, a.eval x3, a.eval x4, a.eval x5] w (fun e w'' => ∃ v, e = .returned v ∧ K v w'')) : gives P o a.eval w K :=
  gives_call f #[x1, x2, x3, x4, x5] ts ho hf (by simpa using h)
theorem rvb_t {P : Program} {f : FuncId} {args : Array Value} {w : World} {C : Prop} (h : Calls P f args w (RV w (fun v _ => ∃ t : Bool, v = .bool t ∧ (t = true ↔ C)))) (hp : C) : Calls P f args w (RV w (fun v _ => v = .bool true)) := by
  refine h.mono ?_
  rintro e w' ⟨v, h1, ⟨t, h2, h3⟩, hb⟩
  exact ⟨v, h1, by rw [h2, h3.2 hp], hb⟩
theorem rvb_f {P : Program} {f : FuncId} {args : Array Value} {w : World} {C : Prop} (h : Calls P f args w (RV w (fun v _ => ∃ t : Bool, v = .bool t ∧ (t = true ↔ C)))) (hp : ¬ C) : Calls P f args w (RV w (fun v _ => v = .bool false)) := by
  refine h.mono ?_
  rintro e w' ⟨v, h1, ⟨t, h2, h3⟩, hb⟩
  have : t = false := by cases t with
    | false => rfl
    | true => exact absurd (h3.1 rfl) hp
  exact ⟨v, h1, by rw [h2, this], hb⟩
theorem rv_sum9 {a c : Nat} {A : Option Addr} {ws : List Int} {w : World} (hX : Xs w w.heap.size A a ws) (ha : a ≤ 1000) (hws : ∀ j, j < a → -128 ≤ inth ws j ∧ inth ws j < 128) : Calls Try.prog 24 #[.slice A a c] w (RV w (fun v _ => v = .int .i64 (isum (inth ws) a))) := by
  refine (sum9_any a c A ws w hX ha hws).mono ?_
  rintro e w' ⟨rfl, rfl⟩
  exact ⟨_, rfl, rfl, Below.refl _ _⟩
end Go.Proofs.Ytpnklmgfdihjfaa
namespace Go.Proofs.Ytpnklmgfdihjfaa
open Go.RowKit

end Go.Proofs.Ytpnklmgfdihjfaa
namespace Go.Proofs.Ytpnklmgfdihjfaa
open Go.RowKit

end Go.Proofs.Ytpnklmgfdihjfaa
namespace Go.Proofs.Ytpnklmgfdihjfaa

end Go.Proofs.Ytpnklmgfdihjfaa
namespace Go.Proofs.Ytpnklmgfdihjfaa
open Go.RowKit

end Go.Proofs.Ytpnklmgfdihjfaa
namespace Go.Proofs.Ytpnklmgfdihjfaa
open Go.RowKit

def S3 (l : List (Int × Int × Int)) : List Value := l.flatMap fun t => [Value.int .i64 t.1, Value.int .i64 t.2.1, Value.int .i64 t.2.2]
section
variable {ops : Array Oper} {rest : List Oper} {o : Oper} {a : Act} {w : World} {Q : Exit → Act → World → Prop}
end
section
variable {w : World} {n : Nat} {es : List Nat} {A : Option Addr} {c : Nat} {A4 : Option Addr} {c4 gb : Nat} {v : Value} {l : List (Int × Int × Int)} {r : List Nat} {g : List Bool} {wr : World}
end
end Go.Proofs.Ytpnklmgfdihjfaa
namespace Go.Proofs.Ytpnklmgfdihjfaa
open Go.RowKit

/-- The place of the first number that a test meets, or -1. -/
def firstAt (p : Nat → Bool) (l : List Nat) : Int := match l.findIdx? p with | some i => i | none => -1

theorem firstAt_some {p : Nat → Bool} {l : List Nat} {k : Nat} (hk : k < l.length) (h1 : p (nth l k) = true) (h2 : ∀ j, j < k → p (nth l j) = false) : firstAt p l = k := by
  have : l.findIdx? p = some k := by
    rw [List.findIdx?_eq_some_iff_getElem]
    refine ⟨hk, by rw [← nth_eq hk]; exact h1, fun j hj => ?_⟩
    rw [← nth_eq (by omega), h2 j hj]; simp
  simp [firstAt, this]
theorem firstAt_none {p : Nat → Bool} {l : List Nat} (h : ∀ j, j < l.length → p (nth l j) = false) : firstAt p l = -1 := by
  have : l.findIdx? p = none := by
    rw [List.findIdx?_eq_none_iff]
    intro x hx
    obtain ⟨j, hj, rfl⟩ := List.getElem_of_mem hx
    rw [← nth_eq hj]; exact h j hj
  simp [firstAt, this]

set_option maxHeartbeats 1000000 in
theorem indexFunc_any (A : Option Addr) (es : List Nat) (len c : Nat) (K : Nat) (caps : Array Value) (p : Nat → Bool) (w : World) (hr : Es w w.heap.size A len es)
    (hK : ∀ (args : Array Value) (W : World), (callFunc K args).run Try.prog W = .ok (.enter K args) W)
    (hp : ∀ x W, x ∈ es → Below w.heap.size w W → Calls Try.prog K (#[.int .u32 (x : Int)] ++ caps) W fun e W' => e = .returned (.bool (p x)) ∧ Below W.heap.size W W') :
    Calls Try.prog 50 #[.slice A len c, .func (.func K) #[] caps] w fun e w' => e = .returned (.int .i64 (firstAt p es)) ∧ Below w.heap.size w w' := by
  have hle := hr.le
  have HLEN := Lib.hid hr.len
  have HR := Lib.hid hr; clear hr
  have HP := Lib.hid hp; clear hp
  go_enter Try.func50, Try.ntmps50
  go_wp2_with fail
  go_loopw [5, 8] (fun _ i wr => ∃ k : Nat, k ≤ len ∧ i = .int .i64 k ∧ Hid ((∀ j, j < k → p (nth es j) = false) ∧ Below w.heap.size w wr)) (fun _ i _ => len - (intOf i).toNat)
  case atStart => exact ⟨0, Nat.zero_le _, rfl, Lib.hid ⟨fun j hj => absurd hj (by omega), Below.refl _ _⟩⟩
  case round =>
    obtain ⟨k, hk, rfl, HI⟩ := hrel
    by_cases hlt : k < len
    · obtain ⟨ad, rfl, hb1, hc⟩ := (HR.out.below HI.out.2).at_ hlt
      have hkl : k < es.length := by have := HLEN.out; omega
      go_wp2_with fail
      refine (HP.out (nth es k) _ (nth_mem hkl) HI.out.2).mono ?_
      rintro e w2 ⟨rfl, hb⟩
      have HB := Lib.hid (bthen HI.out.2 hb HI.out.2.size); clear hb hc
      cases hp : p (nth es k) with
      | true =>
        have H := Lib.hid hp; clear hp
        go_wp2_with fail
        go_ret
        exact ⟨ret_int (firstAt_some hkl H.out HI.out.1).symm, HB.out⟩
      | false =>
        have H := Lib.hid hp; clear hp
        go_wp2_with fail
        refine ⟨⟨k + 1, by omega, by go_num, Lib.hid ⟨fun j hj => ?_, HB.out⟩⟩, by simp [intOf]; omega⟩
        by_cases hjk : j = k
        · rw [hjk]; exact H.out
        · exact HI.out.1 j (by omega)
    · go_wp2_with fail
      go_ret
      exact ⟨ret_int (firstAt_none (fun j hj => HI.out.1 j (by have := HLEN.out; omega))).symm, HI.out.2⟩

end Go.Proofs.Ytpnklmgfdihjfaa
namespace Go.Proofs.Ytpnklmgfdihjfaa
open Go.RowKit

/-- An edge contains a set. -/
def holdsB (set e : Nat) : Bool := decide (andn set e = 0)
set_option maxHeartbeats 1000000 in
theorem insideF (g set e : Nat) (w : World) (hg : w.cell? ⟨g, 0, none⟩ = some (.int .u32 (set : Int))) (hs : set < 2 ^ 32) (he : e < 2 ^ 32) :
    Calls Try.prog 51 #[.int .u32 e, .pointer (some ⟨g, 0, none⟩)] w fun e' w' => e' = .returned (.bool (holdsB set e)) ∧ w = w' := by
  have hand := bits_andNot set e hs he
  have hz : (((andn set e : Nat) : Int) == 0) = holdsB set e := by
    unfold holdsB
    rw [Bool.eq_iff_iff, beq_iff_eq, decide_eq_true_eq]; omega
  obtain ⟨x, hx⟩ : ∃ x, x = andn set e := ⟨_, rfl⟩
  obtain ⟨b, hb⟩ : ∃ b, b = holdsB set e := ⟨_, rfl⟩
  rw [← hx] at hand hz
  rw [← hb] at hz ⊢
  clear hx hb
  go_enter Try.func51, Try.ntmps51
  go_wp2_with fail
  go_ret
  exact ⟨rfl, rfl⟩
theorem callIn (args : Array Value) (W : World) : (callFunc 51 args).run Try.prog W = .ok (.enter 51 args) W := by
  kernel_rfl
theorem firstAt_ge (p : Nat → Bool) (l : List Nat) : (decide (0 ≤ firstAt p l)) = l.any p := by
  unfold firstAt
  cases h : l.findIdx? p with
  | none =>
    rw [List.findIdx?_eq_none_iff] at h
    symm
    simp only [show decide ((0 : Int) ≤ -1) = false from rfl]
    rw [List.any_eq_false]
    intro x hx; simpa using h x hx
  | some i =>
    rw [List.findIdx?_eq_some_iff_getElem] at h
    obtain ⟨hi, h1, _⟩ := h
    have : l.any p = true := List.any_eq_true.2 ⟨_, List.getElem_mem hi, h1⟩
    rw [this]; simp
theorem firstAt_max (p : Nat → Bool) (l : List Nat) : -1 ≤ firstAt p l ∧ firstAt p l < l.length := by
  unfold firstAt
  cases h : l.findIdx? p with
  | none => simp; omega
  | some i =>
    rw [List.findIdx?_eq_some_iff_getElem] at h
    obtain ⟨hi, _⟩ := h
    simp; omega
set_option maxHeartbeats 2000000 in
theorem inside_ok (n set : Nat) (A : Option Addr) (es : List Nat) (len c : Nat) (w : World) (hr : Es w w.heap.size A len es) (hcc : checkCode n es = 0) (hs : set < 2 ^ 32) :
    Calls Try.prog 26 #[.agg #[.int .i64 n, .slice A len c], .int .u32 set] w fun e w' => e = .returned (.tuple #[.int .i64 (max (firstAt (holdsB set) es) 0), .bool (es.any (holdsB set))]) ∧ Below w.heap.size w w' := by
  have hlt : ∀ e ∈ es, e < 2 ^ 32 := fun e he => hr.2.2 e he
  have HLT := Lib.hid hlt; clear hlt
  have HR := Lib.hid hr; clear hr
  have HC := Lib.hid hcc; clear hcc
  have hG := (GB.made w 24 (.int .i64 n) (.slice A len c)).alloc (.cells #[.int .u32 (set : Int)] 25)
  have hS := Blk.new (w.alloc (.cells #[.int .i64 n, .slice A len c] 24)) 25 #[.int .u32 (set : Int)]
  have hW : Below w.heap.size w ((w.alloc (.cells #[.int .i64 n, .slice A len c] 24)).alloc (.cells #[.int .u32 (set : Int)] 25)) := (al w _).alloc (by simp) _
  rw [show (w.alloc (.cells #[.int .i64 n, .slice A len c] 24)).heap.size = w.heap.size + 1 by simp] at hS
  have hm := firstAt_max (holdsB set) es
  have hge := firstAt_ge (holdsB set) es
  have hmx : max (firstAt (holdsB set) es) 0 = if firstAt (holdsB set) es < 0 then 0 else firstAt (holdsB set) es := by
    split <;> omega
  go_enter Try.func26, Try.ntmps26
  go_wp2_with fail
  generalize (w.alloc (.cells #[.int .i64 n, .slice A len c] 24)).alloc (.cells #[.int .u32 (set : Int)] 25) = w0 at hG hS hW ⊢
  have HG := Lib.hid hG; have HS := Lib.hid hS; have HW := Lib.hid hW; clear hG hS hW
  refine (check_any n A es len c _ (HR.out.new HW.out)).mono ?_
  rintro e w1 ⟨rfl, hb⟩
  rw [HC.out]
  replace HG := Lib.hid (HG.out.new hb); replace HS := Lib.hid (HS.out.below hb HS.out.lt); replace HW := Lib.hid (bthen HW.out hb HW.out.size); clear hb
  have g1 := HG.out.c1; have lg := HG.out.lt
  have HMX := Lib.hid hmx; have HGE := Lib.hid hge; have HM := Lib.hid hm; clear hmx hge hm
  go_wp2_with fail
  clear g1 lg
  refine (indexFunc_any A es len c 51 #[.pointer (some ⟨w.heap.size + 1, 0, none⟩)] (holdsB set) _ (HR.out.new HW.out) callIn (fun x W hx hbW => (insideF (w.heap.size + 1) set x W (by rw [(HS.out.below hbW HS.out.lt).cell]; rfl) hs (HLT.out x hx)).mono (by rintro e W' ⟨rfl, rfl⟩; exact ⟨rfl, Below.refl _ _⟩))).mono ?_
  rintro e w2 ⟨rfl, hb⟩
  replace HW := Lib.hid (bthen HW.out hb HW.out.size); clear hb
  obtain ⟨k, hk0⟩ : ∃ k, k = firstAt (holdsB set) es := ⟨_, rfl⟩
  rw [← hk0]
  have hm := HM.out
  rw [← hk0] at hm
  have HK0 := Lib.hid hk0
  have HMK := Lib.hid (show max (firstAt (holdsB set) es) 0 = max k 0 by rw [hk0])
  have HGK := Lib.hid (show decide (0 ≤ k) = es.any (holdsB set) by rw [hk0]; exact HGE.out)
  clear HMX HGE HM hk0
  by_cases hk : k < 0
  · have e1 : max k 0 = 0 := by omega
    have e2 : decide (0 ≤ k) = false := by simp; omega
    have HA := Lib.hid (show es.any (holdsB set) = false by rw [← HGK.out, e2])
    have HX := Lib.hid (show max (firstAt (holdsB set) es) 0 = 0 by rw [HMK.out, e1])
    clear HK0 HMK HGK hm
    go_wp2_with fail
    all_goals first | (exfalso; omega) | (go_ret2; exact ⟨by rw [HA.out, HX.out]; rfl, HW.out⟩)
  · have e1 : max k 0 = k := by omega
    have e2 : decide (0 ≤ k) = true := by simp; omega
    have HA := Lib.hid (show es.any (holdsB set) = true by rw [← HGK.out, e2])
    have HX := Lib.hid (show max (firstAt (holdsB set) es) 0 = k by rw [HMK.out, e1])
    clear HK0 HMK HGK hm
    go_wp2_with fail
    all_goals first | (exfalso; omega) | (go_ret2; exact ⟨by rw [HA.out, HX.out]; rfl, HW.out⟩)
end Go.Proofs.Ytpnklmgfdihjfaa
