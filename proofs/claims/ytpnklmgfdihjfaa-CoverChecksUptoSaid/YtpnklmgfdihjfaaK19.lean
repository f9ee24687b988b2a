/-
The walk of CoverChecks. Printed by gen/scv.py.
-/
import Derived.Test.YtpnklmgfdihjfaaK17
import Derived.Test.YtpnklmgfdihjfaaK18
namespace Go.Proofs.Ytpnklmgfdihjfaa
open Go.RowKit
set_option linter.unusedVariables false
set_option linter.unusedSimpArgs false

theorem gives_call5 {P : Program} {o : Oper} {a : Act} {w : World} {K : Value → World → Prop} (f : FuncId) (x1 x2 x3 x4 x5 : Operand) (ts : Array TypeId) (ho : o.op = .call { callee := .value (.func f), args := #[x1, x2, x3, x4, x5], argTypes := ts }) (hf : callsB P f = true)
    (h : Calls P f #[a.eval x1, a.eval x2, a.eval x3, a.eval x4, a.eval x5] w (fun e w'' => ∃ v, e = .returned v ∧ K v w'')) : gives P o a.eval w K :=
  gives_call f #[x1, x2, x3, x4, x5] ts ho hf (by simpa using h)
theorem rvb_t {P : Program} {f : FuncId} {args : Array Value} {w : World} {C : Prop} (h : Calls P f args w (RV w (fun v _ => ∃ t : Bool, v = .bool t ∧ (t = true ↔ C)))) (hp : C) : Calls P f args w (RV w (fun v _ => v = .bool true)) := by
  refine h.mono ?_
  rintro e w' ⟨v, h1, ⟨t, h2, h3⟩, hb⟩
  exact ⟨v, h1, by rw [h2, h3.2 hp], hb⟩
theorem rvb_f {P : Program} {f : FuncId} {args : Array Value} {w : World} {C : Prop} (h : Calls P f args w (RV w (fun v _ => ∃ t : Bool, v = .bool t ∧ (t = true ↔ C)))) (hp : ¬ C) : Calls P f args w (RV w (fun v _ => v = .bool false)) := by
  refine h.mono ?_
  rintro e w' ⟨v, h1, ⟨t, h2, h3⟩, hb⟩
  have : t = false := by cases t with
    | false => rfl
    | true => exact absurd (h3.1 rfl) hp
  exact ⟨v, h1, by rw [h2, this], hb⟩
theorem rv_sum9 {a c : Nat} {A : Option Addr} {ws : List Int} {w : World} (hX : Xs w w.heap.size A a ws) (ha : a ≤ 1000) (hws : ∀ j, j < a → -128 ≤ inth ws j ∧ inth ws j < 128) : Calls Try.prog 24 #[.slice A a c] w (RV w (fun v _ => v = .int .i64 (isum (inth ws) a))) := by
  refine (sum9_any a c A ws w hX ha hws).mono ?_
  rintro e w' ⟨rfl, rfl⟩
  exact ⟨_, rfl, rfl, Below.refl _ _⟩
set_option maxRecDepth 100000 in
set_option maxHeartbeats 16000000 in
theorem checks_any (n : Int) (len ce s D a bn ca cb : Nat) (AE AX AY : Option Addr) (es : List Nat) (xs ys : List Int) (vN : Int) (w : World) (hE : Es w w.heap.size AE len es) (hs : s < 4294967296) (hD : D ≤ 255) (hX : Ks .i8 128 w w.heap.size AX a xs) (hY : Ks .i8 128 w w.heap.size AY bn ys) (hv : -128 ≤ vN ∧ vN < 128) (hab : a ≤ 1048576 ∧ bn ≤ 1048576) :
    Calls Try.prog 8 #[.agg #[.int .i64 n, .slice AE len ce], .int .u32 (s : Int), .agg #[.int .u8 (D : Int), .slice AX a ca, .slice AY bn cb, .int .i8 vN]] w fun e w' => e = .returned (.bool true) ∧ Below w.heap.size w w' := by
  have HE0 := Lib.hid hE; have HX0 := Lib.hid hX; have HY0 := Lib.hid hY; have HS32 := Lib.hid hs; have HVn := Lib.hid hv; clear hE hX hY hs hv
  go_enter Try.func8, Try.ntmps8
  go_upto_region 1 with (fail)
  have hbw := bthen (al w (.cells #[.int .i64 n, .slice AE len ce] 24)) (al _ (.cells #[.int .u8 (D : Int), .slice AX a ca, .slice AY bn cb, .int .i8 vN] 43)) (by simp)
  have HG := Lib.hid ((Blk.new w 24 #[.int .i64 n, .slice AE len ce]).keep (al _ (.cells #[.int .u8 (D : Int), .slice AX a ca, .slice AY bn cb, .int .i8 vN] 43)))
  have HU := Lib.hid (Blk.new (w.alloc (.cells #[.int .i64 n, .slice AE len ce] 24)) 43 #[.int .u8 (D : Int), .slice AX a ca, .slice AY bn cb, .int .i8 vN])
  rw [show (w.alloc (.cells #[.int .i64 n, .slice AE len ce] 24)).heap.size = w.heap.size + 1 from by simp] at HU
  have HB := Lib.hid hbw
  clear hbw
  generalize (w.alloc (.cells #[.int .i64 n, .slice AE len ce] 24)).alloc (.cells #[.int .u8 (D : Int), .slice AX a ca, .slice AY bn cb, .int .i8 vN] 43) = w1 at *
  obtain ⟨g3, hg3⟩ : ∃ g3, g3 = w.heap.size := ⟨_, rfl⟩
  obtain ⟨g5, hg5⟩ : ∃ g5, g5 = w.heap.size + 1 := ⟨_, rfl⟩
  rw [← hg5] at HU ⊢
  rw [← hg3] at HG ⊢
  have HGg3 := Lib.hid (show w.heap.size ≤ g3 ∧ w.heap.size ≤ g5 from by omega)
  clear hg3 hg5
  have x0 := Blk.at0 HG.out (Below.refl _ _); have x1 := Blk.at1 HG.out (Below.refl _ _)
  go_wp2_with fail
  refine (great29_any n len ce AE es w1 ((HE0.out.below HB.out).more HB.out.size)).mono ?_
  rintro e w2 ⟨v, rfl, ⟨t, rfl, ht⟩, hb⟩
  clear x0 x1
  have HT := Lib.hid ht; clear ht
  replace HB := Lib.hid (bthen HB.out hb HB.out.size)
  replace HG := Lib.hid (HG.out.keep hb)
  replace HU := Lib.hid (HU.out.keep hb)
  clear hb
  cases t with
  | true =>
    go_wp2_with fail
    refine (awake29_any _).mono ?_
    rintro e w3 ⟨rfl, hb⟩
    go_wp2_with fail
    go_ret
    exact ⟨rfl, bthen HB.out hb HB.out.size⟩
  | false =>
    have HGr := Lib.hid (HT.out rfl); clear HT
    have y0 := Blk.at0 HU.out (Below.refl _ _); have y1 := Blk.at1 HU.out (Below.refl _ _); have y2 := Blk.at2 HU.out (Below.refl _ _); have y3 := Blk.at3 HU.out (Below.refl _ _)
    by_cases hln : (a : Int) + (bn : Int) > 30
    · skip
      go_wp2_with fail
      refine (awake29_any _).mono ?_
      rintro e w3 ⟨rfl, hb⟩
      go_wp2_with fail
      go_ret
      exact ⟨rfl, bthen HB.out hb HB.out.size⟩
    have HLn := Lib.hid (show a ≤ 30 ∧ bn ≤ 30 by omega)
    go_wp2_with fail
    refine (made_any D a bn ca cb AX AY xs ys vN w2 (HX0.out.below HB.out |>.more HB.out.size) (HY0.out.below HB.out |>.more HB.out.size) hD HVn.out (by have := HLn.out; omega)).mono ?_
    rintro e w3 ⟨v, rfl, ⟨A2, c2, D2, d2, s2, A5, k5, c5, B5, m5, d5, A1, c1, D1, d1, rfl, hw1, hw2, hvv, hx1, hy1⟩, hb⟩
    obtain ⟨dn, hdn⟩ : ∃ dn, dn = D % 6 + 1 := ⟨_, rfl⟩
    rw [← hdn] at hw1 hw2 hvv ⊢
    have HDn := Lib.hid (show 1 ≤ dn ∧ dn ≤ 6 by omega)
    clear hdn
    have HW1 := Lib.hid hw1; have HW2 := Lib.hid hw2; have HV := Lib.hid hvv; have HX1 := Lib.hid hx1; have HY1 := Lib.hid hy1; clear hw1 hw2 hvv hx1 hy1
    replace HB := Lib.hid (bthen HB.out hb HB.out.size)
    replace HG := Lib.hid (HG.out.keep hb)
    replace HU := Lib.hid (HU.out.keep hb)
    clear hb
    go_upto_region 4 with (fail)
    have hbw := al w3 (.cells #[.slice A2 a c2, .slice D2 bn d2, .bool s2, .slice A5 k5 c5, .slice B5 m5 d5] 33)
    have HC := Lib.hid (Blk.new w3 33 #[.slice A2 a c2, .slice D2 bn d2, .bool s2, .slice A5 k5 c5, .slice B5 m5 d5])
    replace HB := Lib.hid (bthen HB.out hbw HB.out.size)
    replace HG := Lib.hid (HG.out.keep hbw)
    replace HU := Lib.hid (HU.out.keep hbw)
    replace HW1 := Lib.hid (Rs.newW HW1.out hbw)
    replace HW2 := Lib.hid (Rs.newW HW2.out hbw)
    replace HV := Lib.hid (HV.out.new hbw)
    replace HX1 := Lib.hid (HX1.out.new hbw)
    replace HY1 := Lib.hid (HY1.out.new hbw)
    clear hbw
    generalize w3.alloc (.cells #[.slice A2 a c2, .slice D2 bn d2, .bool s2, .slice A5 k5 c5, .slice B5 m5 d5] 33) = w4 at *
    obtain ⟨g7, hg7⟩ : ∃ g7, g7 = w3.heap.size := ⟨_, rfl⟩
    rw [← hg7] at HC ⊢
    have HGg7 := Lib.hid (show w3.heap.size ≤ g7 from by omega)
    clear hg7
    have HXb := Lib.hid (show ∀ j, j < a → -128 ≤ inth xs j ∧ inth xs j < 128 from fun j hj => HX0.out.lt hj)
    have HYb := Lib.hid (show ∀ j, j < bn → -128 ≤ inth ys j ∧ inth ys j < 128 from fun j hj => HY0.out.lt hj)
    have hr9 : ∀ m : Nat, ((Lib.bitLen s : Nat) : Int) ≤ (m : Int) → m ≤ 32 → andn s (2 ^ m - 1) = 0 := fun m h1 h2 => by
      refine Classical.byContradiction fun h => ?_
      have := (len32_gt HS32.out h2).2 h
      omega
    have HR9 := Lib.hid hr9; clear hr9
    by_cases hc : checkCode n es = 0
    rotate_left
    · skip
      refine wp_region_each (kss := [[], [(0, 32)], [(1, 33)], [(2, 34)], [(3, 35)], [(3, 35), (4, 36)], [(3, 35)], [(3, 35), (6, 38)], [(3, 35), (5, 37), (7, 39)], [(3, 35), (8, 40)], [(9, 41)], [(10, 42)], [(10, 42), (11, 43)], [(10, 42)], [(10, 42), (13, 45)], [(10, 42)], [(10, 42)], [(10, 42)], [(10, 42), (12, 44), (14, 46), (15, 47), (16, 48), (17, 49)], [(10, 42), (18, 50)], [(19, 51)], [(20, 52)], [(20, 52), (21, 53)], [(20, 52)], [(20, 52), (23, 55)], [(20, 52)], [(20, 52)], [(20, 52)], [(20, 52), (22, 54), (24, 56), (25, 57), (26, 58), (27, 59)], [(20, 52), (28, 60)], [(29, 61)], [(30, 62)], [(30, 62), (31, 63)], [(30, 62)], [(30, 62), (33, 65)], [(30, 62), (34, 66)], [(30, 62), (32, 64), (35, 67)], [(30, 62), (36, 68)], [(37, 69)], [(38, 70)], [(38, 70), (39, 71)], [(38, 70)], [(38, 70), (41, 73)], [(38, 70), (42, 74)], [(38, 70), (40, 72), (43, 75)], [(38, 70), (44, 76)], [(45, 77)]]) [(3, .pointer (some ⟨g3, 0, none⟩)), (1, .int .u32 ((s : Int))), (8, .slice A1 a c1), (10, .int .i64 ((dn : Int))), (9, .slice D1 bn d1), (5, .pointer (some ⟨g5, 0, none⟩))] [EV (.agg #[.int .i64 n, .slice AE len ce]), EV (.int .i64 ((checkCode n es))), EV (.bool false), EV (.bool false), EV (undef), EV (undef), EV (undef), EV (undef), EV (undef), EV (.bool false), EV (.bool false), EV (undef), EV (undef), EV (undef), EV (undef), EV (undef), EV (undef), EV (undef), EV (undef), EV (.bool false), EV (.bool false), EV (undef), EV (undef), EV (undef), EV (undef), EV (undef), EV (undef), EV (undef), EV (undef), EV (.bool false), EV (.bool false), EV (undef), EV (undef), EV (undef), EV (undef), EV (undef), EV (undef), EV (.bool false), EV (.bool false), EV (undef), EV (undef), EV (undef), EV (undef), EV (undef), EV (undef), EV (.bool false), EV (.bool false)] (by kernel_rfl) (by kernel_rfl) ⟨rfl, rfl, rfl, rfl, rfl, rfl, trivial⟩ ?_ ?_ ?_
      · exact ⟨eI, eI, eI, eI, eI, eI, eI, eI, eI, eI, eI, eI, eI, eI, eI, eI, eI, eI, eI, eI, eI, eI, eI, eI, eI, eI, eI, eI, eI, eI, eI, eI, eI, eI, eI, eI, eI, eI, eI, eI, eI, eI, eI, eI, eI, eI, eI, trivial⟩
      · refine ⟨?_, ?_, ?_, ?_, ?_, ?_, ?_, ?_, ?_, ?_, ?_, ?_, ?_, ?_, ?_, ?_, ?_, ?_, ?_, ?_, ?_, ?_, ?_, ?_, ?_, ?_, ?_, ?_, ?_, ?_, ?_, ?_, ?_, ?_, ?_, ?_, ?_, ?_, ?_, ?_, ?_, ?_, ?_, ?_, ?_, ?_, ?_, trivial⟩
        · exact fun aa ww hb he hd => ob_plain rfl (load_hgr rfl he.1 (Blk.keep HG.out hb))
        · exact fun aa ww hb he hd => ob_plain rfl (gives_call1 _ _ _ rfl (by kernel_rfl) (by rw [show aa.eval (.tmp 32) = _ from hd.1]; exact rv_one (check_any n AE es len ce _ ((HE0.out.below (bthen HB.out hb HB.out.size)).more (bthen HB.out hb HB.out.size).size))))
        · exact fun aa ww hb he hd => ob_plain rfl (gives_eq_int ((checkCode n es)) 0 .i64 _ _ _ _ rfl hd.1 rfl ⟨congrArg Value.bool (by simpa using hc), Below.refl _ _⟩)
        · exact fun _ _ _ he hd => ob_mv rfl rfl hd.1
        · exact fun aa ww hb he hd => ob_off 35 rfl (by kernel_rfl) hd.1 rfl
        · exact fun aa ww hb he hd => ob_off 35 rfl (by kernel_rfl) hd.1 rfl
        · exact fun aa ww hb he hd => ob_off 35 rfl (by kernel_rfl) hd.1 rfl
        · exact fun aa ww hb he hd => ob_off 35 rfl (by kernel_rfl) hd.1 rfl
        · exact fun aa ww hb he hd => ob_off 35 rfl (by kernel_rfl) hd.1 rfl
        · exact fun aa ww hb he hd => ob_plain rfl (gives_pick false _ _ _ rfl hd.1 ⟨rfl, Below.refl _ _⟩)
        · exact fun _ _ _ he hd => ob_mv rfl rfl hd.1
        · exact fun aa ww hb he hd => ob_off 42 rfl (by kernel_rfl) hd.1 rfl
        · exact fun aa ww hb he hd => ob_off 42 rfl (by kernel_rfl) hd.1 rfl
        · exact fun aa ww hb he hd => ob_off 42 rfl (by kernel_rfl) hd.1 rfl
        · exact fun aa ww hb he hd => ob_off 42 rfl (by kernel_rfl) hd.1 rfl
        · exact fun aa ww hb he hd => ob_off 42 rfl (by kernel_rfl) hd.1 rfl
        · exact fun aa ww hb he hd => ob_off 42 rfl (by kernel_rfl) hd.1 rfl
        · exact fun aa ww hb he hd => ob_off 42 rfl (by kernel_rfl) hd.1 rfl
        · exact fun aa ww hb he hd => ob_off 42 rfl (by kernel_rfl) hd.1 rfl
        · exact fun aa ww hb he hd => ob_plain rfl (gives_pick false _ _ _ rfl hd.1 ⟨rfl, Below.refl _ _⟩)
        · exact fun _ _ _ he hd => ob_mv rfl rfl hd.1
        · exact fun aa ww hb he hd => ob_off 52 rfl (by kernel_rfl) hd.1 rfl
        · exact fun aa ww hb he hd => ob_off 52 rfl (by kernel_rfl) hd.1 rfl
        · exact fun aa ww hb he hd => ob_off 52 rfl (by kernel_rfl) hd.1 rfl
        · exact fun aa ww hb he hd => ob_off 52 rfl (by kernel_rfl) hd.1 rfl
        · exact fun aa ww hb he hd => ob_off 52 rfl (by kernel_rfl) hd.1 rfl
        · exact fun aa ww hb he hd => ob_off 52 rfl (by kernel_rfl) hd.1 rfl
        · exact fun aa ww hb he hd => ob_off 52 rfl (by kernel_rfl) hd.1 rfl
        · exact fun aa ww hb he hd => ob_off 52 rfl (by kernel_rfl) hd.1 rfl
        · exact fun aa ww hb he hd => ob_plain rfl (gives_pick false _ _ _ rfl hd.1 ⟨rfl, Below.refl _ _⟩)
        · exact fun _ _ _ he hd => ob_mv rfl rfl hd.1
        · exact fun aa ww hb he hd => ob_off 62 rfl (by kernel_rfl) hd.1 rfl
        · exact fun aa ww hb he hd => ob_off 62 rfl (by kernel_rfl) hd.1 rfl
        · exact fun aa ww hb he hd => ob_off 62 rfl (by kernel_rfl) hd.1 rfl
        · exact fun aa ww hb he hd => ob_off 62 rfl (by kernel_rfl) hd.1 rfl
        · exact fun aa ww hb he hd => ob_off 62 rfl (by kernel_rfl) hd.1 rfl
        · exact fun aa ww hb he hd => ob_off 62 rfl (by kernel_rfl) hd.1 rfl
        · exact fun aa ww hb he hd => ob_plain rfl (gives_pick false _ _ _ rfl hd.1 ⟨rfl, Below.refl _ _⟩)
        · exact fun _ _ _ he hd => ob_mv rfl rfl hd.1
        · exact fun aa ww hb he hd => ob_off 70 rfl (by kernel_rfl) hd.1 rfl
        · exact fun aa ww hb he hd => ob_off 70 rfl (by kernel_rfl) hd.1 rfl
        · exact fun aa ww hb he hd => ob_off 70 rfl (by kernel_rfl) hd.1 rfl
        · exact fun aa ww hb he hd => ob_off 70 rfl (by kernel_rfl) hd.1 rfl
        · exact fun aa ww hb he hd => ob_off 70 rfl (by kernel_rfl) hd.1 rfl
        · exact fun aa ww hb he hd => ob_off 70 rfl (by kernel_rfl) hd.1 rfl
        · exact fun aa ww hb he hd => ob_plain rfl (gives_pick false _ _ _ rfl hd.1 ⟨rfl, Below.refl _ _⟩)
        · exact fun aa ww hb he hd => ob_plain rfl (gives_assign _ rfl ⟨hd.1, Below.refl _ _⟩)
      intro vs w5 hb hR
      have e11 : vs 46 = .bool false := hR 46 (by decide)
      clear hR
      simp only [putsL, Nat.zero_add, Nat.reduceAdd, List.take_succ_cons, List.take_zero, Act.put, List.setIfInBounds_toArray, List.set_cons_zero, List.set_cons_succ]
      rw [e11]
      clear e11
      replace HB := Lib.hid (bthen HB.out hb HB.out.size)
      replace HG := Lib.hid (HG.out.keep hb)
      replace HU := Lib.hid (HU.out.keep hb)
      replace HW1 := Lib.hid (Rs.newW HW1.out hb)
      replace HW2 := Lib.hid (Rs.newW HW2.out hb)
      replace HV := Lib.hid (HV.out.new hb)
      replace HX1 := Lib.hid (HX1.out.new hb)
      replace HY1 := Lib.hid (HY1.out.new hb)
      replace HC := Lib.hid (HC.out.keep hb)
      clear hb
      have x0 := Blk.at0 HG.out (Below.refl _ _); have x1 := Blk.at1 HG.out (Below.refl _ _)
      have y0 := Blk.at0 HC.out (Below.refl _ _); have y1 := Blk.at1 HC.out (Below.refl _ _); have y2 := Blk.at2 HC.out (Below.refl _ _); have y3 := Blk.at3 HC.out (Below.refl _ _); have y4 := Blk.at4 HC.out (Below.refl _ _)
      go_wp2_with fail
      refine (cvcheck_any n len ce s a c2 bn d2 2 AE A2 D2 s2 A5 B5 k5 c5 m5 d5 es _ _ _ w5 ((HE0.out.below HB.out).more HB.out.size) HS32.out HW1.out HW2.out HV.out (by omega) HGr.out.1).mono ?_
      rintro e w6 ⟨v, rfl, ⟨t, rfl, ht⟩, hb⟩
      obtain rfl : t = false := by
        cases t with
        | false => rfl
        | true => exact absurd (ht.1 rfl) (fun h => hc h.1)
      clear ht
      replace HB := Lib.hid (bthen HB.out hb HB.out.size)
      replace HG := Lib.hid (HG.out.keep hb)
      replace HU := Lib.hid (HU.out.keep hb)
      replace HW1 := Lib.hid (Rs.newW HW1.out hb)
      replace HW2 := Lib.hid (Rs.newW HW2.out hb)
      replace HV := Lib.hid (HV.out.new hb)
      replace HX1 := Lib.hid (HX1.out.new hb)
      replace HY1 := Lib.hid (HY1.out.new hb)
      replace HC := Lib.hid (HC.out.keep hb)
      clear hb
      go_wp2_with fail
      refine (awake29_any _).mono ?_
      rintro e w7 ⟨rfl, hb⟩
      go_wp2_with fail
      go_ret
      exact ⟨rfl, bthen HB.out hb HB.out.size⟩
    obtain ⟨h0, -, -, -⟩ := checkCode_zero hc
    obtain ⟨hn6, hl7⟩ := HGr.out.1 hc
    obtain ⟨nn, rfl⟩ : ∃ nn : Nat, n = (nn : Int) := ⟨n.toNat, by omega⟩
    have HN6 := Lib.hid (show nn ≤ 6 by omega); have HL7 := Lib.hid hl7
    clear h0 hn6 hl7
    by_cases hl : ((Lib.bitLen s : Nat) : Int) ≤ (nn : Int)
    rotate_left
    · skip
      refine wp_region_each (kss := [[], [(0, 32)], [(1, 33)], [(2, 34)], [(3, 35)], [(3, 35), (4, 36)], [(3, 35)], [(3, 35), (6, 38)], [(3, 35), (5, 37), (7, 39)], [(3, 35), (8, 40)], [(9, 41)], [(10, 42)], [(10, 42), (11, 43)], [(10, 42)], [(10, 42), (13, 45)], [(10, 42)], [(10, 42)], [(10, 42)], [(10, 42), (12, 44), (14, 46), (15, 47), (16, 48), (17, 49)], [(10, 42), (18, 50)], [(19, 51)], [(20, 52)], [(20, 52), (21, 53)], [(20, 52)], [(20, 52), (23, 55)], [(20, 52)], [(20, 52)], [(20, 52)], [(20, 52), (22, 54), (24, 56), (25, 57), (26, 58), (27, 59)], [(20, 52), (28, 60)], [(29, 61)], [(30, 62)], [(30, 62), (31, 63)], [(30, 62)], [(30, 62), (33, 65)], [(30, 62), (34, 66)], [(30, 62), (32, 64), (35, 67)], [(30, 62), (36, 68)], [(37, 69)], [(38, 70)], [(38, 70), (39, 71)], [(38, 70)], [(38, 70), (41, 73)], [(38, 70), (42, 74)], [(38, 70), (40, 72), (43, 75)], [(38, 70), (44, 76)], [(45, 77)]]) [(3, .pointer (some ⟨g3, 0, none⟩)), (1, .int .u32 ((s : Int))), (8, .slice A1 a c1), (10, .int .i64 ((dn : Int))), (9, .slice D1 bn d1), (5, .pointer (some ⟨g5, 0, none⟩))] [EV (.agg #[.int .i64 ((nn : Int)), .slice AE len ce]), EV (.int .i64 ((checkCode (nn : Int) es))), EV (.bool true), EV (.bool true), EV (.int .u32 ((s : Int))), EV (.int .i64 (((Lib.bitLen s : Nat) : Int))), EV (.pointer (some ⟨g3, 0, none⟩)), EV (.int .i64 ((nn : Int))), EV (.bool false), EV (.bool false), EV (.bool false), EV (undef), EV (undef), EV (undef), EV (undef), EV (undef), EV (undef), EV (undef), EV (undef), EV (.bool false), EV (.bool false), EV (undef), EV (undef), EV (undef), EV (undef), EV (undef), EV (undef), EV (undef), EV (undef), EV (.bool false), EV (.bool false), EV (undef), EV (undef), EV (undef), EV (undef), EV (undef), EV (undef), EV (.bool false), EV (.bool false), EV (undef), EV (undef), EV (undef), EV (undef), EV (undef), EV (undef), EV (.bool false), EV (.bool false)] (by kernel_rfl) (by kernel_rfl) ⟨rfl, rfl, rfl, rfl, rfl, rfl, trivial⟩ ?_ ?_ ?_
      · exact ⟨eI, eI, eI, eI, eI, eI, eI, eI, eI, eI, eI, eI, eI, eI, eI, eI, eI, eI, eI, eI, eI, eI, eI, eI, eI, eI, eI, eI, eI, eI, eI, eI, eI, eI, eI, eI, eI, eI, eI, eI, eI, eI, eI, eI, eI, eI, eI, trivial⟩
      · refine ⟨?_, ?_, ?_, ?_, ?_, ?_, ?_, ?_, ?_, ?_, ?_, ?_, ?_, ?_, ?_, ?_, ?_, ?_, ?_, ?_, ?_, ?_, ?_, ?_, ?_, ?_, ?_, ?_, ?_, ?_, ?_, ?_, ?_, ?_, ?_, ?_, ?_, ?_, ?_, ?_, ?_, ?_, ?_, ?_, ?_, ?_, ?_, trivial⟩
        · exact fun aa ww hb he hd => ob_plain rfl (load_hgr rfl he.1 (Blk.keep HG.out hb))
        · exact fun aa ww hb he hd => ob_plain rfl (gives_call1 _ _ _ rfl (by kernel_rfl) (by rw [show aa.eval (.tmp 32) = _ from hd.1]; exact rv_one (check_any (nn : Int) AE es len ce _ ((HE0.out.below (bthen HB.out hb HB.out.size)).more (bthen HB.out hb HB.out.size).size))))
        · exact fun aa ww hb he hd => ob_plain rfl (gives_eq_int ((checkCode (nn : Int) es)) 0 .i64 _ _ _ _ rfl hd.1 rfl ⟨congrArg Value.bool (by simpa using hc), Below.refl _ _⟩)
        · exact fun _ _ _ he hd => ob_mv rfl rfl hd.1
        · exact fun aa ww hb he hd => ob_on 35 rfl (by kernel_rfl) hd.1 (gives_move _ rfl ⟨he.2.1, Below.refl _ _⟩)
        · exact fun aa ww hb he hd => ob_on 35 rfl (by kernel_rfl) hd.1 (gives_call1 _ _ _ rfl (by kernel_rfl) (by rw [show aa.eval (.tmp 36) = _ from hd.2.1]; exact len32_v s HS32.out _))
        · exact fun aa ww hb he hd => ob_on 35 rfl (by kernel_rfl) hd.1 (fld_hgr (k := 0) rfl (by decide) he.1)
        · exact fun aa ww hb he hd => ob_on 35 rfl (by kernel_rfl) hd.1 (load_c3 rfl hd.2.1 (Blk.at0 HG.out hb))
        · exact fun aa ww hb he hd => ob_on 35 rfl (by kernel_rfl) hd.1 (gives_le_int (((Lib.bitLen s : Nat) : Int)) ((nn : Int)) .i64 _ _ _ _ rfl hd.2.1 hd.2.2.1 ⟨congrArg Value.bool (by simpa using hl), Below.refl _ _⟩)
        · exact fun aa ww hb he hd => ob_plain rfl (gives_pick true _ _ _ rfl hd.1 ⟨hd.2.1, Below.refl _ _⟩)
        · exact fun _ _ _ he hd => ob_mv rfl rfl hd.1
        · exact fun aa ww hb he hd => ob_off 42 rfl (by kernel_rfl) hd.1 rfl
        · exact fun aa ww hb he hd => ob_off 42 rfl (by kernel_rfl) hd.1 rfl
        · exact fun aa ww hb he hd => ob_off 42 rfl (by kernel_rfl) hd.1 rfl
        · exact fun aa ww hb he hd => ob_off 42 rfl (by kernel_rfl) hd.1 rfl
        · exact fun aa ww hb he hd => ob_off 42 rfl (by kernel_rfl) hd.1 rfl
        · exact fun aa ww hb he hd => ob_off 42 rfl (by kernel_rfl) hd.1 rfl
        · exact fun aa ww hb he hd => ob_off 42 rfl (by kernel_rfl) hd.1 rfl
        · exact fun aa ww hb he hd => ob_off 42 rfl (by kernel_rfl) hd.1 rfl
        · exact fun aa ww hb he hd => ob_plain rfl (gives_pick false _ _ _ rfl hd.1 ⟨rfl, Below.refl _ _⟩)
        · exact fun _ _ _ he hd => ob_mv rfl rfl hd.1
        · exact fun aa ww hb he hd => ob_off 52 rfl (by kernel_rfl) hd.1 rfl
        · exact fun aa ww hb he hd => ob_off 52 rfl (by kernel_rfl) hd.1 rfl
        · exact fun aa ww hb he hd => ob_off 52 rfl (by kernel_rfl) hd.1 rfl
        · exact fun aa ww hb he hd => ob_off 52 rfl (by kernel_rfl) hd.1 rfl
        · exact fun aa ww hb he hd => ob_off 52 rfl (by kernel_rfl) hd.1 rfl
        · exact fun aa ww hb he hd => ob_off 52 rfl (by kernel_rfl) hd.1 rfl
        · exact fun aa ww hb he hd => ob_off 52 rfl (by kernel_rfl) hd.1 rfl
        · exact fun aa ww hb he hd => ob_off 52 rfl (by kernel_rfl) hd.1 rfl
        · exact fun aa ww hb he hd => ob_plain rfl (gives_pick false _ _ _ rfl hd.1 ⟨rfl, Below.refl _ _⟩)
        · exact fun _ _ _ he hd => ob_mv rfl rfl hd.1
        · exact fun aa ww hb he hd => ob_off 62 rfl (by kernel_rfl) hd.1 rfl
        · exact fun aa ww hb he hd => ob_off 62 rfl (by kernel_rfl) hd.1 rfl
        · exact fun aa ww hb he hd => ob_off 62 rfl (by kernel_rfl) hd.1 rfl
        · exact fun aa ww hb he hd => ob_off 62 rfl (by kernel_rfl) hd.1 rfl
        · exact fun aa ww hb he hd => ob_off 62 rfl (by kernel_rfl) hd.1 rfl
        · exact fun aa ww hb he hd => ob_off 62 rfl (by kernel_rfl) hd.1 rfl
        · exact fun aa ww hb he hd => ob_plain rfl (gives_pick false _ _ _ rfl hd.1 ⟨rfl, Below.refl _ _⟩)
        · exact fun _ _ _ he hd => ob_mv rfl rfl hd.1
        · exact fun aa ww hb he hd => ob_off 70 rfl (by kernel_rfl) hd.1 rfl
        · exact fun aa ww hb he hd => ob_off 70 rfl (by kernel_rfl) hd.1 rfl
        · exact fun aa ww hb he hd => ob_off 70 rfl (by kernel_rfl) hd.1 rfl
        · exact fun aa ww hb he hd => ob_off 70 rfl (by kernel_rfl) hd.1 rfl
        · exact fun aa ww hb he hd => ob_off 70 rfl (by kernel_rfl) hd.1 rfl
        · exact fun aa ww hb he hd => ob_off 70 rfl (by kernel_rfl) hd.1 rfl
        · exact fun aa ww hb he hd => ob_plain rfl (gives_pick false _ _ _ rfl hd.1 ⟨rfl, Below.refl _ _⟩)
        · exact fun aa ww hb he hd => ob_plain rfl (gives_assign _ rfl ⟨hd.1, Below.refl _ _⟩)
      intro vs w5 hb hR
      have e11 : vs 46 = .bool false := hR 46 (by decide)
      clear hR
      simp only [putsL, Nat.zero_add, Nat.reduceAdd, List.take_succ_cons, List.take_zero, Act.put, List.setIfInBounds_toArray, List.set_cons_zero, List.set_cons_succ]
      rw [e11]
      clear e11
      replace HB := Lib.hid (bthen HB.out hb HB.out.size)
      replace HG := Lib.hid (HG.out.keep hb)
      replace HU := Lib.hid (HU.out.keep hb)
      replace HW1 := Lib.hid (Rs.newW HW1.out hb)
      replace HW2 := Lib.hid (Rs.newW HW2.out hb)
      replace HV := Lib.hid (HV.out.new hb)
      replace HX1 := Lib.hid (HX1.out.new hb)
      replace HY1 := Lib.hid (HY1.out.new hb)
      replace HC := Lib.hid (HC.out.keep hb)
      clear hb
      have x0 := Blk.at0 HG.out (Below.refl _ _); have x1 := Blk.at1 HG.out (Below.refl _ _)
      have y0 := Blk.at0 HC.out (Below.refl _ _); have y1 := Blk.at1 HC.out (Below.refl _ _); have y2 := Blk.at2 HC.out (Below.refl _ _); have y3 := Blk.at3 HC.out (Below.refl _ _); have y4 := Blk.at4 HC.out (Below.refl _ _)
      go_wp2_with fail
      refine (cvcheck_any (nn : Int) len ce s a c2 bn d2 2 AE A2 D2 s2 A5 B5 k5 c5 m5 d5 es _ _ _ w5 ((HE0.out.below HB.out).more HB.out.size) HS32.out HW1.out HW2.out HV.out (by omega) HGr.out.1).mono ?_
      rintro e w6 ⟨v, rfl, ⟨t, rfl, ht⟩, hb⟩
      obtain rfl : t = false := by
        cases t with
        | false => rfl
        | true => exact absurd (ht.1 rfl) (fun h => (len32_gt HS32.out (show nn ≤ 32 by have := HN6.out; omega)).1 (by omega) (by simpa using h.2.1))
      clear ht
      replace HB := Lib.hid (bthen HB.out hb HB.out.size)
      replace HG := Lib.hid (HG.out.keep hb)
      replace HU := Lib.hid (HU.out.keep hb)
      replace HW1 := Lib.hid (Rs.newW HW1.out hb)
      replace HW2 := Lib.hid (Rs.newW HW2.out hb)
      replace HV := Lib.hid (HV.out.new hb)
      replace HX1 := Lib.hid (HX1.out.new hb)
      replace HY1 := Lib.hid (HY1.out.new hb)
      replace HC := Lib.hid (HC.out.keep hb)
      clear hb
      go_wp2_with fail
      refine (awake29_any _).mono ?_
      rintro e w7 ⟨rfl, hb⟩
      go_wp2_with fail
      go_ret
      exact ⟨rfl, bthen HB.out hb HB.out.size⟩
    have hra := HR9.out nn hl (by have := HN6.out; omega)
    by_cases hcv : a = len ∧ CvI nn len (nth es) s (inth xs) dn
    rotate_left
    · skip
      have HCv := Lib.hid hcv; clear hcv
      refine wp_region_each (kss := [[], [(0, 32)], [(1, 33)], [(2, 34)], [(3, 35)], [(3, 35), (4, 36)], [(3, 35)], [(3, 35), (6, 38)], [(3, 35), (5, 37), (7, 39)], [(3, 35), (8, 40)], [(9, 41)], [(10, 42)], [(10, 42), (11, 43)], [(10, 42)], [(10, 42), (13, 45)], [(10, 42)], [(10, 42)], [(10, 42)], [(10, 42), (12, 44), (14, 46), (15, 47), (16, 48), (17, 49)], [(10, 42), (18, 50)], [(19, 51)], [(20, 52)], [(20, 52), (21, 53)], [(20, 52)], [(20, 52), (23, 55)], [(20, 52)], [(20, 52)], [(20, 52)], [(20, 52), (22, 54), (24, 56), (25, 57), (26, 58), (27, 59)], [(20, 52), (28, 60)], [(29, 61)], [(30, 62)], [(30, 62), (31, 63)], [(30, 62)], [(30, 62), (33, 65)], [(30, 62), (34, 66)], [(30, 62), (32, 64), (35, 67)], [(30, 62), (36, 68)], [(37, 69)], [(38, 70)], [(38, 70), (39, 71)], [(38, 70)], [(38, 70), (41, 73)], [(38, 70), (42, 74)], [(38, 70), (40, 72), (43, 75)], [(38, 70), (44, 76)], [(45, 77)]]) [(3, .pointer (some ⟨g3, 0, none⟩)), (1, .int .u32 ((s : Int))), (8, .slice A1 a c1), (10, .int .i64 ((dn : Int))), (9, .slice D1 bn d1), (5, .pointer (some ⟨g5, 0, none⟩))] [EV (.agg #[.int .i64 ((nn : Int)), .slice AE len ce]), EV (.int .i64 ((checkCode (nn : Int) es))), EV (.bool true), EV (.bool true), EV (.int .u32 ((s : Int))), EV (.int .i64 (((Lib.bitLen s : Nat) : Int))), EV (.pointer (some ⟨g3, 0, none⟩)), EV (.int .i64 ((nn : Int))), EV (.bool true), EV (.bool true), EV (.bool true), EV (.pointer (some ⟨g3, 0, none⟩)), EV (.int .i64 ((nn : Int))), EV (.pointer (some ⟨g3, 1, none⟩)), EV (.slice AE len ce), EV (.int .u32 ((s : Int))), EV (.slice A1 a c1), EV (.int .i64 ((dn : Int))), EV (.bool false), EV (.bool false), EV (.bool false), EV (undef), EV (undef), EV (undef), EV (undef), EV (undef), EV (undef), EV (undef), EV (undef), EV (.bool false), EV (.bool false), EV (undef), EV (undef), EV (undef), EV (undef), EV (undef), EV (undef), EV (.bool false), EV (.bool false), EV (undef), EV (undef), EV (undef), EV (undef), EV (undef), EV (undef), EV (.bool false), EV (.bool false)] (by kernel_rfl) (by kernel_rfl) ⟨rfl, rfl, rfl, rfl, rfl, rfl, trivial⟩ ?_ ?_ ?_
      · exact ⟨eI, eI, eI, eI, eI, eI, eI, eI, eI, eI, eI, eI, eI, eI, eI, eI, eI, eI, eI, eI, eI, eI, eI, eI, eI, eI, eI, eI, eI, eI, eI, eI, eI, eI, eI, eI, eI, eI, eI, eI, eI, eI, eI, eI, eI, eI, eI, trivial⟩
      · refine ⟨?_, ?_, ?_, ?_, ?_, ?_, ?_, ?_, ?_, ?_, ?_, ?_, ?_, ?_, ?_, ?_, ?_, ?_, ?_, ?_, ?_, ?_, ?_, ?_, ?_, ?_, ?_, ?_, ?_, ?_, ?_, ?_, ?_, ?_, ?_, ?_, ?_, ?_, ?_, ?_, ?_, ?_, ?_, ?_, ?_, ?_, ?_, trivial⟩
        · exact fun aa ww hb he hd => ob_plain rfl (load_hgr rfl he.1 (Blk.keep HG.out hb))
        · exact fun aa ww hb he hd => ob_plain rfl (gives_call1 _ _ _ rfl (by kernel_rfl) (by rw [show aa.eval (.tmp 32) = _ from hd.1]; exact rv_one (check_any (nn : Int) AE es len ce _ ((HE0.out.below (bthen HB.out hb HB.out.size)).more (bthen HB.out hb HB.out.size).size))))
        · exact fun aa ww hb he hd => ob_plain rfl (gives_eq_int ((checkCode (nn : Int) es)) 0 .i64 _ _ _ _ rfl hd.1 rfl ⟨congrArg Value.bool (by simpa using hc), Below.refl _ _⟩)
        · exact fun _ _ _ he hd => ob_mv rfl rfl hd.1
        · exact fun aa ww hb he hd => ob_on 35 rfl (by kernel_rfl) hd.1 (gives_move _ rfl ⟨he.2.1, Below.refl _ _⟩)
        · exact fun aa ww hb he hd => ob_on 35 rfl (by kernel_rfl) hd.1 (gives_call1 _ _ _ rfl (by kernel_rfl) (by rw [show aa.eval (.tmp 36) = _ from hd.2.1]; exact len32_v s HS32.out _))
        · exact fun aa ww hb he hd => ob_on 35 rfl (by kernel_rfl) hd.1 (fld_hgr (k := 0) rfl (by decide) he.1)
        · exact fun aa ww hb he hd => ob_on 35 rfl (by kernel_rfl) hd.1 (load_c3 rfl hd.2.1 (Blk.at0 HG.out hb))
        · exact fun aa ww hb he hd => ob_on 35 rfl (by kernel_rfl) hd.1 (gives_le_int (((Lib.bitLen s : Nat) : Int)) ((nn : Int)) .i64 _ _ _ _ rfl hd.2.1 hd.2.2.1 ⟨congrArg Value.bool (by simpa using hl), Below.refl _ _⟩)
        · exact fun aa ww hb he hd => ob_plain rfl (gives_pick true _ _ _ rfl hd.1 ⟨hd.2.1, Below.refl _ _⟩)
        · exact fun _ _ _ he hd => ob_mv rfl rfl hd.1
        · exact fun aa ww hb he hd => ob_on 42 rfl (by kernel_rfl) hd.1 (fld_hgr (k := 0) rfl (by decide) he.1)
        · exact fun aa ww hb he hd => ob_on 42 rfl (by kernel_rfl) hd.1 (load_c3 rfl hd.2.1 (Blk.at0 HG.out hb))
        · exact fun aa ww hb he hd => ob_on 42 rfl (by kernel_rfl) hd.1 (fld_hgr (k := 1) rfl (by decide) he.1)
        · exact fun aa ww hb he hd => ob_on 42 rfl (by kernel_rfl) hd.1 (load_c38 rfl hd.2.1 (Blk.at1 HG.out hb))
        · exact fun aa ww hb he hd => ob_on 42 rfl (by kernel_rfl) hd.1 (gives_move _ rfl ⟨he.2.1, Below.refl _ _⟩)
        · exact fun aa ww hb he hd => ob_on 42 rfl (by kernel_rfl) hd.1 (gives_move _ rfl ⟨he.2.2.1, Below.refl _ _⟩)
        · exact fun aa ww hb he hd => ob_on 42 rfl (by kernel_rfl) hd.1 (gives_move _ rfl ⟨he.2.2.2.1, Below.refl _ _⟩)
        · exact fun aa ww hb he hd => ob_on 42 rfl (by kernel_rfl) hd.1 (gives_call5 _ _ _ _ _ _ _ rfl (by kernel_rfl) (by rw [show aa.eval (.tmp 44) = _ from hd.2.1, show aa.eval (.tmp 46) = _ from hd.2.2.1, show aa.eval (.tmp 47) = _ from hd.2.2.2.1, show aa.eval (.tmp 48) = _ from hd.2.2.2.2.1, show aa.eval (.tmp 49) = _ from hd.2.2.2.2.2.1]; exact rvb_f (covers9_any nn len a s dn ce c1 AE A1 es xs _ ((HE0.out.below (bthen HB.out hb HB.out.size)).more (bthen HB.out hb HB.out.size).size) (HX1.out.new hb) HS32.out HN6.out (by have := HL7.out; have := HLn.out; omega) (by have := HDn.out; omega) HXb.out) HCv.out))
        · exact fun aa ww hb he hd => ob_plain rfl (gives_pick true _ _ _ rfl hd.1 ⟨hd.2.1, Below.refl _ _⟩)
        · exact fun _ _ _ he hd => ob_mv rfl rfl hd.1
        · exact fun aa ww hb he hd => ob_off 52 rfl (by kernel_rfl) hd.1 rfl
        · exact fun aa ww hb he hd => ob_off 52 rfl (by kernel_rfl) hd.1 rfl
        · exact fun aa ww hb he hd => ob_off 52 rfl (by kernel_rfl) hd.1 rfl
        · exact fun aa ww hb he hd => ob_off 52 rfl (by kernel_rfl) hd.1 rfl
        · exact fun aa ww hb he hd => ob_off 52 rfl (by kernel_rfl) hd.1 rfl
        · exact fun aa ww hb he hd => ob_off 52 rfl (by kernel_rfl) hd.1 rfl
        · exact fun aa ww hb he hd => ob_off 52 rfl (by kernel_rfl) hd.1 rfl
        · exact fun aa ww hb he hd => ob_off 52 rfl (by kernel_rfl) hd.1 rfl
        · exact fun aa ww hb he hd => ob_plain rfl (gives_pick false _ _ _ rfl hd.1 ⟨rfl, Below.refl _ _⟩)
        · exact fun _ _ _ he hd => ob_mv rfl rfl hd.1
        · exact fun aa ww hb he hd => ob_off 62 rfl (by kernel_rfl) hd.1 rfl
        · exact fun aa ww hb he hd => ob_off 62 rfl (by kernel_rfl) hd.1 rfl
        · exact fun aa ww hb he hd => ob_off 62 rfl (by kernel_rfl) hd.1 rfl
        · exact fun aa ww hb he hd => ob_off 62 rfl (by kernel_rfl) hd.1 rfl
        · exact fun aa ww hb he hd => ob_off 62 rfl (by kernel_rfl) hd.1 rfl
        · exact fun aa ww hb he hd => ob_off 62 rfl (by kernel_rfl) hd.1 rfl
        · exact fun aa ww hb he hd => ob_plain rfl (gives_pick false _ _ _ rfl hd.1 ⟨rfl, Below.refl _ _⟩)
        · exact fun _ _ _ he hd => ob_mv rfl rfl hd.1
        · exact fun aa ww hb he hd => ob_off 70 rfl (by kernel_rfl) hd.1 rfl
        · exact fun aa ww hb he hd => ob_off 70 rfl (by kernel_rfl) hd.1 rfl
        · exact fun aa ww hb he hd => ob_off 70 rfl (by kernel_rfl) hd.1 rfl
        · exact fun aa ww hb he hd => ob_off 70 rfl (by kernel_rfl) hd.1 rfl
        · exact fun aa ww hb he hd => ob_off 70 rfl (by kernel_rfl) hd.1 rfl
        · exact fun aa ww hb he hd => ob_off 70 rfl (by kernel_rfl) hd.1 rfl
        · exact fun aa ww hb he hd => ob_plain rfl (gives_pick false _ _ _ rfl hd.1 ⟨rfl, Below.refl _ _⟩)
        · exact fun aa ww hb he hd => ob_plain rfl (gives_assign _ rfl ⟨hd.1, Below.refl _ _⟩)
      intro vs w5 hb hR
      have e11 : vs 46 = .bool false := hR 46 (by decide)
      clear hR
      simp only [putsL, Nat.zero_add, Nat.reduceAdd, List.take_succ_cons, List.take_zero, Act.put, List.setIfInBounds_toArray, List.set_cons_zero, List.set_cons_succ]
      rw [e11]
      clear e11
      replace HB := Lib.hid (bthen HB.out hb HB.out.size)
      replace HG := Lib.hid (HG.out.keep hb)
      replace HU := Lib.hid (HU.out.keep hb)
      replace HW1 := Lib.hid (Rs.newW HW1.out hb)
      replace HW2 := Lib.hid (Rs.newW HW2.out hb)
      replace HV := Lib.hid (HV.out.new hb)
      replace HX1 := Lib.hid (HX1.out.new hb)
      replace HY1 := Lib.hid (HY1.out.new hb)
      replace HC := Lib.hid (HC.out.keep hb)
      clear hb
      have x0 := Blk.at0 HG.out (Below.refl _ _); have x1 := Blk.at1 HG.out (Below.refl _ _)
      have y0 := Blk.at0 HC.out (Below.refl _ _); have y1 := Blk.at1 HC.out (Below.refl _ _); have y2 := Blk.at2 HC.out (Below.refl _ _); have y3 := Blk.at3 HC.out (Below.refl _ _); have y4 := Blk.at4 HC.out (Below.refl _ _)
      go_wp2_with fail
      refine (cvcheck_any (nn : Int) len ce s a c2 bn d2 2 AE A2 D2 s2 A5 B5 k5 c5 m5 d5 es _ _ _ w5 ((HE0.out.below HB.out).more HB.out.size) HS32.out HW1.out HW2.out HV.out (by omega) HGr.out.1).mono ?_
      rintro e w6 ⟨v, rfl, ⟨t, rfl, ht⟩, hb⟩
      obtain rfl : t = false := by
        cases t with
        | false => rfl
        | true => exact absurd (ht.1 rfl) (fun h => HCv.out ⟨h.2.2.1, (have q := (cov_int (v := vN) (w := inth xs) (p := inth ys) (show 0 < dn by have := HDn.out; omega)).1 (show CovOK nn len (nth es) s (fun i => fr (inth xs i) dn) (fun x => fr (inth ys x) dn) (fr vN dn) from h.2.2.2.2); q.1)⟩)
      clear ht
      replace HB := Lib.hid (bthen HB.out hb HB.out.size)
      replace HG := Lib.hid (HG.out.keep hb)
      replace HU := Lib.hid (HU.out.keep hb)
      replace HW1 := Lib.hid (Rs.newW HW1.out hb)
      replace HW2 := Lib.hid (Rs.newW HW2.out hb)
      replace HV := Lib.hid (HV.out.new hb)
      replace HX1 := Lib.hid (HX1.out.new hb)
      replace HY1 := Lib.hid (HY1.out.new hb)
      replace HC := Lib.hid (HC.out.keep hb)
      clear hb
      go_wp2_with fail
      refine (awake29_any _).mono ?_
      rintro e w7 ⟨rfl, hb⟩
      go_wp2_with fail
      go_ret
      exact ⟨rfl, bthen HB.out hb HB.out.size⟩
    have HCv := Lib.hid hcv; clear hcv
    by_cases hpk : bn = nn ∧ PkI nn len (nth es) s (inth ys) dn
    rotate_left
    · skip
      have HPk := Lib.hid hpk; clear hpk
      refine wp_region_each (kss := [[], [(0, 32)], [(1, 33)], [(2, 34)], [(3, 35)], [(3, 35), (4, 36)], [(3, 35)], [(3, 35), (6, 38)], [(3, 35), (5, 37), (7, 39)], [(3, 35), (8, 40)], [(9, 41)], [(10, 42)], [(10, 42), (11, 43)], [(10, 42)], [(10, 42), (13, 45)], [(10, 42)], [(10, 42)], [(10, 42)], [(10, 42), (12, 44), (14, 46), (15, 47), (16, 48), (17, 49)], [(10, 42), (18, 50)], [(19, 51)], [(20, 52)], [(20, 52), (21, 53)], [(20, 52)], [(20, 52), (23, 55)], [(20, 52)], [(20, 52)], [(20, 52)], [(20, 52), (22, 54), (24, 56), (25, 57), (26, 58), (27, 59)], [(20, 52), (28, 60)], [(29, 61)], [(30, 62)], [(30, 62), (31, 63)], [(30, 62)], [(30, 62), (33, 65)], [(30, 62), (34, 66)], [(30, 62), (32, 64), (35, 67)], [(30, 62), (36, 68)], [(37, 69)], [(38, 70)], [(38, 70), (39, 71)], [(38, 70)], [(38, 70), (41, 73)], [(38, 70), (42, 74)], [(38, 70), (40, 72), (43, 75)], [(38, 70), (44, 76)], [(45, 77)]]) [(3, .pointer (some ⟨g3, 0, none⟩)), (1, .int .u32 ((s : Int))), (8, .slice A1 a c1), (10, .int .i64 ((dn : Int))), (9, .slice D1 bn d1), (5, .pointer (some ⟨g5, 0, none⟩))] [EV (.agg #[.int .i64 ((nn : Int)), .slice AE len ce]), EV (.int .i64 ((checkCode (nn : Int) es))), EV (.bool true), EV (.bool true), EV (.int .u32 ((s : Int))), EV (.int .i64 (((Lib.bitLen s : Nat) : Int))), EV (.pointer (some ⟨g3, 0, none⟩)), EV (.int .i64 ((nn : Int))), EV (.bool true), EV (.bool true), EV (.bool true), EV (.pointer (some ⟨g3, 0, none⟩)), EV (.int .i64 ((nn : Int))), EV (.pointer (some ⟨g3, 1, none⟩)), EV (.slice AE len ce), EV (.int .u32 ((s : Int))), EV (.slice A1 a c1), EV (.int .i64 ((dn : Int))), EV (.bool true), EV (.bool true), EV (.bool true), EV (.pointer (some ⟨g3, 0, none⟩)), EV (.int .i64 ((nn : Int))), EV (.pointer (some ⟨g3, 1, none⟩)), EV (.slice AE len ce), EV (.int .u32 ((s : Int))), EV (.slice D1 bn d1), EV (.int .i64 ((dn : Int))), EV (.bool false), EV (.bool false), EV (.bool false), EV (undef), EV (undef), EV (undef), EV (undef), EV (undef), EV (undef), EV (.bool false), EV (.bool false), EV (undef), EV (undef), EV (undef), EV (undef), EV (undef), EV (undef), EV (.bool false), EV (.bool false)] (by kernel_rfl) (by kernel_rfl) ⟨rfl, rfl, rfl, rfl, rfl, rfl, trivial⟩ ?_ ?_ ?_
      · exact ⟨eI, eI, eI, eI, eI, eI, eI, eI, eI, eI, eI, eI, eI, eI, eI, eI, eI, eI, eI, eI, eI, eI, eI, eI, eI, eI, eI, eI, eI, eI, eI, eI, eI, eI, eI, eI, eI, eI, eI, eI, eI, eI, eI, eI, eI, eI, eI, trivial⟩
      · refine ⟨?_, ?_, ?_, ?_, ?_, ?_, ?_, ?_, ?_, ?_, ?_, ?_, ?_, ?_, ?_, ?_, ?_, ?_, ?_, ?_, ?_, ?_, ?_, ?_, ?_, ?_, ?_, ?_, ?_, ?_, ?_, ?_, ?_, ?_, ?_, ?_, ?_, ?_, ?_, ?_, ?_, ?_, ?_, ?_, ?_, ?_, ?_, trivial⟩
        · exact fun aa ww hb he hd => ob_plain rfl (load_hgr rfl he.1 (Blk.keep HG.out hb))
        · exact fun aa ww hb he hd => ob_plain rfl (gives_call1 _ _ _ rfl (by kernel_rfl) (by rw [show aa.eval (.tmp 32) = _ from hd.1]; exact rv_one (check_any (nn : Int) AE es len ce _ ((HE0.out.below (bthen HB.out hb HB.out.size)).more (bthen HB.out hb HB.out.size).size))))
        · exact fun aa ww hb he hd => ob_plain rfl (gives_eq_int ((checkCode (nn : Int) es)) 0 .i64 _ _ _ _ rfl hd.1 rfl ⟨congrArg Value.bool (by simpa using hc), Below.refl _ _⟩)
        · exact fun _ _ _ he hd => ob_mv rfl rfl hd.1
        · exact fun aa ww hb he hd => ob_on 35 rfl (by kernel_rfl) hd.1 (gives_move _ rfl ⟨he.2.1, Below.refl _ _⟩)
        · exact fun aa ww hb he hd => ob_on 35 rfl (by kernel_rfl) hd.1 (gives_call1 _ _ _ rfl (by kernel_rfl) (by rw [show aa.eval (.tmp 36) = _ from hd.2.1]; exact len32_v s HS32.out _))
        · exact fun aa ww hb he hd => ob_on 35 rfl (by kernel_rfl) hd.1 (fld_hgr (k := 0) rfl (by decide) he.1)
        · exact fun aa ww hb he hd => ob_on 35 rfl (by kernel_rfl) hd.1 (load_c3 rfl hd.2.1 (Blk.at0 HG.out hb))
        · exact fun aa ww hb he hd => ob_on 35 rfl (by kernel_rfl) hd.1 (gives_le_int (((Lib.bitLen s : Nat) : Int)) ((nn : Int)) .i64 _ _ _ _ rfl hd.2.1 hd.2.2.1 ⟨congrArg Value.bool (by simpa using hl), Below.refl _ _⟩)
        · exact fun aa ww hb he hd => ob_plain rfl (gives_pick true _ _ _ rfl hd.1 ⟨hd.2.1, Below.refl _ _⟩)
        · exact fun _ _ _ he hd => ob_mv rfl rfl hd.1
        · exact fun aa ww hb he hd => ob_on 42 rfl (by kernel_rfl) hd.1 (fld_hgr (k := 0) rfl (by decide) he.1)
        · exact fun aa ww hb he hd => ob_on 42 rfl (by kernel_rfl) hd.1 (load_c3 rfl hd.2.1 (Blk.at0 HG.out hb))
        · exact fun aa ww hb he hd => ob_on 42 rfl (by kernel_rfl) hd.1 (fld_hgr (k := 1) rfl (by decide) he.1)
        · exact fun aa ww hb he hd => ob_on 42 rfl (by kernel_rfl) hd.1 (load_c38 rfl hd.2.1 (Blk.at1 HG.out hb))
        · exact fun aa ww hb he hd => ob_on 42 rfl (by kernel_rfl) hd.1 (gives_move _ rfl ⟨he.2.1, Below.refl _ _⟩)
        · exact fun aa ww hb he hd => ob_on 42 rfl (by kernel_rfl) hd.1 (gives_move _ rfl ⟨he.2.2.1, Below.refl _ _⟩)
        · exact fun aa ww hb he hd => ob_on 42 rfl (by kernel_rfl) hd.1 (gives_move _ rfl ⟨he.2.2.2.1, Below.refl _ _⟩)
        · exact fun aa ww hb he hd => ob_on 42 rfl (by kernel_rfl) hd.1 (gives_call5 _ _ _ _ _ _ _ rfl (by kernel_rfl) (by rw [show aa.eval (.tmp 44) = _ from hd.2.1, show aa.eval (.tmp 46) = _ from hd.2.2.1, show aa.eval (.tmp 47) = _ from hd.2.2.2.1, show aa.eval (.tmp 48) = _ from hd.2.2.2.2.1, show aa.eval (.tmp 49) = _ from hd.2.2.2.2.2.1]; exact rvb_t (covers9_any nn len a s dn ce c1 AE A1 es xs _ ((HE0.out.below (bthen HB.out hb HB.out.size)).more (bthen HB.out hb HB.out.size).size) (HX1.out.new hb) HS32.out HN6.out (by have := HL7.out; have := HLn.out; omega) (by have := HDn.out; omega) HXb.out) HCv.out))
        · exact fun aa ww hb he hd => ob_plain rfl (gives_pick true _ _ _ rfl hd.1 ⟨hd.2.1, Below.refl _ _⟩)
        · exact fun _ _ _ he hd => ob_mv rfl rfl hd.1
        · exact fun aa ww hb he hd => ob_on 52 rfl (by kernel_rfl) hd.1 (fld_hgr (k := 0) rfl (by decide) he.1)
        · exact fun aa ww hb he hd => ob_on 52 rfl (by kernel_rfl) hd.1 (load_c3 rfl hd.2.1 (Blk.at0 HG.out hb))
        · exact fun aa ww hb he hd => ob_on 52 rfl (by kernel_rfl) hd.1 (fld_hgr (k := 1) rfl (by decide) he.1)
        · exact fun aa ww hb he hd => ob_on 52 rfl (by kernel_rfl) hd.1 (load_c38 rfl hd.2.1 (Blk.at1 HG.out hb))
        · exact fun aa ww hb he hd => ob_on 52 rfl (by kernel_rfl) hd.1 (gives_move _ rfl ⟨he.2.1, Below.refl _ _⟩)
        · exact fun aa ww hb he hd => ob_on 52 rfl (by kernel_rfl) hd.1 (gives_move _ rfl ⟨he.2.2.2.2.1, Below.refl _ _⟩)
        · exact fun aa ww hb he hd => ob_on 52 rfl (by kernel_rfl) hd.1 (gives_move _ rfl ⟨he.2.2.2.1, Below.refl _ _⟩)
        · exact fun aa ww hb he hd => ob_on 52 rfl (by kernel_rfl) hd.1 (gives_call5 _ _ _ _ _ _ _ rfl (by kernel_rfl) (by rw [show aa.eval (.tmp 54) = _ from hd.2.1, show aa.eval (.tmp 56) = _ from hd.2.2.1, show aa.eval (.tmp 57) = _ from hd.2.2.2.1, show aa.eval (.tmp 58) = _ from hd.2.2.2.2.1, show aa.eval (.tmp 59) = _ from hd.2.2.2.2.2.1]; exact rvb_f (packs9_any nn len bn s dn ce d1 AE D1 es ys _ ((HE0.out.below (bthen HB.out hb HB.out.size)).more (bthen HB.out hb HB.out.size).size) (HY1.out.new hb) HS32.out HN6.out (by have := HL7.out; have := HLn.out; omega) (by have := HDn.out; omega) HYb.out) HPk.out))
        · exact fun aa ww hb he hd => ob_plain rfl (gives_pick true _ _ _ rfl hd.1 ⟨hd.2.1, Below.refl _ _⟩)
        · exact fun _ _ _ he hd => ob_mv rfl rfl hd.1
        · exact fun aa ww hb he hd => ob_off 62 rfl (by kernel_rfl) hd.1 rfl
        · exact fun aa ww hb he hd => ob_off 62 rfl (by kernel_rfl) hd.1 rfl
        · exact fun aa ww hb he hd => ob_off 62 rfl (by kernel_rfl) hd.1 rfl
        · exact fun aa ww hb he hd => ob_off 62 rfl (by kernel_rfl) hd.1 rfl
        · exact fun aa ww hb he hd => ob_off 62 rfl (by kernel_rfl) hd.1 rfl
        · exact fun aa ww hb he hd => ob_off 62 rfl (by kernel_rfl) hd.1 rfl
        · exact fun aa ww hb he hd => ob_plain rfl (gives_pick false _ _ _ rfl hd.1 ⟨rfl, Below.refl _ _⟩)
        · exact fun _ _ _ he hd => ob_mv rfl rfl hd.1
        · exact fun aa ww hb he hd => ob_off 70 rfl (by kernel_rfl) hd.1 rfl
        · exact fun aa ww hb he hd => ob_off 70 rfl (by kernel_rfl) hd.1 rfl
        · exact fun aa ww hb he hd => ob_off 70 rfl (by kernel_rfl) hd.1 rfl
        · exact fun aa ww hb he hd => ob_off 70 rfl (by kernel_rfl) hd.1 rfl
        · exact fun aa ww hb he hd => ob_off 70 rfl (by kernel_rfl) hd.1 rfl
        · exact fun aa ww hb he hd => ob_off 70 rfl (by kernel_rfl) hd.1 rfl
        · exact fun aa ww hb he hd => ob_plain rfl (gives_pick false _ _ _ rfl hd.1 ⟨rfl, Below.refl _ _⟩)
        · exact fun aa ww hb he hd => ob_plain rfl (gives_assign _ rfl ⟨hd.1, Below.refl _ _⟩)
      intro vs w5 hb hR
      have e11 : vs 46 = .bool false := hR 46 (by decide)
      clear hR
      simp only [putsL, Nat.zero_add, Nat.reduceAdd, List.take_succ_cons, List.take_zero, Act.put, List.setIfInBounds_toArray, List.set_cons_zero, List.set_cons_succ]
      rw [e11]
      clear e11
      replace HB := Lib.hid (bthen HB.out hb HB.out.size)
      replace HG := Lib.hid (HG.out.keep hb)
      replace HU := Lib.hid (HU.out.keep hb)
      replace HW1 := Lib.hid (Rs.newW HW1.out hb)
      replace HW2 := Lib.hid (Rs.newW HW2.out hb)
      replace HV := Lib.hid (HV.out.new hb)
      replace HX1 := Lib.hid (HX1.out.new hb)
      replace HY1 := Lib.hid (HY1.out.new hb)
      replace HC := Lib.hid (HC.out.keep hb)
      clear hb
      have x0 := Blk.at0 HG.out (Below.refl _ _); have x1 := Blk.at1 HG.out (Below.refl _ _)
      have y0 := Blk.at0 HC.out (Below.refl _ _); have y1 := Blk.at1 HC.out (Below.refl _ _); have y2 := Blk.at2 HC.out (Below.refl _ _); have y3 := Blk.at3 HC.out (Below.refl _ _); have y4 := Blk.at4 HC.out (Below.refl _ _)
      go_wp2_with fail
      refine (cvcheck_any (nn : Int) len ce s a c2 bn d2 2 AE A2 D2 s2 A5 B5 k5 c5 m5 d5 es _ _ _ w5 ((HE0.out.below HB.out).more HB.out.size) HS32.out HW1.out HW2.out HV.out (by omega) HGr.out.1).mono ?_
      rintro e w6 ⟨v, rfl, ⟨t, rfl, ht⟩, hb⟩
      obtain rfl : t = false := by
        cases t with
        | false => rfl
        | true => exact absurd (ht.1 rfl) (fun h => HPk.out ⟨by simpa using h.2.2.2.1, (have q := (cov_int (v := vN) (w := inth xs) (p := inth ys) (show 0 < dn by have := HDn.out; omega)).1 (show CovOK nn len (nth es) s (fun i => fr (inth xs i) dn) (fun x => fr (inth ys x) dn) (fr vN dn) from h.2.2.2.2); q.2.1)⟩)
      clear ht
      replace HB := Lib.hid (bthen HB.out hb HB.out.size)
      replace HG := Lib.hid (HG.out.keep hb)
      replace HU := Lib.hid (HU.out.keep hb)
      replace HW1 := Lib.hid (Rs.newW HW1.out hb)
      replace HW2 := Lib.hid (Rs.newW HW2.out hb)
      replace HV := Lib.hid (HV.out.new hb)
      replace HX1 := Lib.hid (HX1.out.new hb)
      replace HY1 := Lib.hid (HY1.out.new hb)
      replace HC := Lib.hid (HC.out.keep hb)
      clear hb
      go_wp2_with fail
      refine (awake29_any _).mono ?_
      rintro e w7 ⟨rfl, hb⟩
      go_wp2_with fail
      go_ret
      exact ⟨rfl, bthen HB.out hb HB.out.size⟩
    have HPk := Lib.hid hpk; clear hpk
    by_cases hs1 : isum (inth xs) a = vN
    rotate_left
    · skip
      have HS1 := Lib.hid hs1; clear hs1
      refine wp_region_each (kss := [[], [(0, 32)], [(1, 33)], [(2, 34)], [(3, 35)], [(3, 35), (4, 36)], [(3, 35)], [(3, 35), (6, 38)], [(3, 35), (5, 37), (7, 39)], [(3, 35), (8, 40)], [(9, 41)], [(10, 42)], [(10, 42), (11, 43)], [(10, 42)], [(10, 42), (13, 45)], [(10, 42)], [(10, 42)], [(10, 42)], [(10, 42), (12, 44), (14, 46), (15, 47), (16, 48), (17, 49)], [(10, 42), (18, 50)], [(19, 51)], [(20, 52)], [(20, 52), (21, 53)], [(20, 52)], [(20, 52), (23, 55)], [(20, 52)], [(20, 52)], [(20, 52)], [(20, 52), (22, 54), (24, 56), (25, 57), (26, 58), (27, 59)], [(20, 52), (28, 60)], [(29, 61)], [(30, 62)], [(30, 62), (31, 63)], [(30, 62)], [(30, 62), (33, 65)], [(30, 62), (34, 66)], [(30, 62), (32, 64), (35, 67)], [(30, 62), (36, 68)], [(37, 69)], [(38, 70)], [(38, 70), (39, 71)], [(38, 70)], [(38, 70), (41, 73)], [(38, 70), (42, 74)], [(38, 70), (40, 72), (43, 75)], [(38, 70), (44, 76)], [(45, 77)]]) [(3, .pointer (some ⟨g3, 0, none⟩)), (1, .int .u32 ((s : Int))), (8, .slice A1 a c1), (10, .int .i64 ((dn : Int))), (9, .slice D1 bn d1), (5, .pointer (some ⟨g5, 0, none⟩))] [EV (.agg #[.int .i64 ((nn : Int)), .slice AE len ce]), EV (.int .i64 ((checkCode (nn : Int) es))), EV (.bool true), EV (.bool true), EV (.int .u32 ((s : Int))), EV (.int .i64 (((Lib.bitLen s : Nat) : Int))), EV (.pointer (some ⟨g3, 0, none⟩)), EV (.int .i64 ((nn : Int))), EV (.bool true), EV (.bool true), EV (.bool true), EV (.pointer (some ⟨g3, 0, none⟩)), EV (.int .i64 ((nn : Int))), EV (.pointer (some ⟨g3, 1, none⟩)), EV (.slice AE len ce), EV (.int .u32 ((s : Int))), EV (.slice A1 a c1), EV (.int .i64 ((dn : Int))), EV (.bool true), EV (.bool true), EV (.bool true), EV (.pointer (some ⟨g3, 0, none⟩)), EV (.int .i64 ((nn : Int))), EV (.pointer (some ⟨g3, 1, none⟩)), EV (.slice AE len ce), EV (.int .u32 ((s : Int))), EV (.slice D1 bn d1), EV (.int .i64 ((dn : Int))), EV (.bool true), EV (.bool true), EV (.bool true), EV (.slice A1 a c1), EV (.int .i64 ((isum (inth xs) a))), EV (.pointer (some ⟨g5, 3, none⟩)), EV (.int .i8 vN), EV (.int .i64 vN), EV (.bool false), EV (.bool false), EV (.bool false), EV (undef), EV (undef), EV (undef), EV (undef), EV (undef), EV (undef), EV (.bool false), EV (.bool false)] (by kernel_rfl) (by kernel_rfl) ⟨rfl, rfl, rfl, rfl, rfl, rfl, trivial⟩ ?_ ?_ ?_
      · exact ⟨eI, eI, eI, eI, eI, eI, eI, eI, eI, eI, eI, eI, eI, eI, eI, eI, eI, eI, eI, eI, eI, eI, eI, eI, eI, eI, eI, eI, eI, eI, eI, eI, eI, eI, eI, eI, eI, eI, eI, eI, eI, eI, eI, eI, eI, eI, eI, trivial⟩
      · refine ⟨?_, ?_, ?_, ?_, ?_, ?_, ?_, ?_, ?_, ?_, ?_, ?_, ?_, ?_, ?_, ?_, ?_, ?_, ?_, ?_, ?_, ?_, ?_, ?_, ?_, ?_, ?_, ?_, ?_, ?_, ?_, ?_, ?_, ?_, ?_, ?_, ?_, ?_, ?_, ?_, ?_, ?_, ?_, ?_, ?_, ?_, ?_, trivial⟩
        · exact fun aa ww hb he hd => ob_plain rfl (load_hgr rfl he.1 (Blk.keep HG.out hb))
        · exact fun aa ww hb he hd => ob_plain rfl (gives_call1 _ _ _ rfl (by kernel_rfl) (by rw [show aa.eval (.tmp 32) = _ from hd.1]; exact rv_one (check_any (nn : Int) AE es len ce _ ((HE0.out.below (bthen HB.out hb HB.out.size)).more (bthen HB.out hb HB.out.size).size))))
        · exact fun aa ww hb he hd => ob_plain rfl (gives_eq_int ((checkCode (nn : Int) es)) 0 .i64 _ _ _ _ rfl hd.1 rfl ⟨congrArg Value.bool (by simpa using hc), Below.refl _ _⟩)
        · exact fun _ _ _ he hd => ob_mv rfl rfl hd.1
        · exact fun aa ww hb he hd => ob_on 35 rfl (by kernel_rfl) hd.1 (gives_move _ rfl ⟨he.2.1, Below.refl _ _⟩)
        · exact fun aa ww hb he hd => ob_on 35 rfl (by kernel_rfl) hd.1 (gives_call1 _ _ _ rfl (by kernel_rfl) (by rw [show aa.eval (.tmp 36) = _ from hd.2.1]; exact len32_v s HS32.out _))
        · exact fun aa ww hb he hd => ob_on 35 rfl (by kernel_rfl) hd.1 (fld_hgr (k := 0) rfl (by decide) he.1)
        · exact fun aa ww hb he hd => ob_on 35 rfl (by kernel_rfl) hd.1 (load_c3 rfl hd.2.1 (Blk.at0 HG.out hb))
        · exact fun aa ww hb he hd => ob_on 35 rfl (by kernel_rfl) hd.1 (gives_le_int (((Lib.bitLen s : Nat) : Int)) ((nn : Int)) .i64 _ _ _ _ rfl hd.2.1 hd.2.2.1 ⟨congrArg Value.bool (by simpa using hl), Below.refl _ _⟩)
        · exact fun aa ww hb he hd => ob_plain rfl (gives_pick true _ _ _ rfl hd.1 ⟨hd.2.1, Below.refl _ _⟩)
        · exact fun _ _ _ he hd => ob_mv rfl rfl hd.1
        · exact fun aa ww hb he hd => ob_on 42 rfl (by kernel_rfl) hd.1 (fld_hgr (k := 0) rfl (by decide) he.1)
        · exact fun aa ww hb he hd => ob_on 42 rfl (by kernel_rfl) hd.1 (load_c3 rfl hd.2.1 (Blk.at0 HG.out hb))
        · exact fun aa ww hb he hd => ob_on 42 rfl (by kernel_rfl) hd.1 (fld_hgr (k := 1) rfl (by decide) he.1)
        · exact fun aa ww hb he hd => ob_on 42 rfl (by kernel_rfl) hd.1 (load_c38 rfl hd.2.1 (Blk.at1 HG.out hb))
        · exact fun aa ww hb he hd => ob_on 42 rfl (by kernel_rfl) hd.1 (gives_move _ rfl ⟨he.2.1, Below.refl _ _⟩)
        · exact fun aa ww hb he hd => ob_on 42 rfl (by kernel_rfl) hd.1 (gives_move _ rfl ⟨he.2.2.1, Below.refl _ _⟩)
        · exact fun aa ww hb he hd => ob_on 42 rfl (by kernel_rfl) hd.1 (gives_move _ rfl ⟨he.2.2.2.1, Below.refl _ _⟩)
        · exact fun aa ww hb he hd => ob_on 42 rfl (by kernel_rfl) hd.1 (gives_call5 _ _ _ _ _ _ _ rfl (by kernel_rfl) (by rw [show aa.eval (.tmp 44) = _ from hd.2.1, show aa.eval (.tmp 46) = _ from hd.2.2.1, show aa.eval (.tmp 47) = _ from hd.2.2.2.1, show aa.eval (.tmp 48) = _ from hd.2.2.2.2.1, show aa.eval (.tmp 49) = _ from hd.2.2.2.2.2.1]; exact rvb_t (covers9_any nn len a s dn ce c1 AE A1 es xs _ ((HE0.out.below (bthen HB.out hb HB.out.size)).more (bthen HB.out hb HB.out.size).size) (HX1.out.new hb) HS32.out HN6.out (by have := HL7.out; have := HLn.out; omega) (by have := HDn.out; omega) HXb.out) HCv.out))
        · exact fun aa ww hb he hd => ob_plain rfl (gives_pick true _ _ _ rfl hd.1 ⟨hd.2.1, Below.refl _ _⟩)
        · exact fun _ _ _ he hd => ob_mv rfl rfl hd.1
        · exact fun aa ww hb he hd => ob_on 52 rfl (by kernel_rfl) hd.1 (fld_hgr (k := 0) rfl (by decide) he.1)
        · exact fun aa ww hb he hd => ob_on 52 rfl (by kernel_rfl) hd.1 (load_c3 rfl hd.2.1 (Blk.at0 HG.out hb))
        · exact fun aa ww hb he hd => ob_on 52 rfl (by kernel_rfl) hd.1 (fld_hgr (k := 1) rfl (by decide) he.1)
        · exact fun aa ww hb he hd => ob_on 52 rfl (by kernel_rfl) hd.1 (load_c38 rfl hd.2.1 (Blk.at1 HG.out hb))
        · exact fun aa ww hb he hd => ob_on 52 rfl (by kernel_rfl) hd.1 (gives_move _ rfl ⟨he.2.1, Below.refl _ _⟩)
        · exact fun aa ww hb he hd => ob_on 52 rfl (by kernel_rfl) hd.1 (gives_move _ rfl ⟨he.2.2.2.2.1, Below.refl _ _⟩)
        · exact fun aa ww hb he hd => ob_on 52 rfl (by kernel_rfl) hd.1 (gives_move _ rfl ⟨he.2.2.2.1, Below.refl _ _⟩)
        · exact fun aa ww hb he hd => ob_on 52 rfl (by kernel_rfl) hd.1 (gives_call5 _ _ _ _ _ _ _ rfl (by kernel_rfl) (by rw [show aa.eval (.tmp 54) = _ from hd.2.1, show aa.eval (.tmp 56) = _ from hd.2.2.1, show aa.eval (.tmp 57) = _ from hd.2.2.2.1, show aa.eval (.tmp 58) = _ from hd.2.2.2.2.1, show aa.eval (.tmp 59) = _ from hd.2.2.2.2.2.1]; exact rvb_t (packs9_any nn len bn s dn ce d1 AE D1 es ys _ ((HE0.out.below (bthen HB.out hb HB.out.size)).more (bthen HB.out hb HB.out.size).size) (HY1.out.new hb) HS32.out HN6.out (by have := HL7.out; have := HLn.out; omega) (by have := HDn.out; omega) HYb.out) HPk.out))
        · exact fun aa ww hb he hd => ob_plain rfl (gives_pick true _ _ _ rfl hd.1 ⟨hd.2.1, Below.refl _ _⟩)
        · exact fun _ _ _ he hd => ob_mv rfl rfl hd.1
        · exact fun aa ww hb he hd => ob_on 62 rfl (by kernel_rfl) hd.1 (gives_move _ rfl ⟨he.2.2.1, Below.refl _ _⟩)
        · exact fun aa ww hb he hd => ob_on 62 rfl (by kernel_rfl) hd.1 (gives_call1 _ _ _ rfl (by kernel_rfl) (by rw [show aa.eval (.tmp 63) = _ from hd.2.1]; exact rv_sum9 (HX1.out.new hb) (by have := HLn.out; omega) HXb.out))
        · exact fun aa ww hb he hd => ob_on 62 rfl (by kernel_rfl) hd.1 (fld_gus (k := 3) rfl (by decide) he.2.2.2.2.2.1)
        · exact fun aa ww hb he hd => ob_on 62 rfl (by kernel_rfl) hd.1 (load_i8n rfl hd.2.1 (Blk.at3 HU.out hb))
        · exact fun aa ww hb he hd => ob_on 62 rfl (by kernel_rfl) hd.1 (conv_i8n HVn.out rfl hd.2.1)
        · exact fun aa ww hb he hd => ob_on 62 rfl (by kernel_rfl) hd.1 (gives_eq_int ((isum (inth xs) a)) vN .i64 _ _ _ _ rfl hd.2.1 hd.2.2.1 ⟨congrArg Value.bool (by have hs1 := HS1.out; simpa using hs1), Below.refl _ _⟩)
        · exact fun aa ww hb he hd => ob_plain rfl (gives_pick true _ _ _ rfl hd.1 ⟨hd.2.1, Below.refl _ _⟩)
        · exact fun _ _ _ he hd => ob_mv rfl rfl hd.1
        · exact fun aa ww hb he hd => ob_off 70 rfl (by kernel_rfl) hd.1 rfl
        · exact fun aa ww hb he hd => ob_off 70 rfl (by kernel_rfl) hd.1 rfl
        · exact fun aa ww hb he hd => ob_off 70 rfl (by kernel_rfl) hd.1 rfl
        · exact fun aa ww hb he hd => ob_off 70 rfl (by kernel_rfl) hd.1 rfl
        · exact fun aa ww hb he hd => ob_off 70 rfl (by kernel_rfl) hd.1 rfl
        · exact fun aa ww hb he hd => ob_off 70 rfl (by kernel_rfl) hd.1 rfl
        · exact fun aa ww hb he hd => ob_plain rfl (gives_pick false _ _ _ rfl hd.1 ⟨rfl, Below.refl _ _⟩)
        · exact fun aa ww hb he hd => ob_plain rfl (gives_assign _ rfl ⟨hd.1, Below.refl _ _⟩)
      intro vs w5 hb hR
      have e11 : vs 46 = .bool false := hR 46 (by decide)
      clear hR
      simp only [putsL, Nat.zero_add, Nat.reduceAdd, List.take_succ_cons, List.take_zero, Act.put, List.setIfInBounds_toArray, List.set_cons_zero, List.set_cons_succ]
      rw [e11]
      clear e11
      replace HB := Lib.hid (bthen HB.out hb HB.out.size)
      replace HG := Lib.hid (HG.out.keep hb)
      replace HU := Lib.hid (HU.out.keep hb)
      replace HW1 := Lib.hid (Rs.newW HW1.out hb)
      replace HW2 := Lib.hid (Rs.newW HW2.out hb)
      replace HV := Lib.hid (HV.out.new hb)
      replace HX1 := Lib.hid (HX1.out.new hb)
      replace HY1 := Lib.hid (HY1.out.new hb)
      replace HC := Lib.hid (HC.out.keep hb)
      clear hb
      have x0 := Blk.at0 HG.out (Below.refl _ _); have x1 := Blk.at1 HG.out (Below.refl _ _)
      have y0 := Blk.at0 HC.out (Below.refl _ _); have y1 := Blk.at1 HC.out (Below.refl _ _); have y2 := Blk.at2 HC.out (Below.refl _ _); have y3 := Blk.at3 HC.out (Below.refl _ _); have y4 := Blk.at4 HC.out (Below.refl _ _)
      go_wp2_with fail
      refine (cvcheck_any (nn : Int) len ce s a c2 bn d2 2 AE A2 D2 s2 A5 B5 k5 c5 m5 d5 es _ _ _ w5 ((HE0.out.below HB.out).more HB.out.size) HS32.out HW1.out HW2.out HV.out (by omega) HGr.out.1).mono ?_
      rintro e w6 ⟨v, rfl, ⟨t, rfl, ht⟩, hb⟩
      obtain rfl : t = false := by
        cases t with
        | false => rfl
        | true => exact absurd (ht.1 rfl) (fun h => HS1.out (have q := (cov_int (v := vN) (w := inth xs) (p := inth ys) (show 0 < dn by have := HDn.out; omega)).1 (show CovOK nn len (nth es) s (fun i => fr (inth xs i) dn) (fun x => fr (inth ys x) dn) (fr vN dn) from h.2.2.2.2); by rw [HCv.out.1]; exact q.2.2.1))
      clear ht
      replace HB := Lib.hid (bthen HB.out hb HB.out.size)
      replace HG := Lib.hid (HG.out.keep hb)
      replace HU := Lib.hid (HU.out.keep hb)
      replace HW1 := Lib.hid (Rs.newW HW1.out hb)
      replace HW2 := Lib.hid (Rs.newW HW2.out hb)
      replace HV := Lib.hid (HV.out.new hb)
      replace HX1 := Lib.hid (HX1.out.new hb)
      replace HY1 := Lib.hid (HY1.out.new hb)
      replace HC := Lib.hid (HC.out.keep hb)
      clear hb
      go_wp2_with fail
      refine (awake29_any _).mono ?_
      rintro e w7 ⟨rfl, hb⟩
      go_wp2_with fail
      go_ret
      exact ⟨rfl, bthen HB.out hb HB.out.size⟩
    have HS1 := Lib.hid hs1; clear hs1
    by_cases hs2 : isum (inth ys) bn = vN
    rotate_left
    · skip
      have HS2 := Lib.hid hs2; clear hs2
      refine wp_region_each (kss := [[], [(0, 32)], [(1, 33)], [(2, 34)], [(3, 35)], [(3, 35), (4, 36)], [(3, 35)], [(3, 35), (6, 38)], [(3, 35), (5, 37), (7, 39)], [(3, 35), (8, 40)], [(9, 41)], [(10, 42)], [(10, 42), (11, 43)], [(10, 42)], [(10, 42), (13, 45)], [(10, 42)], [(10, 42)], [(10, 42)], [(10, 42), (12, 44), (14, 46), (15, 47), (16, 48), (17, 49)], [(10, 42), (18, 50)], [(19, 51)], [(20, 52)], [(20, 52), (21, 53)], [(20, 52)], [(20, 52), (23, 55)], [(20, 52)], [(20, 52)], [(20, 52)], [(20, 52), (22, 54), (24, 56), (25, 57), (26, 58), (27, 59)], [(20, 52), (28, 60)], [(29, 61)], [(30, 62)], [(30, 62), (31, 63)], [(30, 62)], [(30, 62), (33, 65)], [(30, 62), (34, 66)], [(30, 62), (32, 64), (35, 67)], [(30, 62), (36, 68)], [(37, 69)], [(38, 70)], [(38, 70), (39, 71)], [(38, 70)], [(38, 70), (41, 73)], [(38, 70), (42, 74)], [(38, 70), (40, 72), (43, 75)], [(38, 70), (44, 76)], [(45, 77)]]) [(3, .pointer (some ⟨g3, 0, none⟩)), (1, .int .u32 ((s : Int))), (8, .slice A1 a c1), (10, .int .i64 ((dn : Int))), (9, .slice D1 bn d1), (5, .pointer (some ⟨g5, 0, none⟩))] [EV (.agg #[.int .i64 ((nn : Int)), .slice AE len ce]), EV (.int .i64 ((checkCode (nn : Int) es))), EV (.bool true), EV (.bool true), EV (.int .u32 ((s : Int))), EV (.int .i64 (((Lib.bitLen s : Nat) : Int))), EV (.pointer (some ⟨g3, 0, none⟩)), EV (.int .i64 ((nn : Int))), EV (.bool true), EV (.bool true), EV (.bool true), EV (.pointer (some ⟨g3, 0, none⟩)), EV (.int .i64 ((nn : Int))), EV (.pointer (some ⟨g3, 1, none⟩)), EV (.slice AE len ce), EV (.int .u32 ((s : Int))), EV (.slice A1 a c1), EV (.int .i64 ((dn : Int))), EV (.bool true), EV (.bool true), EV (.bool true), EV (.pointer (some ⟨g3, 0, none⟩)), EV (.int .i64 ((nn : Int))), EV (.pointer (some ⟨g3, 1, none⟩)), EV (.slice AE len ce), EV (.int .u32 ((s : Int))), EV (.slice D1 bn d1), EV (.int .i64 ((dn : Int))), EV (.bool true), EV (.bool true), EV (.bool true), EV (.slice A1 a c1), EV (.int .i64 ((isum (inth xs) a))), EV (.pointer (some ⟨g5, 3, none⟩)), EV (.int .i8 vN), EV (.int .i64 vN), EV (.bool true), EV (.bool true), EV (.bool true), EV (.slice D1 bn d1), EV (.int .i64 ((isum (inth ys) bn))), EV (.pointer (some ⟨g5, 3, none⟩)), EV (.int .i8 vN), EV (.int .i64 vN), EV (.bool false), EV (.bool false), EV (.bool false)] (by kernel_rfl) (by kernel_rfl) ⟨rfl, rfl, rfl, rfl, rfl, rfl, trivial⟩ ?_ ?_ ?_
      · exact ⟨eI, eI, eI, eI, eI, eI, eI, eI, eI, eI, eI, eI, eI, eI, eI, eI, eI, eI, eI, eI, eI, eI, eI, eI, eI, eI, eI, eI, eI, eI, eI, eI, eI, eI, eI, eI, eI, eI, eI, eI, eI, eI, eI, eI, eI, eI, eI, trivial⟩
      · refine ⟨?_, ?_, ?_, ?_, ?_, ?_, ?_, ?_, ?_, ?_, ?_, ?_, ?_, ?_, ?_, ?_, ?_, ?_, ?_, ?_, ?_, ?_, ?_, ?_, ?_, ?_, ?_, ?_, ?_, ?_, ?_, ?_, ?_, ?_, ?_, ?_, ?_, ?_, ?_, ?_, ?_, ?_, ?_, ?_, ?_, ?_, ?_, trivial⟩
        · exact fun aa ww hb he hd => ob_plain rfl (load_hgr rfl he.1 (Blk.keep HG.out hb))
        · exact fun aa ww hb he hd => ob_plain rfl (gives_call1 _ _ _ rfl (by kernel_rfl) (by rw [show aa.eval (.tmp 32) = _ from hd.1]; exact rv_one (check_any (nn : Int) AE es len ce _ ((HE0.out.below (bthen HB.out hb HB.out.size)).more (bthen HB.out hb HB.out.size).size))))
        · exact fun aa ww hb he hd => ob_plain rfl (gives_eq_int ((checkCode (nn : Int) es)) 0 .i64 _ _ _ _ rfl hd.1 rfl ⟨congrArg Value.bool (by simpa using hc), Below.refl _ _⟩)
        · exact fun _ _ _ he hd => ob_mv rfl rfl hd.1
        · exact fun aa ww hb he hd => ob_on 35 rfl (by kernel_rfl) hd.1 (gives_move _ rfl ⟨he.2.1, Below.refl _ _⟩)
        · exact fun aa ww hb he hd => ob_on 35 rfl (by kernel_rfl) hd.1 (gives_call1 _ _ _ rfl (by kernel_rfl) (by rw [show aa.eval (.tmp 36) = _ from hd.2.1]; exact len32_v s HS32.out _))
        · exact fun aa ww hb he hd => ob_on 35 rfl (by kernel_rfl) hd.1 (fld_hgr (k := 0) rfl (by decide) he.1)
        · exact fun aa ww hb he hd => ob_on 35 rfl (by kernel_rfl) hd.1 (load_c3 rfl hd.2.1 (Blk.at0 HG.out hb))
        · exact fun aa ww hb he hd => ob_on 35 rfl (by kernel_rfl) hd.1 (gives_le_int (((Lib.bitLen s : Nat) : Int)) ((nn : Int)) .i64 _ _ _ _ rfl hd.2.1 hd.2.2.1 ⟨congrArg Value.bool (by simpa using hl), Below.refl _ _⟩)
        · exact fun aa ww hb he hd => ob_plain rfl (gives_pick true _ _ _ rfl hd.1 ⟨hd.2.1, Below.refl _ _⟩)
        · exact fun _ _ _ he hd => ob_mv rfl rfl hd.1
        · exact fun aa ww hb he hd => ob_on 42 rfl (by kernel_rfl) hd.1 (fld_hgr (k := 0) rfl (by decide) he.1)
        · exact fun aa ww hb he hd => ob_on 42 rfl (by kernel_rfl) hd.1 (load_c3 rfl hd.2.1 (Blk.at0 HG.out hb))
        · exact fun aa ww hb he hd => ob_on 42 rfl (by kernel_rfl) hd.1 (fld_hgr (k := 1) rfl (by decide) he.1)
        · exact fun aa ww hb he hd => ob_on 42 rfl (by kernel_rfl) hd.1 (load_c38 rfl hd.2.1 (Blk.at1 HG.out hb))
        · exact fun aa ww hb he hd => ob_on 42 rfl (by kernel_rfl) hd.1 (gives_move _ rfl ⟨he.2.1, Below.refl _ _⟩)
        · exact fun aa ww hb he hd => ob_on 42 rfl (by kernel_rfl) hd.1 (gives_move _ rfl ⟨he.2.2.1, Below.refl _ _⟩)
        · exact fun aa ww hb he hd => ob_on 42 rfl (by kernel_rfl) hd.1 (gives_move _ rfl ⟨he.2.2.2.1, Below.refl _ _⟩)
        · exact fun aa ww hb he hd => ob_on 42 rfl (by kernel_rfl) hd.1 (gives_call5 _ _ _ _ _ _ _ rfl (by kernel_rfl) (by rw [show aa.eval (.tmp 44) = _ from hd.2.1, show aa.eval (.tmp 46) = _ from hd.2.2.1, show aa.eval (.tmp 47) = _ from hd.2.2.2.1, show aa.eval (.tmp 48) = _ from hd.2.2.2.2.1, show aa.eval (.tmp 49) = _ from hd.2.2.2.2.2.1]; exact rvb_t (covers9_any nn len a s dn ce c1 AE A1 es xs _ ((HE0.out.below (bthen HB.out hb HB.out.size)).more (bthen HB.out hb HB.out.size).size) (HX1.out.new hb) HS32.out HN6.out (by have := HL7.out; have := HLn.out; omega) (by have := HDn.out; omega) HXb.out) HCv.out))
        · exact fun aa ww hb he hd => ob_plain rfl (gives_pick true _ _ _ rfl hd.1 ⟨hd.2.1, Below.refl _ _⟩)
        · exact fun _ _ _ he hd => ob_mv rfl rfl hd.1
        · exact fun aa ww hb he hd => ob_on 52 rfl (by kernel_rfl) hd.1 (fld_hgr (k := 0) rfl (by decide) he.1)
        · exact fun aa ww hb he hd => ob_on 52 rfl (by kernel_rfl) hd.1 (load_c3 rfl hd.2.1 (Blk.at0 HG.out hb))
        · exact fun aa ww hb he hd => ob_on 52 rfl (by kernel_rfl) hd.1 (fld_hgr (k := 1) rfl (by decide) he.1)
        · exact fun aa ww hb he hd => ob_on 52 rfl (by kernel_rfl) hd.1 (load_c38 rfl hd.2.1 (Blk.at1 HG.out hb))
        · exact fun aa ww hb he hd => ob_on 52 rfl (by kernel_rfl) hd.1 (gives_move _ rfl ⟨he.2.1, Below.refl _ _⟩)
        · exact fun aa ww hb he hd => ob_on 52 rfl (by kernel_rfl) hd.1 (gives_move _ rfl ⟨he.2.2.2.2.1, Below.refl _ _⟩)
        · exact fun aa ww hb he hd => ob_on 52 rfl (by kernel_rfl) hd.1 (gives_move _ rfl ⟨he.2.2.2.1, Below.refl _ _⟩)
        · exact fun aa ww hb he hd => ob_on 52 rfl (by kernel_rfl) hd.1 (gives_call5 _ _ _ _ _ _ _ rfl (by kernel_rfl) (by rw [show aa.eval (.tmp 54) = _ from hd.2.1, show aa.eval (.tmp 56) = _ from hd.2.2.1, show aa.eval (.tmp 57) = _ from hd.2.2.2.1, show aa.eval (.tmp 58) = _ from hd.2.2.2.2.1, show aa.eval (.tmp 59) = _ from hd.2.2.2.2.2.1]; exact rvb_t (packs9_any nn len bn s dn ce d1 AE D1 es ys _ ((HE0.out.below (bthen HB.out hb HB.out.size)).more (bthen HB.out hb HB.out.size).size) (HY1.out.new hb) HS32.out HN6.out (by have := HL7.out; have := HLn.out; omega) (by have := HDn.out; omega) HYb.out) HPk.out))
        · exact fun aa ww hb he hd => ob_plain rfl (gives_pick true _ _ _ rfl hd.1 ⟨hd.2.1, Below.refl _ _⟩)
        · exact fun _ _ _ he hd => ob_mv rfl rfl hd.1
        · exact fun aa ww hb he hd => ob_on 62 rfl (by kernel_rfl) hd.1 (gives_move _ rfl ⟨he.2.2.1, Below.refl _ _⟩)
        · exact fun aa ww hb he hd => ob_on 62 rfl (by kernel_rfl) hd.1 (gives_call1 _ _ _ rfl (by kernel_rfl) (by rw [show aa.eval (.tmp 63) = _ from hd.2.1]; exact rv_sum9 (HX1.out.new hb) (by have := HLn.out; omega) HXb.out))
        · exact fun aa ww hb he hd => ob_on 62 rfl (by kernel_rfl) hd.1 (fld_gus (k := 3) rfl (by decide) he.2.2.2.2.2.1)
        · exact fun aa ww hb he hd => ob_on 62 rfl (by kernel_rfl) hd.1 (load_i8n rfl hd.2.1 (Blk.at3 HU.out hb))
        · exact fun aa ww hb he hd => ob_on 62 rfl (by kernel_rfl) hd.1 (conv_i8n HVn.out rfl hd.2.1)
        · exact fun aa ww hb he hd => ob_on 62 rfl (by kernel_rfl) hd.1 (gives_eq_int ((isum (inth xs) a)) vN .i64 _ _ _ _ rfl hd.2.1 hd.2.2.1 ⟨congrArg Value.bool (by have hs1 := HS1.out; simpa using hs1), Below.refl _ _⟩)
        · exact fun aa ww hb he hd => ob_plain rfl (gives_pick true _ _ _ rfl hd.1 ⟨hd.2.1, Below.refl _ _⟩)
        · exact fun _ _ _ he hd => ob_mv rfl rfl hd.1
        · exact fun aa ww hb he hd => ob_on 70 rfl (by kernel_rfl) hd.1 (gives_move _ rfl ⟨he.2.2.2.2.1, Below.refl _ _⟩)
        · exact fun aa ww hb he hd => ob_on 70 rfl (by kernel_rfl) hd.1 (gives_call1 _ _ _ rfl (by kernel_rfl) (by rw [show aa.eval (.tmp 71) = _ from hd.2.1]; exact rv_sum9 (HY1.out.new hb) (by have := HLn.out; omega) HYb.out))
        · exact fun aa ww hb he hd => ob_on 70 rfl (by kernel_rfl) hd.1 (fld_gus (k := 3) rfl (by decide) he.2.2.2.2.2.1)
        · exact fun aa ww hb he hd => ob_on 70 rfl (by kernel_rfl) hd.1 (load_i8n rfl hd.2.1 (Blk.at3 HU.out hb))
        · exact fun aa ww hb he hd => ob_on 70 rfl (by kernel_rfl) hd.1 (conv_i8n HVn.out rfl hd.2.1)
        · exact fun aa ww hb he hd => ob_on 70 rfl (by kernel_rfl) hd.1 (gives_eq_int ((isum (inth ys) bn)) vN .i64 _ _ _ _ rfl hd.2.1 hd.2.2.1 ⟨congrArg Value.bool (by have hs2 := HS2.out; simpa using hs2), Below.refl _ _⟩)
        · exact fun aa ww hb he hd => ob_plain rfl (gives_pick true _ _ _ rfl hd.1 ⟨hd.2.1, Below.refl _ _⟩)
        · exact fun aa ww hb he hd => ob_plain rfl (gives_assign _ rfl ⟨hd.1, Below.refl _ _⟩)
      intro vs w5 hb hR
      have e11 : vs 46 = .bool false := hR 46 (by decide)
      clear hR
      simp only [putsL, Nat.zero_add, Nat.reduceAdd, List.take_succ_cons, List.take_zero, Act.put, List.setIfInBounds_toArray, List.set_cons_zero, List.set_cons_succ]
      rw [e11]
      clear e11
      replace HB := Lib.hid (bthen HB.out hb HB.out.size)
      replace HG := Lib.hid (HG.out.keep hb)
      replace HU := Lib.hid (HU.out.keep hb)
      replace HW1 := Lib.hid (Rs.newW HW1.out hb)
      replace HW2 := Lib.hid (Rs.newW HW2.out hb)
      replace HV := Lib.hid (HV.out.new hb)
      replace HX1 := Lib.hid (HX1.out.new hb)
      replace HY1 := Lib.hid (HY1.out.new hb)
      replace HC := Lib.hid (HC.out.keep hb)
      clear hb
      have x0 := Blk.at0 HG.out (Below.refl _ _); have x1 := Blk.at1 HG.out (Below.refl _ _)
      have y0 := Blk.at0 HC.out (Below.refl _ _); have y1 := Blk.at1 HC.out (Below.refl _ _); have y2 := Blk.at2 HC.out (Below.refl _ _); have y3 := Blk.at3 HC.out (Below.refl _ _); have y4 := Blk.at4 HC.out (Below.refl _ _)
      go_wp2_with fail
      refine (cvcheck_any (nn : Int) len ce s a c2 bn d2 2 AE A2 D2 s2 A5 B5 k5 c5 m5 d5 es _ _ _ w5 ((HE0.out.below HB.out).more HB.out.size) HS32.out HW1.out HW2.out HV.out (by omega) HGr.out.1).mono ?_
      rintro e w6 ⟨v, rfl, ⟨t, rfl, ht⟩, hb⟩
      obtain rfl : t = false := by
        cases t with
        | false => rfl
        | true => exact absurd (ht.1 rfl) (fun h => HS2.out (have q := (cov_int (v := vN) (w := inth xs) (p := inth ys) (show 0 < dn by have := HDn.out; omega)).1 (show CovOK nn len (nth es) s (fun i => fr (inth xs i) dn) (fun x => fr (inth ys x) dn) (fr vN dn) from h.2.2.2.2); by rw [HPk.out.1]; exact q.2.2.2))
      clear ht
      replace HB := Lib.hid (bthen HB.out hb HB.out.size)
      replace HG := Lib.hid (HG.out.keep hb)
      replace HU := Lib.hid (HU.out.keep hb)
      replace HW1 := Lib.hid (Rs.newW HW1.out hb)
      replace HW2 := Lib.hid (Rs.newW HW2.out hb)
      replace HV := Lib.hid (HV.out.new hb)
      replace HX1 := Lib.hid (HX1.out.new hb)
      replace HY1 := Lib.hid (HY1.out.new hb)
      replace HC := Lib.hid (HC.out.keep hb)
      clear hb
      go_wp2_with fail
      refine (awake29_any _).mono ?_
      rintro e w7 ⟨rfl, hb⟩
      go_wp2_with fail
      go_ret
      exact ⟨rfl, bthen HB.out hb HB.out.size⟩
    have HS2 := Lib.hid hs2; clear hs2
    refine wp_region_each (kss := [[], [(0, 32)], [(1, 33)], [(2, 34)], [(3, 35)], [(3, 35), (4, 36)], [(3, 35)], [(3, 35), (6, 38)], [(3, 35), (5, 37), (7, 39)], [(3, 35), (8, 40)], [(9, 41)], [(10, 42)], [(10, 42), (11, 43)], [(10, 42)], [(10, 42), (13, 45)], [(10, 42)], [(10, 42)], [(10, 42)], [(10, 42), (12, 44), (14, 46), (15, 47), (16, 48), (17, 49)], [(10, 42), (18, 50)], [(19, 51)], [(20, 52)], [(20, 52), (21, 53)], [(20, 52)], [(20, 52), (23, 55)], [(20, 52)], [(20, 52)], [(20, 52)], [(20, 52), (22, 54), (24, 56), (25, 57), (26, 58), (27, 59)], [(20, 52), (28, 60)], [(29, 61)], [(30, 62)], [(30, 62), (31, 63)], [(30, 62)], [(30, 62), (33, 65)], [(30, 62), (34, 66)], [(30, 62), (32, 64), (35, 67)], [(30, 62), (36, 68)], [(37, 69)], [(38, 70)], [(38, 70), (39, 71)], [(38, 70)], [(38, 70), (41, 73)], [(38, 70), (42, 74)], [(38, 70), (40, 72), (43, 75)], [(38, 70), (44, 76)], [(45, 77)]]) [(3, .pointer (some ⟨g3, 0, none⟩)), (1, .int .u32 ((s : Int))), (8, .slice A1 a c1), (10, .int .i64 ((dn : Int))), (9, .slice D1 bn d1), (5, .pointer (some ⟨g5, 0, none⟩))] [EV (.agg #[.int .i64 ((nn : Int)), .slice AE len ce]), EV (.int .i64 ((checkCode (nn : Int) es))), EV (.bool true), EV (.bool true), EV (.int .u32 ((s : Int))), EV (.int .i64 (((Lib.bitLen s : Nat) : Int))), EV (.pointer (some ⟨g3, 0, none⟩)), EV (.int .i64 ((nn : Int))), EV (.bool true), EV (.bool true), EV (.bool true), EV (.pointer (some ⟨g3, 0, none⟩)), EV (.int .i64 ((nn : Int))), EV (.pointer (some ⟨g3, 1, none⟩)), EV (.slice AE len ce), EV (.int .u32 ((s : Int))), EV (.slice A1 a c1), EV (.int .i64 ((dn : Int))), EV (.bool true), EV (.bool true), EV (.bool true), EV (.pointer (some ⟨g3, 0, none⟩)), EV (.int .i64 ((nn : Int))), EV (.pointer (some ⟨g3, 1, none⟩)), EV (.slice AE len ce), EV (.int .u32 ((s : Int))), EV (.slice D1 bn d1), EV (.int .i64 ((dn : Int))), EV (.bool true), EV (.bool true), EV (.bool true), EV (.slice A1 a c1), EV (.int .i64 ((isum (inth xs) a))), EV (.pointer (some ⟨g5, 3, none⟩)), EV (.int .i8 vN), EV (.int .i64 vN), EV (.bool true), EV (.bool true), EV (.bool true), EV (.slice D1 bn d1), EV (.int .i64 ((isum (inth ys) bn))), EV (.pointer (some ⟨g5, 3, none⟩)), EV (.int .i8 vN), EV (.int .i64 vN), EV (.bool true), EV (.bool true), EV (.bool true)] (by kernel_rfl) (by kernel_rfl) ⟨rfl, rfl, rfl, rfl, rfl, rfl, trivial⟩ ?_ ?_ ?_
    · exact ⟨eI, eI, eI, eI, eI, eI, eI, eI, eI, eI, eI, eI, eI, eI, eI, eI, eI, eI, eI, eI, eI, eI, eI, eI, eI, eI, eI, eI, eI, eI, eI, eI, eI, eI, eI, eI, eI, eI, eI, eI, eI, eI, eI, eI, eI, eI, eI, trivial⟩
    · refine ⟨?_, ?_, ?_, ?_, ?_, ?_, ?_, ?_, ?_, ?_, ?_, ?_, ?_, ?_, ?_, ?_, ?_, ?_, ?_, ?_, ?_, ?_, ?_, ?_, ?_, ?_, ?_, ?_, ?_, ?_, ?_, ?_, ?_, ?_, ?_, ?_, ?_, ?_, ?_, ?_, ?_, ?_, ?_, ?_, ?_, ?_, ?_, trivial⟩
      · exact fun aa ww hb he hd => ob_plain rfl (load_hgr rfl he.1 (Blk.keep HG.out hb))
      · exact fun aa ww hb he hd => ob_plain rfl (gives_call1 _ _ _ rfl (by kernel_rfl) (by rw [show aa.eval (.tmp 32) = _ from hd.1]; exact rv_one (check_any (nn : Int) AE es len ce _ ((HE0.out.below (bthen HB.out hb HB.out.size)).more (bthen HB.out hb HB.out.size).size))))
      · exact fun aa ww hb he hd => ob_plain rfl (gives_eq_int ((checkCode (nn : Int) es)) 0 .i64 _ _ _ _ rfl hd.1 rfl ⟨congrArg Value.bool (by simpa using hc), Below.refl _ _⟩)
      · exact fun _ _ _ he hd => ob_mv rfl rfl hd.1
      · exact fun aa ww hb he hd => ob_on 35 rfl (by kernel_rfl) hd.1 (gives_move _ rfl ⟨he.2.1, Below.refl _ _⟩)
      · exact fun aa ww hb he hd => ob_on 35 rfl (by kernel_rfl) hd.1 (gives_call1 _ _ _ rfl (by kernel_rfl) (by rw [show aa.eval (.tmp 36) = _ from hd.2.1]; exact len32_v s HS32.out _))
      · exact fun aa ww hb he hd => ob_on 35 rfl (by kernel_rfl) hd.1 (fld_hgr (k := 0) rfl (by decide) he.1)
      · exact fun aa ww hb he hd => ob_on 35 rfl (by kernel_rfl) hd.1 (load_c3 rfl hd.2.1 (Blk.at0 HG.out hb))
      · exact fun aa ww hb he hd => ob_on 35 rfl (by kernel_rfl) hd.1 (gives_le_int (((Lib.bitLen s : Nat) : Int)) ((nn : Int)) .i64 _ _ _ _ rfl hd.2.1 hd.2.2.1 ⟨congrArg Value.bool (by simpa using hl), Below.refl _ _⟩)
      · exact fun aa ww hb he hd => ob_plain rfl (gives_pick true _ _ _ rfl hd.1 ⟨hd.2.1, Below.refl _ _⟩)
      · exact fun _ _ _ he hd => ob_mv rfl rfl hd.1
      · exact fun aa ww hb he hd => ob_on 42 rfl (by kernel_rfl) hd.1 (fld_hgr (k := 0) rfl (by decide) he.1)
      · exact fun aa ww hb he hd => ob_on 42 rfl (by kernel_rfl) hd.1 (load_c3 rfl hd.2.1 (Blk.at0 HG.out hb))
      · exact fun aa ww hb he hd => ob_on 42 rfl (by kernel_rfl) hd.1 (fld_hgr (k := 1) rfl (by decide) he.1)
      · exact fun aa ww hb he hd => ob_on 42 rfl (by kernel_rfl) hd.1 (load_c38 rfl hd.2.1 (Blk.at1 HG.out hb))
      · exact fun aa ww hb he hd => ob_on 42 rfl (by kernel_rfl) hd.1 (gives_move _ rfl ⟨he.2.1, Below.refl _ _⟩)
      · exact fun aa ww hb he hd => ob_on 42 rfl (by kernel_rfl) hd.1 (gives_move _ rfl ⟨he.2.2.1, Below.refl _ _⟩)
      · exact fun aa ww hb he hd => ob_on 42 rfl (by kernel_rfl) hd.1 (gives_move _ rfl ⟨he.2.2.2.1, Below.refl _ _⟩)
      · exact fun aa ww hb he hd => ob_on 42 rfl (by kernel_rfl) hd.1 (gives_call5 _ _ _ _ _ _ _ rfl (by kernel_rfl) (by rw [show aa.eval (.tmp 44) = _ from hd.2.1, show aa.eval (.tmp 46) = _ from hd.2.2.1, show aa.eval (.tmp 47) = _ from hd.2.2.2.1, show aa.eval (.tmp 48) = _ from hd.2.2.2.2.1, show aa.eval (.tmp 49) = _ from hd.2.2.2.2.2.1]; exact rvb_t (covers9_any nn len a s dn ce c1 AE A1 es xs _ ((HE0.out.below (bthen HB.out hb HB.out.size)).more (bthen HB.out hb HB.out.size).size) (HX1.out.new hb) HS32.out HN6.out (by have := HL7.out; have := HLn.out; omega) (by have := HDn.out; omega) HXb.out) HCv.out))
      · exact fun aa ww hb he hd => ob_plain rfl (gives_pick true _ _ _ rfl hd.1 ⟨hd.2.1, Below.refl _ _⟩)
      · exact fun _ _ _ he hd => ob_mv rfl rfl hd.1
      · exact fun aa ww hb he hd => ob_on 52 rfl (by kernel_rfl) hd.1 (fld_hgr (k := 0) rfl (by decide) he.1)
      · exact fun aa ww hb he hd => ob_on 52 rfl (by kernel_rfl) hd.1 (load_c3 rfl hd.2.1 (Blk.at0 HG.out hb))
      · exact fun aa ww hb he hd => ob_on 52 rfl (by kernel_rfl) hd.1 (fld_hgr (k := 1) rfl (by decide) he.1)
      · exact fun aa ww hb he hd => ob_on 52 rfl (by kernel_rfl) hd.1 (load_c38 rfl hd.2.1 (Blk.at1 HG.out hb))
      · exact fun aa ww hb he hd => ob_on 52 rfl (by kernel_rfl) hd.1 (gives_move _ rfl ⟨he.2.1, Below.refl _ _⟩)
      · exact fun aa ww hb he hd => ob_on 52 rfl (by kernel_rfl) hd.1 (gives_move _ rfl ⟨he.2.2.2.2.1, Below.refl _ _⟩)
      · exact fun aa ww hb he hd => ob_on 52 rfl (by kernel_rfl) hd.1 (gives_move _ rfl ⟨he.2.2.2.1, Below.refl _ _⟩)
      · exact fun aa ww hb he hd => ob_on 52 rfl (by kernel_rfl) hd.1 (gives_call5 _ _ _ _ _ _ _ rfl (by kernel_rfl) (by rw [show aa.eval (.tmp 54) = _ from hd.2.1, show aa.eval (.tmp 56) = _ from hd.2.2.1, show aa.eval (.tmp 57) = _ from hd.2.2.2.1, show aa.eval (.tmp 58) = _ from hd.2.2.2.2.1, show aa.eval (.tmp 59) = _ from hd.2.2.2.2.2.1]; exact rvb_t (packs9_any nn len bn s dn ce d1 AE D1 es ys _ ((HE0.out.below (bthen HB.out hb HB.out.size)).more (bthen HB.out hb HB.out.size).size) (HY1.out.new hb) HS32.out HN6.out (by have := HL7.out; have := HLn.out; omega) (by have := HDn.out; omega) HYb.out) HPk.out))
      · exact fun aa ww hb he hd => ob_plain rfl (gives_pick true _ _ _ rfl hd.1 ⟨hd.2.1, Below.refl _ _⟩)
      · exact fun _ _ _ he hd => ob_mv rfl rfl hd.1
      · exact fun aa ww hb he hd => ob_on 62 rfl (by kernel_rfl) hd.1 (gives_move _ rfl ⟨he.2.2.1, Below.refl _ _⟩)
      · exact fun aa ww hb he hd => ob_on 62 rfl (by kernel_rfl) hd.1 (gives_call1 _ _ _ rfl (by kernel_rfl) (by rw [show aa.eval (.tmp 63) = _ from hd.2.1]; exact rv_sum9 (HX1.out.new hb) (by have := HLn.out; omega) HXb.out))
      · exact fun aa ww hb he hd => ob_on 62 rfl (by kernel_rfl) hd.1 (fld_gus (k := 3) rfl (by decide) he.2.2.2.2.2.1)
      · exact fun aa ww hb he hd => ob_on 62 rfl (by kernel_rfl) hd.1 (load_i8n rfl hd.2.1 (Blk.at3 HU.out hb))
      · exact fun aa ww hb he hd => ob_on 62 rfl (by kernel_rfl) hd.1 (conv_i8n HVn.out rfl hd.2.1)
      · exact fun aa ww hb he hd => ob_on 62 rfl (by kernel_rfl) hd.1 (gives_eq_int ((isum (inth xs) a)) vN .i64 _ _ _ _ rfl hd.2.1 hd.2.2.1 ⟨congrArg Value.bool (by have hs1 := HS1.out; simpa using hs1), Below.refl _ _⟩)
      · exact fun aa ww hb he hd => ob_plain rfl (gives_pick true _ _ _ rfl hd.1 ⟨hd.2.1, Below.refl _ _⟩)
      · exact fun _ _ _ he hd => ob_mv rfl rfl hd.1
      · exact fun aa ww hb he hd => ob_on 70 rfl (by kernel_rfl) hd.1 (gives_move _ rfl ⟨he.2.2.2.2.1, Below.refl _ _⟩)
      · exact fun aa ww hb he hd => ob_on 70 rfl (by kernel_rfl) hd.1 (gives_call1 _ _ _ rfl (by kernel_rfl) (by rw [show aa.eval (.tmp 71) = _ from hd.2.1]; exact rv_sum9 (HY1.out.new hb) (by have := HLn.out; omega) HYb.out))
      · exact fun aa ww hb he hd => ob_on 70 rfl (by kernel_rfl) hd.1 (fld_gus (k := 3) rfl (by decide) he.2.2.2.2.2.1)
      · exact fun aa ww hb he hd => ob_on 70 rfl (by kernel_rfl) hd.1 (load_i8n rfl hd.2.1 (Blk.at3 HU.out hb))
      · exact fun aa ww hb he hd => ob_on 70 rfl (by kernel_rfl) hd.1 (conv_i8n HVn.out rfl hd.2.1)
      · exact fun aa ww hb he hd => ob_on 70 rfl (by kernel_rfl) hd.1 (gives_eq_int ((isum (inth ys) bn)) vN .i64 _ _ _ _ rfl hd.2.1 hd.2.2.1 ⟨congrArg Value.bool (by have hs2 := HS2.out; simpa using hs2), Below.refl _ _⟩)
      · exact fun aa ww hb he hd => ob_plain rfl (gives_pick true _ _ _ rfl hd.1 ⟨hd.2.1, Below.refl _ _⟩)
      · exact fun aa ww hb he hd => ob_plain rfl (gives_assign _ rfl ⟨hd.1, Below.refl _ _⟩)
    intro vs w5 hb hR
    have e11 : vs 46 = .bool true := hR 46 (by decide)
    clear hR
    simp only [putsL, Nat.zero_add, Nat.reduceAdd, List.take_succ_cons, List.take_zero, Act.put, List.setIfInBounds_toArray, List.set_cons_zero, List.set_cons_succ]
    rw [e11]
    clear e11
    replace HB := Lib.hid (bthen HB.out hb HB.out.size)
    replace HG := Lib.hid (HG.out.keep hb)
    replace HU := Lib.hid (HU.out.keep hb)
    replace HW1 := Lib.hid (Rs.newW HW1.out hb)
    replace HW2 := Lib.hid (Rs.newW HW2.out hb)
    replace HV := Lib.hid (HV.out.new hb)
    replace HX1 := Lib.hid (HX1.out.new hb)
    replace HY1 := Lib.hid (HY1.out.new hb)
    replace HC := Lib.hid (HC.out.keep hb)
    clear hb
    have x0 := Blk.at0 HG.out (Below.refl _ _); have x1 := Blk.at1 HG.out (Below.refl _ _)
    have y0 := Blk.at0 HC.out (Below.refl _ _); have y1 := Blk.at1 HC.out (Below.refl _ _); have y2 := Blk.at2 HC.out (Below.refl _ _); have y3 := Blk.at3 HC.out (Below.refl _ _); have y4 := Blk.at4 HC.out (Below.refl _ _)
    go_wp2_with fail
    refine (cvcheck_any (nn : Int) len ce s a c2 bn d2 2 AE A2 D2 s2 A5 B5 k5 c5 m5 d5 es _ _ _ w5 ((HE0.out.below HB.out).more HB.out.size) HS32.out HW1.out HW2.out HV.out (by omega) HGr.out.1).mono ?_
    rintro e w6 ⟨v, rfl, ⟨t, rfl, ht⟩, hb⟩
    obtain rfl : t = true := ht.2 ⟨hc, by simpa using hra, HCv.out.1, by simpa using HPk.out.1, show CovOK nn len (nth es) s (fun i => fr (inth xs i) dn) (fun x => fr (inth ys x) dn) (fr vN dn) from (cov_int (v := vN) (w := inth xs) (p := inth ys) (show 0 < dn by have := HDn.out; omega)).2 ⟨HCv.out.2, HPk.out.2, by rw [← HCv.out.1]; exact HS1.out, by rw [← HPk.out.1]; exact HS2.out⟩⟩
    clear ht
    replace HB := Lib.hid (bthen HB.out hb HB.out.size)
    replace HG := Lib.hid (HG.out.keep hb)
    replace HU := Lib.hid (HU.out.keep hb)
    replace HW1 := Lib.hid (Rs.newW HW1.out hb)
    replace HW2 := Lib.hid (Rs.newW HW2.out hb)
    replace HV := Lib.hid (HV.out.new hb)
    replace HX1 := Lib.hid (HX1.out.new hb)
    replace HY1 := Lib.hid (HY1.out.new hb)
    replace HC := Lib.hid (HC.out.keep hb)
    clear hb
    go_wp2_with fail
    refine (awake29_any _).mono ?_
    rintro e w7 ⟨rfl, hb⟩
    go_wp2_with fail
    go_ret
    exact ⟨rfl, bthen HB.out hb HB.out.size⟩
theorem coverChecks_walk (n : Int) (AE : Option Addr) (es : List Nat) (len ce : Nat) (x : Int) (D a bn ca cb : Nat) (AX AY : Option Addr) (xs ys : List Int) (vN : Int) (w : World) (hE : Es w w.heap.size AE len es) (wn : -9223372036854775808 ≤ n ∧ n ≤ 9223372036854775807) (hcap : len ≤ ce) (wx : 0 ≤ x ∧ x ≤ 4294967295) (hD : D ≤ 255) (hX : Ks .i8 128 w w.heap.size AX a xs) (hY : Ks .i8 128 w w.heap.size AY bn ys) (hv : -128 ≤ vN ∧ vN < 128) (ha : a ≤ 1048576) (hb : bn ≤ 1048576) :
    Calls Try.prog 8 #[.agg #[.int .i64 n, .slice AE len ce], .int .u32 x, .agg #[.int .u8 (D : Int), .slice AX a ca, .slice AY bn cb, .int .i8 vN]] w fun e w' => e = .returned (.bool true) ∧ Below w.heap.size w w' := by
  obtain ⟨s, rfl⟩ : ∃ s : Nat, x = (s : Int) := ⟨x.toNat, by omega⟩
  exact checks_any n len ce s D a bn ca cb AE AX AY es xs ys vN w hE (by omega) hD hX hY hv ⟨ha, hb⟩
end Go.Proofs.Ytpnklmgfdihjfaa
