/-
  The walk of RatTexts.
-/
import Derived.Test.YtifnbpkcnkfanaaQParseR
import Derived.Test.YtifnbpkcnkfanaaQBackW
namespace Go.Proofs.Ytifnbpkcnkfanaa
open Go.RowKit
set_option linter.unusedSimpArgs false

theorem rtext_v {x : Rat} (hx : Sm x) (v : Value) (hv : v = QL x) (w : World) : Calls Try.prog 36 #[v] w (RV w (fun u _ => u = .string (txt x))) := by
  subst hv
  exact rv_one (rtextq_any hx.le.1 hx.le.2 w)
theorem call_rtext : callsB Try.prog 36 = true := by kernel_rfl
theorem eq_str {o : Oper} {a : Act} {w : World} {x y : Operand} {t t2 : TypeId} {S : ByteArray} (ho : o.op = .binOp .eql t x y t2) (hx : a.eval x = .string S) (hy : a.eval y = .string S) : gives Try.prog o a.eval w (fun u w' => u = .bool true ∧ Below w.heap.size w w') := by
  refine gives_val (.bool true) ?_ ⟨rfl, Below.refl _ _⟩
  have e := str_eq (show S = S from rfl)
  unfold execOp
  rw [ho]
  simp only [hx, hy]
  go_simp
theorem short_long {L : List Nat} (h : L.length ≤ 1200) : ¬ PLong L := by
  have h1 := rL_length L
  have h2 := fL_length (rL L)
  have h3 := gL_length (rL L)
  rintro (h | h) <;> omega
/-- The parts of a short text are small. -/
theorem dw_lt {l : List Nat} (h : PGood l) (hl : l.length ≤ 14) : dw l < 100000000000000 := by
  have h1 := dv_lt (bs := l) l.length (fun j hj => (h.2.1 j hj).2)
  exact Nat.lt_of_lt_of_le h1 (Nat.pow_le_pow_right (by omega) hl)
theorem pval_small {L : List Nat} (h : POk L) (hl : L.length ≤ 14) : (PVal L).num.natAbs ≤ 9223372036854775807 ∧ (PVal L).den ≤ 9223372036854775807 := by
  have h1 := rL_length L
  have h2 := fL_length (rL L)
  have h3 := gL_length (rL L)
  have b1 := dw_lt h.1 (by omega)
  unfold PVal
  have key : ∀ (s : Bool) (N M : Nat), N < 100000000000000 → M < 100000000000000 → (qv s N M).num.natAbs ≤ 9223372036854775807 ∧ (qv s N M).den ≤ 9223372036854775807 := by
    intro s N M hN hM
    by_cases hM0 : M = 0
    · rw [hM0, qv_den0, qv_abs (by omega), qv_den (by omega), Nat.gcd_one_right]; omega
    · rw [qv_abs hM0, qv_den hM0]
      have := Nat.div_le_self N (Nat.gcd N M)
      have := Nat.div_le_self M (Nat.gcd N M)
      omega
  by_cases hh : hasL (rL L) = true
  · rw [if_pos hh]; exact key _ _ _ b1 (dw_lt (h.2.1 hh) (by omega))
  · rw [if_neg hh]; exact key _ _ _ b1 (by omega)

set_option maxRecDepth 100000 in
set_option maxHeartbeats 8000000 in
theorem texts_far (a b c d : Int) (s : ByteArray) (w : World) (h : winB a b c d = false) : Calls Try.prog 8 #[.agg #[.int .i64 a, .int .i64 b, .int .i64 c, .int .i64 d], .string s] w fun e w' => e = .returned (.bool true) ∧ Below w.heap.size w w' := by
  have HN := Lib.hid h; clear h
  have HA : Hid (A4 (w.alloc (.cells #[.int .i64 a, .int .i64 b, .int .i64 c, .int .i64 d] 22)) w.heap.size a b c d) := Lib.hid (Blk.new w _ _)
  have c0 := HA.out.c0; have c1 := HA.out.c1; have c2 := HA.out.c2; have c3 := HA.out.c3
  go_enter Try.func8, Try.ntmps8
  go_wp2_with fail
  refine within_any.mono ?_
  rintro e w1 ⟨rfl, hb⟩
  rw [HN.out]
  have HW := Lib.hid (bthen (al w _) hb (al w _).size); clear hb c0 c1 c2 c3
  go_wp2_with fail
  refine (qawake_any _).mono ?_
  rintro e w2 ⟨rfl, hb⟩
  replace HW := Lib.hid (bthen HW.out hb HW.out.size); clear hb
  go_wp2_with fail
  go_ret
  exact ⟨rfl, HW.out⟩

set_option maxRecDepth 100000 in
set_option maxHeartbeats 8000000 in
theorem texts_long (a b c d : Int) (s : ByteArray) (w : World) (h : winB a b c d = true) (hs : 14 < s.size) (hz : s.size ≤ 9223372036854775807) : Calls Try.prog 8 #[.agg #[.int .i64 a, .int .i64 b, .int .i64 c, .int .i64 d], .string s] w fun e w' => e = .returned (.bool true) ∧ Below w.heap.size w w' := by
  have HN := Lib.hid h; clear h
  have t1 : decide ((14 : Int) < (s.size : Int)) = true := by simp; omega
  have HA : Hid (A4 (w.alloc (.cells #[.int .i64 a, .int .i64 b, .int .i64 c, .int .i64 d] 22)) w.heap.size a b c d) := Lib.hid (Blk.new w _ _)
  have c0 := HA.out.c0; have c1 := HA.out.c1; have c2 := HA.out.c2; have c3 := HA.out.c3
  go_enter Try.func8, Try.ntmps8
  go_wp2_with fail
  refine within_any.mono ?_
  rintro e w1 ⟨rfl, hb⟩
  rw [HN.out]
  have HW := Lib.hid (bthen (al w _) hb (al w _).size); clear hb c0 c1 c2 c3
  go_wp2_with fail
  refine (qawake_any _).mono ?_
  rintro e w2 ⟨rfl, hb⟩
  replace HW := Lib.hid (bthen HW.out hb HW.out.size); clear hb
  go_wp2_with fail
  go_ret
  exact ⟨rfl, HW.out⟩

set_option maxRecDepth 100000 in
set_option maxHeartbeats 8000000 in
theorem texts_ok (a b c d : Int) (s : ByteArray) (w : World) (h : winB a b c d = true) (hs : s.size ≤ 14) (hok : POk (bytesOf s)) : Calls Try.prog 8 #[.agg #[.int .i64 a, .int .i64 b, .int .i64 c, .int .i64 d], .string s] w fun e w' => e = .returned (.bool true) ∧ Below w.heap.size w w' := by
  have hwin := of_decide_eq_true h
  obtain ⟨⟨wa1, wa2⟩, ⟨wb1, wb2⟩, ⟨wc1, wc2⟩, ⟨wd1, wd2⟩⟩ := hwin
  have HN := Lib.hid h; clear h
  have hx := sm_frac a b ⟨wa1, wa2⟩ ⟨wb1, wb2⟩
  have CX := Lib.hid (fun v v' (hv : v = .int .i64 a) (hv' : v' = .int .i64 b) W => of_v a b ⟨wa1, wa2⟩ ⟨wb1, wb2⟩ v v' hv hv' W)
  generalize ((a : Int) : Rat) / ((den1 b : Int) : Rat) = x at hx CX
  have SX := Lib.hid hx; clear hx
  clear wa1 wa2 wb1 wb2 wc1 wc2 wd1 wd2
  have t1 : decide ((14 : Int) < (s.size : Int)) = false := by simp; omega
  have HNL := Lib.hid (short_long (L := bytesOf s) (by rw [bytes_length]; omega))
  have HPS := Lib.hid (pval_small hok (by rw [bytes_length]; omega))
  have HQ := Lib.hid (fun W => qparse_any s (by omega) W)
  have HR := Lib.hid (fun W => rqparse_any s hs W)
  have HOK := Lib.hid hok; clear hok
  generalize bytesOf s = TL at *
  have HA : Hid (A4 (w.alloc (.cells #[.int .i64 a, .int .i64 b, .int .i64 c, .int .i64 d] 22)) w.heap.size a b c d) := Lib.hid (Blk.new w _ _)
  have c0 := HA.out.c0; have c1 := HA.out.c1; have c2 := HA.out.c2; have c3 := HA.out.c3
  go_enter Try.func8, Try.ntmps8
  go_wp2_with fail
  refine within_any.mono ?_
  rintro e w1 ⟨rfl, hb⟩
  rw [HN.out]
  replace HA := Lib.hid (HA.out.new hb)
  have HW := Lib.hid (bthen (al w _) hb (al w _).size); clear hb c0 c1 c2 c3
  go_upto_region 3 with (fail)
  refine wp_region_joins (kss := [[], [(0, 21)], [], [(2, 23)], [(1, 22), (3, 24)], [(4, 25)], [(5, 20)], [(5, 20)], [], []]) [(2, .pointer (some ⟨w.heap.size, 0, none⟩))] [fun v _ => v = .pointer (some ⟨w.heap.size, 0, none⟩), fun v _ => v = .int .i64 (a), fun v _ => v = .pointer (some ⟨w.heap.size, 1, none⟩), fun v _ => v = .int .i64 (b), OfV (x), OfV (x), Rv 2 (x), fun v _ => v = QL (x), Zb w1.heap.size, Zq w1.heap.size] 10 (by kernel_rfl) ⟨rfl, trivial⟩ [false, false, false, false, false, false, false, false, true, false] ?_ ?_ ?_
  · exact ⟨fun _ _ _ h _ => h, fun _ _ _ h _ => h, fun _ _ _ h _ => h, fun _ _ _ h _ => h, fun _ _ _ h hb => OfV.new h hb, fun _ _ _ h hb => OfV.new h hb, fun _ _ _ h hb => Rv.new h hb, fun _ _ _ h _ => h, fun _ _ _ h hb => Zb.new h hb, fun _ _ _ h hb => Zq.new h hb, trivial⟩
  · refine ⟨?_, ?_, ?_, ?_, ?_, ?_, ?_, ?_, ?_, ?_, trivial⟩
    · exact fun _ _ hb he hd => ob_plain rfl (idx_0 rfl he.1)
    · exact fun _ _ hb he hd => ob_plain rfl (load_i64 rfl hd.1 (A4.new HA.out hb).c0)
    · exact fun _ _ hb he hd => ob_plain rfl (idx_1 rfl he.1)
    · exact fun _ _ hb he hd => ob_plain rfl (load_i64 rfl hd.1 (A4.new HA.out hb).c1)
    · exact fun _ _ hb he hd => ob_plain rfl (gives_call2 _ _ _ _ rfl call_lof (CX.out _ _ hd.1 hd.2.1 _))
    · exact fun _ _ hb he hd => ob_plain rfl (gives_move _ rfl ⟨hd.1, Below.refl _ _⟩)
    · exact fun _ _ hb he hd => ob_plain rfl (ext_o0 rfl hd.1)
    · exact fun _ _ hb he hd => ob_plain rfl (ext_o1 rfl hd.1)
    · exact fun _ _ hb he hd => ⟨by simp [Region.wanted], alloc_rat rfl hb⟩
    · exact fun _ _ hb he hd => ob_plain rfl (alloc_q rfl hb)
  intro vs w2 hb hR
  have rv : Rv 2 (x) (vs 6) w2 := hR 6 (by decide)
  have e1 : vs 7 = QL (x) := hR 7 (by decide)
  obtain ⟨g3, k3, z3⟩ : Zb w1.heap.size (vs 8) w2 := hR 8 (by decide)
  obtain ⟨g4, k4, z4a, z4⟩ : Zq w1.heap.size (vs 9) w2 := hR 9 (by decide)
  clear hR
  simp only [putsL, Nat.zero_add, Nat.reduceAdd, List.take_succ_cons, List.take_zero, Act.put, List.setIfInBounds_toArray, List.set_cons_zero, List.set_cons_succ]
  rw [e1, k3, k4]
  clear e1 k3 k4
  generalize vs 6 = u6 at *
  show wpOps _ _ _ [10, 11] _ _
  refine wpOps_next rfl rfl (store_rv rfl rfl rfl rfl z3 rv ?_)
  rintro w3 ⟨y1, y2, y3, rfl, hT⟩ rv1 hG hB
  have hne : g4 ≠ g3 := Blk.ne_ (GB.blk z4) z3.2 (by decide)
  have hQ := hG _ _ _ _ hne z4
  have hb4 := hB _ _ z3.1 hb
  refine wpOps_next rfl rfl (store_q rfl rfl rfl rfl hQ ?_)
  show Exit.then _ _ _ _ _
  obtain ⟨hB3, hQ4, hb5⟩ := pair_world rv1 hT hQ hne hb4 z4a
  clear rv1 hT hQ hne hb4 z3 z4 z4a rv hG hB hb
  generalize (w3.setCell ⟨g4, 0, none⟩ (.int .i64 x.num)).setCell ⟨g4, 1, none⟩ (.int .i64 (x.den : Int)) = w4 at hB3 hQ4 hb5 ⊢
  have Bx_ := Lib.hid hB3; have Qx_ := Lib.hid hQ4
  replace HA := Lib.hid (HA.out.new hb5); replace HW := Lib.hid (bthen HW.out hb5 HW.out.size)
  clear hB3 hQ4 hb5
  go_wp2_with fail
  refine (HQ.out _).mono ?_
  rintro e w6 ⟨hb, -, -, h0⟩
  obtain ⟨v, rfl, hv⟩ := h0 HNL.out HOK.out
  obtain ⟨s7, A7, n7, c7, B7, m7, d7, rfl, h7⟩ := hv
  replace Bx_ := Lib.hid (Bx_.out.new hb); replace Qx_ := Lib.hid (Qx_.out.new hb); replace HW := Lib.hid (bthen HW.out hb HW.out.size)
  have H7 := Lib.hid h7
  clear h0 h7 hb HQ
  go_wp2_with fail
  have hT := TB.made w6 29 (.bool s7) (.slice A7 n7 c7) (.slice B7 m7 d7)
  have hb := al w6 (.cells #[.bool s7, .slice A7 n7 c7, .slice B7 m7 d7] 29)
  have HG7 := Lib.hid (show w.heap.size ≤ w6.heap.size from HW.out.size)
  obtain ⟨g7, hg7⟩ : ∃ g, g = w6.heap.size := ⟨_, rfl⟩
  rw [← hg7] at hT
  generalize w6.alloc (.cells #[.bool s7, .slice A7 n7 c7, .slice B7 m7 d7] 29) = w7 at hT hb ⊢
  have B7_ : Hid (Bn 1201 (PVal TL) g7 w7) := Lib.hid ⟨s7, A7, n7, c7, B7, m7, d7, hT, H7.out.new hb⟩
  replace Bx_ := Lib.hid (Bx_.out.new hb); replace Qx_ := Lib.hid (Qx_.out.new hb); replace HW := Lib.hid (bthen HW.out hb HW.out.size)
  rw [← hg7]
  clear hT hb hg7 HG7 H7
  refine (HR.out _).mono ?_
  rintro e w8 ⟨hb, h0, -⟩
  obtain rfl := h0 HOK.out
  replace Bx_ := Lib.hid (Bx_.out.new hb); replace Qx_ := Lib.hid (Qx_.out.new hb); replace HW := Lib.hid (bthen HW.out hb HW.out.size)
  replace B7_ := Lib.hid (B7_.out.new hb)
  clear h0 hb HR
  unfold QL
  go_upto_region 6 with (fail)
  have hQ := GB.made w8 35 (.int .i64 (PVal TL).num) (.int .i64 ((PVal TL).den : Int))
  have hb := al w8 (.cells #[.int .i64 (PVal TL).num, .int .i64 ((PVal TL).den : Int)] 35)
  obtain ⟨g9, hg9⟩ : ∃ g, g = w8.heap.size := ⟨_, rfl⟩
  rw [← hg9] at hQ
  generalize w8.alloc (.cells #[.int .i64 (PVal TL).num, .int .i64 ((PVal TL).den : Int)] 35) = w9 at hQ hb ⊢
  replace Bx_ := Lib.hid (Bx_.out.new hb); replace Qx_ := Lib.hid (Qx_.out.new hb); replace HW := Lib.hid (bthen HW.out hb HW.out.size)
  replace B7_ := Lib.hid (B7_.out.new hb)
  have Q9_ : Hid (Qb (PVal TL) g9 w9) := Lib.hid hQ
  rw [← hg9]
  clear hb hQ hg9
  generalize PVal TL = y at *
  refine wp_region_seq (kss := [[], [], [(0, 38), (1, 39)], [(2, 40)], [(3, 41)], [(3, 41), (4, 42)], [(3, 41), (5, 43)], [(6, 44)], [(6, 44)], [(6, 44), (7, 45), (8, 46)], [(6, 44), (9, 47)], [(3, 41), (6, 44), (10, 48)], [(3, 41), (11, 49)], [(12, 50)], [(13, 51)], [(13, 51), (14, 52)], [(13, 51), (15, 53)], [(16, 54)], [(16, 54), (17, 55)], [(16, 54), (18, 56)], [(16, 54)], [(16, 54), (20, 58)], [(16, 54), (21, 59)], [(16, 54), (19, 57), (22, 60)], [(16, 54), (23, 61)], [(13, 51), (16, 54), (24, 62)], [(13, 51), (25, 63)]]) [(8, .int .i64 (0)), (10, .int .i64 (0)), (7, .pointer (some ⟨g7, 0, none⟩)), (9, .pointer (some ⟨g9, 0, none⟩))] [fun v _ => v = .int .i64 (0), fun v _ => v = .int .i64 (0), fun v _ => v = .bool (false), fun v _ => v = .bool (false), fun v _ => v = .int .i64 (0), fun v _ => v = .bool (true), fun v _ => v = .bool (true), Rv 1201 (y), fun v _ => v = QL (y), fun v _ => v = .bool (true), fun v _ => v = .bool (false), fun v _ => v = .bool (false), fun v _ => v = .bool (false), fun v _ => v = .bool (false), fun v _ => v = .int .i64 (0), fun v _ => v = .bool (false), fun v _ => v = .bool (false), fun v _ => v = undef, fun v _ => v = undef, fun v _ => v = undef, fun v _ => v = undef, fun v _ => v = undef, fun v _ => v = undef, fun v _ => v = undef, fun v _ => v = undef, fun v _ => v = .bool (false), fun v _ => v = .bool (false)] (by kernel_rfl) ⟨rfl, rfl, rfl, rfl, trivial⟩ ?_ ?_ ?_
  · exact ⟨fun _ _ _ h _ => h, fun _ _ _ h _ => h, fun _ _ _ h _ => h, fun _ _ _ h _ => h, fun _ _ _ h _ => h, fun _ _ _ h _ => h, fun _ _ _ h _ => h, fun _ _ _ h hb => Rv.new h hb, fun _ _ _ h _ => h, fun _ _ _ h _ => h, fun _ _ _ h _ => h, fun _ _ _ h _ => h, fun _ _ _ h _ => h, fun _ _ _ h _ => h, fun _ _ _ h _ => h, fun _ _ _ h _ => h, fun _ _ _ h _ => h, fun _ _ _ h _ => h, fun _ _ _ h _ => h, fun _ _ _ h _ => h, fun _ _ _ h _ => h, fun _ _ _ h _ => h, fun _ _ _ h _ => h, fun _ _ _ h _ => h, fun _ _ _ h _ => h, fun _ _ _ h _ => h, fun _ _ _ h _ => h, trivial⟩
  · refine ⟨?_, ?_, ?_, ?_, ?_, ?_, ?_, ?_, ?_, ?_, ?_, ?_, ?_, ?_, ?_, ?_, ?_, ?_, ?_, ?_, ?_, ?_, ?_, ?_, ?_, ?_, ?_, trivial⟩
    · exact fun _ _ hb he hd => ob_plain rfl (gives_move _ rfl ⟨he.1, Below.refl _ _⟩)
    · exact fun _ _ hb he hd => ob_plain rfl (gives_move _ rfl ⟨he.2.1, Below.refl _ _⟩)
    · exact fun _ _ hb he hd => ob_plain rfl (gives_ne_int (0) (0) .i64 _ _ _ _ rfl hd.1 hd.2.1 ⟨congrArg Value.bool (by decide), Below.refl _ _⟩)
    · exact fun _ _ hb he hd => ob_plain rfl (gives_move _ rfl ⟨hd.1, Below.refl _ _⟩)
    · exact fun _ _ hb he hd => ob_on 41 rfl (by kernel_rfl) hd.1 (gives_move _ rfl ⟨he.2.1, Below.refl _ _⟩)
    · exact fun _ _ hb he hd => ob_on 41 rfl (by kernel_rfl) hd.1 (gives_eq_int (0) (0) .i64 _ _ _ _ rfl hd.2.1 rfl ⟨congrArg Value.bool (by decide), Below.refl _ _⟩)
    · exact fun _ _ hb he hd => ob_on 41 rfl (by kernel_rfl) hd.1 (gives_move _ rfl ⟨hd.2.1, Below.refl _ _⟩)
    · exact fun _ _ hb he hd => ob_on 44 rfl (by kernel_rfl) hd.1 (load_bn rfl he.2.2.1 (Bn.new B7_.out hb))
    · exact fun _ _ hb he hd => ob_on 44 rfl (by kernel_rfl) hd.1 (load_qb rfl he.2.2.2.1 (Qb.new Q9_.out hb))
    · exact fun _ _ hb he hd => ob_on 44 rfl (by kernel_rfl) hd.1 (gives_call2 _ _ _ _ rfl call_is (is_v hd.2.1 hd.2.2.1 (rfl) (HPS.out)))
    · exact fun _ _ hb he hd => ob_on 44 rfl (by kernel_rfl) hd.1 (gives_not (true) _ _ rfl hd.2.1 ⟨rfl, Below.refl _ _⟩)
    · exact fun _ _ hb he hd => ob_on 41 rfl (by kernel_rfl) hd.1 (gives_pick true _ _ _ rfl hd.2.1 ⟨hd.2.2.1, Below.refl _ _⟩)
    · exact fun _ _ hb he hd => ob_plain rfl (gives_pick false _ _ _ rfl hd.1 ⟨hd.2.1, Below.refl _ _⟩)
    · exact fun _ _ hb he hd => ob_plain rfl (gives_move _ rfl ⟨hd.1, Below.refl _ _⟩)
    · exact fun _ _ hb he hd => ob_on 51 rfl (by kernel_rfl) hd.1 (gives_move _ rfl ⟨he.2.1, Below.refl _ _⟩)
    · exact fun _ _ hb he hd => ob_on 51 rfl (by kernel_rfl) hd.1 (gives_ne_int (0) (0) .i64 _ _ _ _ rfl hd.2.1 rfl ⟨congrArg Value.bool (by decide), Below.refl _ _⟩)
    · exact fun _ _ hb he hd => ob_on 51 rfl (by kernel_rfl) hd.1 (gives_move _ rfl ⟨hd.2.1, Below.refl _ _⟩)
    · exact fun _ _ hb he hd => ob_off 54 rfl (by kernel_rfl) hd.1 rfl
    · exact fun _ _ hb he hd => ob_off 54 rfl (by kernel_rfl) hd.1 rfl
    · exact fun _ _ hb he hd => ob_off 54 rfl (by kernel_rfl) hd.1 rfl
    · exact fun _ _ hb he hd => ob_off 54 rfl (by kernel_rfl) hd.1 rfl
    · exact fun _ _ hb he hd => ob_off 54 rfl (by kernel_rfl) hd.1 rfl
    · exact fun _ _ hb he hd => ob_off 54 rfl (by kernel_rfl) hd.1 rfl
    · exact fun _ _ hb he hd => ob_off 54 rfl (by kernel_rfl) hd.1 rfl
    · exact fun _ _ hb he hd => ob_off 54 rfl (by kernel_rfl) hd.1 rfl
    · exact fun _ _ hb he hd => ob_on 51 rfl (by kernel_rfl) hd.1 (gives_pick false _ _ _ rfl hd.2.1 ⟨rfl, Below.refl _ _⟩)
    · exact fun _ _ hb he hd => ob_plain rfl (gives_pick false _ _ _ rfl hd.1 ⟨hd.2.1, Below.refl _ _⟩)
  intro vs w10 hb hR
  have e64 : vs 26 = .bool false := hR 26 (by decide)
  clear hR
  simp only [putsL, Nat.zero_add, Nat.reduceAdd, List.take_succ_cons, List.take_zero, Act.put, List.setIfInBounds_toArray, List.set_cons_zero, List.set_cons_succ]
  rw [e64]
  clear e64
  replace Bx_ := Lib.hid (Bx_.out.new hb); replace Qx_ := Lib.hid (Qx_.out.new hb); replace HW := Lib.hid (bthen HW.out hb HW.out.size)
  clear hb B7_ Q9_
  go_upto_region 8 with (fail)
  refine wp_region_each (kss := [[], [(0, 65)], [], [(2, 67)], [(1, 66), (3, 68)], [(4, 69)], [(5, 70)], [(5, 70), (6, 71)], [(7, 72)]]) [(5, .pointer (some ⟨g3, 0, none⟩)), (6, .pointer (some ⟨g4, 0, none⟩))] [Rv 2 (x), fun v _ => v = .string (txt (x)), fun v _ => v = QL (x), fun v _ => v = .string (txt (x)), fun v _ => v = .bool (true), fun v _ => v = .bool (true), fun v _ => v = .bool (true), fun v _ => v = .bool (true), fun v _ => v = .bool (true)] (by kernel_rfl) (by kernel_rfl) ⟨rfl, rfl, trivial⟩ ?_ ?_ ?_
  · exact ⟨fun _ _ _ h hb => Rv.new h hb, fun _ _ _ h _ => h, fun _ _ _ h _ => h, fun _ _ _ h _ => h, fun _ _ _ h _ => h, fun _ _ _ h _ => h, fun _ _ _ h _ => h, fun _ _ _ h _ => h, fun _ _ _ h _ => h, trivial⟩
  · refine ⟨?_, ?_, ?_, ?_, ?_, ?_, ?_, ?_, ?_, trivial⟩
    · exact fun _ _ hb he hd => ob_plain rfl (load_bn rfl he.1 (Bn.new Bx_.out hb))
    · exact fun _ _ hb he hd => ob_plain rfl (gives_call1 _ _ _ rfl call_text (text_v hd.1.rw (by omega)))
    · exact fun _ _ hb he hd => ob_plain rfl (load_qb rfl he.2.1 (Qb.new Qx_.out hb))
    · exact fun _ _ hb he hd => ob_plain rfl (gives_call1 _ _ _ rfl call_rtext (rtext_v SX.out _ hd.1 _))
    · exact fun _ _ hb he hd => ob_plain rfl (eq_str rfl hd.1 hd.2.1)
    · exact fun _ _ hb he hd => ob_plain rfl (gives_move _ rfl ⟨hd.1, Below.refl _ _⟩)
    · exact fun _ _ hb he hd => ob_on 70 rfl (by kernel_rfl) hd.1 (gives_call0 _ _ rfl call_awake (awake_v _))
    · exact fun _ _ hb he hd => ob_plain rfl (gives_pick true _ _ _ rfl hd.1 ⟨hd.2.1, Below.refl _ _⟩)
    · exact fun _ _ hb he hd => ob_plain rfl (gives_assign _ rfl ⟨hd.1, Below.refl _ _⟩)
  intro vs w20 hb hR
  have e4 : vs 8 = .bool true := hR 8 (by decide)
  clear hR
  simp only [putsL, Nat.zero_add, Nat.reduceAdd, List.take_succ_cons, List.take_zero, Act.put, List.setIfInBounds_toArray, List.set_cons_zero, List.set_cons_succ]
  rw [e4]
  clear e4
  replace HW := Lib.hid (bthen HW.out hb HW.out.size)
  go_wp2_with fail
  go_ret
  exact ⟨rfl, HW.out⟩
set_option maxRecDepth 100000 in
set_option maxHeartbeats 8000000 in
theorem texts_no (a b c d : Int) (s : ByteArray) (w : World) (h : winB a b c d = true) (hs : s.size ≤ 14) (hok : ¬ POk (bytesOf s)) : Calls Try.prog 8 #[.agg #[.int .i64 a, .int .i64 b, .int .i64 c, .int .i64 d], .string s] w fun e w' => e = .returned (.bool true) ∧ Below w.heap.size w w' := by
  have hwin := of_decide_eq_true h
  obtain ⟨⟨wa1, wa2⟩, ⟨wb1, wb2⟩, ⟨wc1, wc2⟩, ⟨wd1, wd2⟩⟩ := hwin
  have HN := Lib.hid h; clear h
  have hx := sm_frac a b ⟨wa1, wa2⟩ ⟨wb1, wb2⟩
  have CX := Lib.hid (fun v v' (hv : v = .int .i64 a) (hv' : v' = .int .i64 b) W => of_v a b ⟨wa1, wa2⟩ ⟨wb1, wb2⟩ v v' hv hv' W)
  generalize ((a : Int) : Rat) / ((den1 b : Int) : Rat) = x at hx CX
  have SX := Lib.hid hx; clear hx
  clear wa1 wa2 wb1 wb2 wc1 wc2 wd1 wd2
  have t1 : decide ((14 : Int) < (s.size : Int)) = false := by simp; omega
  have HNL := Lib.hid (short_long (L := bytesOf s) (by rw [bytes_length]; omega))
  have HQ := Lib.hid (fun W => qparse_any s (by omega) W)
  have HR := Lib.hid (fun W => rqparse_any s hs W)
  have HOK := Lib.hid hok; clear hok
  generalize bytesOf s = TL at *
  have HA : Hid (A4 (w.alloc (.cells #[.int .i64 a, .int .i64 b, .int .i64 c, .int .i64 d] 22)) w.heap.size a b c d) := Lib.hid (Blk.new w _ _)
  have c0 := HA.out.c0; have c1 := HA.out.c1; have c2 := HA.out.c2; have c3 := HA.out.c3
  go_enter Try.func8, Try.ntmps8
  go_wp2_with fail
  refine within_any.mono ?_
  rintro e w1 ⟨rfl, hb⟩
  rw [HN.out]
  replace HA := Lib.hid (HA.out.new hb)
  have HW := Lib.hid (bthen (al w _) hb (al w _).size); clear hb c0 c1 c2 c3
  go_upto_region 3 with (fail)
  refine wp_region_joins (kss := [[], [(0, 21)], [], [(2, 23)], [(1, 22), (3, 24)], [(4, 25)], [(5, 20)], [(5, 20)], [], []]) [(2, .pointer (some ⟨w.heap.size, 0, none⟩))] [fun v _ => v = .pointer (some ⟨w.heap.size, 0, none⟩), fun v _ => v = .int .i64 (a), fun v _ => v = .pointer (some ⟨w.heap.size, 1, none⟩), fun v _ => v = .int .i64 (b), OfV (x), OfV (x), Rv 2 (x), fun v _ => v = QL (x), Zb w1.heap.size, Zq w1.heap.size] 10 (by kernel_rfl) ⟨rfl, trivial⟩ [false, false, false, false, false, false, false, false, true, false] ?_ ?_ ?_
  · exact ⟨fun _ _ _ h _ => h, fun _ _ _ h _ => h, fun _ _ _ h _ => h, fun _ _ _ h _ => h, fun _ _ _ h hb => OfV.new h hb, fun _ _ _ h hb => OfV.new h hb, fun _ _ _ h hb => Rv.new h hb, fun _ _ _ h _ => h, fun _ _ _ h hb => Zb.new h hb, fun _ _ _ h hb => Zq.new h hb, trivial⟩
  · refine ⟨?_, ?_, ?_, ?_, ?_, ?_, ?_, ?_, ?_, ?_, trivial⟩
    · exact fun _ _ hb he hd => ob_plain rfl (idx_0 rfl he.1)
    · exact fun _ _ hb he hd => ob_plain rfl (load_i64 rfl hd.1 (A4.new HA.out hb).c0)
    · exact fun _ _ hb he hd => ob_plain rfl (idx_1 rfl he.1)
    · exact fun _ _ hb he hd => ob_plain rfl (load_i64 rfl hd.1 (A4.new HA.out hb).c1)
    · exact fun _ _ hb he hd => ob_plain rfl (gives_call2 _ _ _ _ rfl call_lof (CX.out _ _ hd.1 hd.2.1 _))
    · exact fun _ _ hb he hd => ob_plain rfl (gives_move _ rfl ⟨hd.1, Below.refl _ _⟩)
    · exact fun _ _ hb he hd => ob_plain rfl (ext_o0 rfl hd.1)
    · exact fun _ _ hb he hd => ob_plain rfl (ext_o1 rfl hd.1)
    · exact fun _ _ hb he hd => ⟨by simp [Region.wanted], alloc_rat rfl hb⟩
    · exact fun _ _ hb he hd => ob_plain rfl (alloc_q rfl hb)
  intro vs w2 hb hR
  have rv : Rv 2 (x) (vs 6) w2 := hR 6 (by decide)
  have e1 : vs 7 = QL (x) := hR 7 (by decide)
  obtain ⟨g3, k3, z3⟩ : Zb w1.heap.size (vs 8) w2 := hR 8 (by decide)
  obtain ⟨g4, k4, z4a, z4⟩ : Zq w1.heap.size (vs 9) w2 := hR 9 (by decide)
  clear hR
  simp only [putsL, Nat.zero_add, Nat.reduceAdd, List.take_succ_cons, List.take_zero, Act.put, List.setIfInBounds_toArray, List.set_cons_zero, List.set_cons_succ]
  rw [e1, k3, k4]
  clear e1 k3 k4
  generalize vs 6 = u6 at *
  show wpOps _ _ _ [10, 11] _ _
  refine wpOps_next rfl rfl (store_rv rfl rfl rfl rfl z3 rv ?_)
  rintro w3 ⟨y1, y2, y3, rfl, hT⟩ rv1 hG hB
  have hne : g4 ≠ g3 := Blk.ne_ (GB.blk z4) z3.2 (by decide)
  have hQ := hG _ _ _ _ hne z4
  have hb4 := hB _ _ z3.1 hb
  refine wpOps_next rfl rfl (store_q rfl rfl rfl rfl hQ ?_)
  show Exit.then _ _ _ _ _
  obtain ⟨hB3, hQ4, hb5⟩ := pair_world rv1 hT hQ hne hb4 z4a
  clear rv1 hT hQ hne hb4 z3 z4 z4a rv hG hB hb
  generalize (w3.setCell ⟨g4, 0, none⟩ (.int .i64 x.num)).setCell ⟨g4, 1, none⟩ (.int .i64 (x.den : Int)) = w4 at hB3 hQ4 hb5 ⊢
  have Bx_ := Lib.hid hB3; have Qx_ := Lib.hid hQ4
  replace HA := Lib.hid (HA.out.new hb5); replace HW := Lib.hid (bthen HW.out hb5 HW.out.size)
  clear hB3 hQ4 hb5
  go_wp2_with fail
  refine (HQ.out _).mono ?_
  rintro e w6 ⟨hb, -, h0, -⟩
  obtain rfl := h0 HNL.out HOK.out
  replace Bx_ := Lib.hid (Bx_.out.new hb); replace Qx_ := Lib.hid (Qx_.out.new hb); replace HW := Lib.hid (bthen HW.out hb HW.out.size)
  clear h0 hb HQ
  unfold zeroR
  go_wp2_with fail
  have hT := TB.made w6 29 (.bool false) (.slice none 0 0) (.slice none 0 0)
  have hb := al w6 (.cells #[.bool false, .slice none 0 0, .slice none 0 0] 29)
  have HG7 := Lib.hid (show w.heap.size ≤ w6.heap.size from HW.out.size)
  obtain ⟨g7, hg7⟩ : ∃ g, g = w6.heap.size := ⟨_, rfl⟩
  rw [← hg7] at hT
  generalize w6.alloc (.cells #[.bool false, .slice none 0 0, .slice none 0 0] 29) = w7 at hT hb ⊢
  have T7 := Lib.hid hT
  replace Bx_ := Lib.hid (Bx_.out.new hb); replace Qx_ := Lib.hid (Qx_.out.new hb); replace HW := Lib.hid (bthen HW.out hb HW.out.size)
  rw [← hg7]
  clear hT hb hg7 HG7
  refine (HR.out _).mono ?_
  rintro e w8 ⟨hb, -, h0⟩
  obtain rfl := h0 HOK.out
  replace Bx_ := Lib.hid (Bx_.out.new hb); replace Qx_ := Lib.hid (Qx_.out.new hb); replace HW := Lib.hid (bthen HW.out hb HW.out.size)
  replace T7 := Lib.hid (T7.out.new hb)
  clear h0 hb HR
  have a1 := T7.out.c1; have a2 := T7.out.c2; have la := T7.out.lt
  go_upto_region 8 with (fail)
  have hQ := GB.made w8 35 (.int .i64 0) (.int .i64 0)
  have hb := al w8 (.cells #[.int .i64 0, .int .i64 0] 35)
  obtain ⟨g9, hg9⟩ : ∃ g, g = w8.heap.size := ⟨_, rfl⟩
  rw [← hg9] at hQ
  generalize w8.alloc (.cells #[.int .i64 0, .int .i64 0] 35) = w9 at hQ hb ⊢
  replace Bx_ := Lib.hid (Bx_.out.new hb); replace Qx_ := Lib.hid (Qx_.out.new hb); replace HW := Lib.hid (bthen HW.out hb HW.out.size)
  rw [← hg9]
  clear hb hQ hg9 a1 a2 la T7
  refine wp_region_each (kss := [[], [(0, 65)], [], [(2, 67)], [(1, 66), (3, 68)], [(4, 69)], [(5, 70)], [(5, 70), (6, 71)], [(7, 72)]]) [(5, .pointer (some ⟨g3, 0, none⟩)), (6, .pointer (some ⟨g4, 0, none⟩))] [Rv 2 (x), fun v _ => v = .string (txt (x)), fun v _ => v = QL (x), fun v _ => v = .string (txt (x)), fun v _ => v = .bool (true), fun v _ => v = .bool (true), fun v _ => v = .bool (true), fun v _ => v = .bool (true), fun v _ => v = .bool (true)] (by kernel_rfl) (by kernel_rfl) ⟨rfl, rfl, trivial⟩ ?_ ?_ ?_
  · exact ⟨fun _ _ _ h hb => Rv.new h hb, fun _ _ _ h _ => h, fun _ _ _ h _ => h, fun _ _ _ h _ => h, fun _ _ _ h _ => h, fun _ _ _ h _ => h, fun _ _ _ h _ => h, fun _ _ _ h _ => h, fun _ _ _ h _ => h, trivial⟩
  · refine ⟨?_, ?_, ?_, ?_, ?_, ?_, ?_, ?_, ?_, trivial⟩
    · exact fun _ _ hb he hd => ob_plain rfl (load_bn rfl he.1 (Bn.new Bx_.out hb))
    · exact fun _ _ hb he hd => ob_plain rfl (gives_call1 _ _ _ rfl call_text (text_v hd.1.rw (by omega)))
    · exact fun _ _ hb he hd => ob_plain rfl (load_qb rfl he.2.1 (Qb.new Qx_.out hb))
    · exact fun _ _ hb he hd => ob_plain rfl (gives_call1 _ _ _ rfl call_rtext (rtext_v SX.out _ hd.1 _))
    · exact fun _ _ hb he hd => ob_plain rfl (eq_str rfl hd.1 hd.2.1)
    · exact fun _ _ hb he hd => ob_plain rfl (gives_move _ rfl ⟨hd.1, Below.refl _ _⟩)
    · exact fun _ _ hb he hd => ob_on 70 rfl (by kernel_rfl) hd.1 (gives_call0 _ _ rfl call_awake (awake_v _))
    · exact fun _ _ hb he hd => ob_plain rfl (gives_pick true _ _ _ rfl hd.1 ⟨hd.2.1, Below.refl _ _⟩)
    · exact fun _ _ hb he hd => ob_plain rfl (gives_assign _ rfl ⟨hd.1, Below.refl _ _⟩)
  intro vs w20 hb hR
  have e4 : vs 8 = .bool true := hR 8 (by decide)
  clear hR
  simp only [putsL, Nat.zero_add, Nat.reduceAdd, List.take_succ_cons, List.take_zero, Act.put, List.setIfInBounds_toArray, List.set_cons_zero, List.set_cons_succ]
  rw [e4]
  clear e4
  replace HW := Lib.hid (bthen HW.out hb HW.out.size)
  go_wp2_with fail
  go_ret
  exact ⟨rfl, HW.out⟩
theorem ratTexts_walk (a b c d : Int) (s : ByteArray) (w : World) {p1 p2 p3 p4 : Prop} (_ : p1) (_ : p2) (_ : p3) (_ : p4) (hz : s.size ≤ 9223372036854775807) : Calls Try.prog 8 #[.agg #[.int .i64 a, .int .i64 b, .int .i64 c, .int .i64 d], .string s] w fun e w' => e = .returned (.bool true) ∧ Below w.heap.size w w' := by
  by_cases hw : winB a b c d = true
  · by_cases hs : s.size ≤ 14
    · by_cases hok : POk (bytesOf s)
      · exact texts_ok a b c d s w hw hs hok
      · exact texts_no a b c d s w hw hs hok
    · exact texts_long a b c d s w hw (by omega) hz
  · exact texts_far a b c d s w (by simpa using hw)
end Go.Proofs.Ytifnbpkcnkfanaa
