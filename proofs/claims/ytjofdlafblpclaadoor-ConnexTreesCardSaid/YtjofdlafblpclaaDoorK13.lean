/-
The walk of law31.ConnexTrees.
-/
import Derived.Test.YtjofdlafblpclaaDoorK9
import Derived.Test.YtjofdlafblpclaaDoorK10
import Derived.Test.YtjofdlafblpclaaDoorK12
namespace Go.Proofs.YtjofdlafblpclaaDoor
open Go.RowKit
set_option linter.unusedSimpArgs false
set_option linter.unusedVariables false

theorem rv_ext {w : World} {n f : Nat} {es : List Nat} {f9 : FuncId} {args : Array Value} (hn : n ≤ 32) (hf : f ≤ n) (hb : ∀ e ∈ es, e < 2 ^ n) (h : Calls Tryd.prog f9 args w (ExtRet n (es ++ [2 ^ f - 1]) w)) :
    Calls Tryd.prog f9 args w (RV w (fun v w' => ∃ (A : Option Addr) (c : Nat), v = .agg #[.int .i64 n, .slice A (es.length + 1) c] ∧ Es w' w'.heap.size A (es.length + 1) (es ++ [2 ^ f - 1]))) := by
  refine h.mono ?_
  rintro e w' ⟨v, rfl, hown, hbl⟩
  obtain ⟨A, c, rfl, he⟩ := Es.of_rowU hown (fun y hy => Nat.lt_of_lt_of_le (bound_snoc hf hb y hy) (two_pow_le hn))
  rw [show (es ++ [2 ^ f - 1] : List Nat).length = es.length + 1 by simp] at he ⊢
  exact ⟨_, rfl, ⟨A, c, rfl, he⟩, hbl⟩
set_option maxRecDepth 100000 in
set_option maxHeartbeats 8000000 in
theorem connexTrees_walk (n : Int) (A : Option Addr) (es : List Nat) (len c : Nat) (f : Int) (w : World) (hG0 : GTab w) (hr : Es w w.heap.size A len es) (_ : -9223372036854775808 ≤ n ∧ n ≤ 9223372036854775807) (_ : len ≤ c) (_ : -9223372036854775808 ≤ f ∧ f ≤ 9223372036854775807) :
    Calls Tryd.prog 9 #[.agg #[.int .i64 n, .slice A len c], .int .i64 f] w fun e w' => e = .returned (.bool true) ∧ Below w.heap.size w w' := by
  have HLEN := Lib.hid hr.len
  have HR := Lib.hid hr; clear hr
  have HGT := Lib.hid hG0; clear hG0
  have HG := Lib.hid (GB.made w 24 (.int .i64 n) (.slice A len c))
  have HB := Lib.hid (al w (.cells #[.int .i64 n, .slice A len c] 24))
  cases hgr : greatB n es with
  | true =>
    have HQ := Lib.hid hgr; clear hgr
    go_enter Tryd.func9, Tryd.ntmps9
    have g0 := HG.out.c0; have g1 := HG.out.c1; have glt := HG.out.lt
    go_wp2_with fail
    refine (great_any n A es len c _ (HR.out.new HB.out)).mono ?_
    rintro e wx ⟨rfl, hb⟩
    rw [HQ.out]
    replace HG := Lib.hid (HG.out.new hb); replace HB := Lib.hid (bthen HB.out hb HB.out.size)
    clear hb g0 g1 glt
    have g0 := HG.out.c0; have g1 := HG.out.c1; have glt := HG.out.lt
    go_wp2_with fail
    refine (awake31_any _ (HGT.out.new HB.out)).mono ?_
    rintro e wx ⟨rfl, hb⟩
    replace HG := Lib.hid (HG.out.new hb); replace HB := Lib.hid (bthen HB.out hb HB.out.size)
    clear hb g0 g1 glt
    have g0 := HG.out.c0; have g1 := HG.out.c1; have glt := HG.out.lt
    go_wp2_with fail
    go_ret
    exact ⟨rfl, HB.out⟩
  | false =>
    have HQ := Lib.hid hgr
    by_cases hfc : freeCode n es f = 0
    · obtain ⟨hcc, hf0, hfn⟩ := free_zero hfc
      obtain ⟨hn6, hl8⟩ := great_false hgr hcc
      clear hgr
      obtain ⟨h0, hn32, _, hes⟩ := checkCode_zero hcc
      obtain ⟨n, rfl⟩ := Int.eq_ofNat_of_zero_le h0
      obtain ⟨f, rfl⟩ := Int.eq_ofNat_of_zero_le hf0
      have hes' : ∀ e ∈ es, e < 2 ^ n := by simpa using hes
      have hfn' : f ≤ n := by omega
      have hn' : n ≤ 32 := by omega
      have HES := Lib.hid hes'; have HC := Lib.hid hcc; have HFC := Lib.hid hfc
      have HL8 := Lib.hid hl8
      have HCX := Lib.hid (code_ok hn' (by rw [List.length_append, List.length_singleton]; omega) (bound_snoc hfn' hes'))
      have hl9 : len ≤ 8 := by rw [HLEN.out]; exact hl8
      clear hes hes' hcc hfc hf0 hfn h0 hn32 hl8
      by_cases hA : Acyc n es
      · by_cases hX : Acyc n (es ++ [2 ^ f - 1])
        · skip
          go_enter Tryd.func9, Tryd.ntmps9
          have g0 := HG.out.c0; have g1 := HG.out.c1; have glt := HG.out.lt
          go_wp2_with fail
          refine (great_any n A es len c _ (HR.out.new HB.out)).mono ?_
          rintro e wx ⟨rfl, hb⟩
          rw [HQ.out]
          replace HG := Lib.hid (HG.out.new hb); replace HB := Lib.hid (bthen HB.out hb HB.out.size)
          clear hb g0 g1 glt
          have g0 := HG.out.c0; have g1 := HG.out.c1; have glt := HG.out.lt
          go_wp2_with fail
          refine (tree_ok n f A es len c _ (HR.out.new HB.out) HC.out hfn' (by omega) hA hX).mono ?_
          rintro e wx ⟨F9, A9, c9, hpt9, hjt9, rfl, hx9, hb⟩
          have HPT := Lib.hid hpt9; have HJT := Lib.hid hjt9; have HX9 := Lib.hid hx9; clear hpt9 hjt9 hx9
          replace HG := Lib.hid (HG.out.new hb); replace HB := Lib.hid (bthen HB.out hb HB.out.size)
          clear hb g0 g1 glt
          have g0 := HG.out.c0; have g1 := HG.out.c1; have glt := HG.out.lt
          go_wp2_with fail
          have hb := al wx (.cells #[.slice A9 (es.length + 1) c9] 44)
          replace HG := Lib.hid (HG.out.new hb); replace HB := Lib.hid (bthen HB.out hb HB.out.size)
          replace HX9 := Lib.hid (HX9.out.new hb)
          have HT := Lib.hid (Blk.new wx 44 #[Value.slice A9 (es.length + 1) c9])
          clear hb g0 g1 glt
          generalize wx.alloc (.cells #[.slice A9 (es.length + 1) c9] 44) = wy at *
          obtain ⟨g5, hg5⟩ : ∃ g, g = wx.heap.size := ⟨_, rfl⟩
          rw [← hg5] at HT ⊢; clear hg5
          have g0 := HG.out.c0; have g1 := HG.out.c1; have glt := HG.out.lt
          refine (wrong_any n A es len c f _ (HR.out.new HB.out)).mono ?_
          rintro e wx ⟨rfl, hb⟩
          rw [HFC.out]
          replace HG := Lib.hid (HG.out.new hb); replace HB := Lib.hid (bthen HB.out hb HB.out.size)
          replace HT := Lib.hid (HT.out.below hb HT.out.lt)
          replace HX9 := Lib.hid (HX9.out.new hb)
          clear hb g0 g1 glt
          have g0 := HG.out.c0; have g1 := HG.out.c1; have glt := HG.out.lt
          go_wp2_with fail
          refine (acyclic_ok n A es len c _ (HR.out.new HB.out) HC.out).mono ?_
          rintro e wx ⟨b, hb0, rfl, hb⟩
          obtain rfl : b = true := iff_true hb0 hA
          clear hb0
          replace HG := Lib.hid (HG.out.new hb); replace HB := Lib.hid (bthen HB.out hb HB.out.size)
          replace HT := Lib.hid (HT.out.below hb HT.out.lt)
          replace HX9 := Lib.hid (HX9.out.new hb)
          clear hb g0 g1 glt
          have g0 := HG.out.c0; have g1 := HG.out.c1; have glt := HG.out.lt
          go_wp2_with fail
          refine (lext_any n f A es len c _ (HR.out.new HB.out) (by omega) (by omega)).mono ?_
          rintro e wx ⟨v3, rfl, hown, hb⟩
          obtain ⟨A3, c3, rfl, he3⟩ := Es.of_rowU hown (fun y hy => Nat.lt_of_lt_of_le (bound_snoc (by omega) HES.out y hy) (two_pow_le hn'))
          rw [show (es ++ [2 ^ f - 1] : List Nat).length = es.length + 1 by simp] at he3 ⊢
          have HE3 := Lib.hid he3; clear he3 hown
          replace HG := Lib.hid (HG.out.new hb); replace HB := Lib.hid (bthen HB.out hb HB.out.size)
          replace HT := Lib.hid (HT.out.below hb HT.out.lt)
          replace HX9 := Lib.hid (HX9.out.new hb)
          clear hb g0 g1 glt
          have g0 := HG.out.c0; have g1 := HG.out.c1; have glt := HG.out.lt
          go_wp2_with fail
          refine (acyclic_ok n A3 _ _ c3 _ HE3.out HCX.out).mono ?_
          rintro e wx ⟨b, hb0, rfl, hb⟩
          obtain rfl : b = true := iff_true hb0 hX
          clear hb0 HE3
          replace HG := Lib.hid (HG.out.new hb); replace HB := Lib.hid (bthen HB.out hb HB.out.size)
          replace HT := Lib.hid (HT.out.below hb HT.out.lt)
          replace HX9 := Lib.hid (HX9.out.new hb)
          clear hb g0 g1 glt
          go_upto_region 12 with (fail)
          refine wp_region_each (kss := [[], [(0, 47)], [(1, 48)], [(2, 49)], [(2, 49)], [(2, 49), (3, 50), (4, 51)], [(2, 49)], [(2, 49), (5, 52), (6, 53)], [(2, 49), (7, 54)], [(2, 49), (8, 55)], [(9, 56)], [(10, 57)], [(10, 57), (11, 58)], [(10, 57)], [(10, 57), (13, 60)], [(10, 57), (14, 61)], [(10, 57), (12, 59), (15, 62)], [(10, 57), (16, 63)], [(17, 64)], [(18, 65)], [(18, 65), (19, 66)], [(20, 67)]]) [(6, .int .i64 0), (2, .pointer (some ⟨w.heap.size, 0, none⟩)), (1, .int .i64 ((f : Int))), (5, .pointer (some ⟨g5, 0, none⟩))] [fun zz _ => zz = .int .i64 0, fun zz _ => zz = .bool true, fun zz _ => zz = .bool true, fun zz _ => zz = .agg #[.int .i64 ((n : Int)), .slice A len c], fun zz _ => zz = .int .i64 ((f : Int)), fun v w' => ∃ (A : Option Addr) (c : Nat), v = .agg #[.int .i64 n, .slice A (es.length + 1) c] ∧ Es w' w'.heap.size A (es.length + 1) (es ++ [2 ^ f - 1]), fun zz _ => zz = .agg #[.slice A9 ((es.length + 1)) c9], fun zz _ => zz = .int .i64 0, fun zz _ => zz = .bool true, fun zz _ => zz = .bool true, fun zz _ => zz = .bool true, fun zz _ => zz = .agg #[.slice A9 ((es.length + 1)) c9], fun zz _ => zz = .int .i64 ((es.length : Int)), fun zz _ => zz = .pointer (some ⟨w.heap.size, 1, none⟩), fun zz _ => zz = .slice A len c, fun zz _ => zz = .int .i64 len, fun zz _ => zz = .bool true, fun zz _ => zz = .bool true, fun zz _ => zz = .bool true, fun zz _ => zz = .bool true, fun zz _ => zz = .bool true, fun zz _ => zz = .bool true] (by kernel_rfl) (by kernel_rfl) ⟨rfl, rfl, rfl, rfl, trivial⟩ ?_ ?_ ?_
          · exact ⟨fun _ _ _ h _ => h, fun _ _ _ h _ => h, fun _ _ _ h _ => h, fun _ _ _ h _ => h, fun _ _ _ h _ => h, fun _ _ _ ⟨A, c, h1, h2⟩ hb => ⟨A, c, h1, h2.new hb⟩, fun _ _ _ h _ => h, fun _ _ _ h _ => h, fun _ _ _ h _ => h, fun _ _ _ h _ => h, fun _ _ _ h _ => h, fun _ _ _ h _ => h, fun _ _ _ h _ => h, fun _ _ _ h _ => h, fun _ _ _ h _ => h, fun _ _ _ h _ => h, fun _ _ _ h _ => h, fun _ _ _ h _ => h, fun _ _ _ h _ => h, fun _ _ _ h _ => h, fun _ _ _ h _ => h, fun _ _ _ h _ => h, trivial⟩
          · refine ⟨?_, ?_, ?_, ?_, ?_, ?_, ?_, ?_, ?_, ?_, ?_, ?_, ?_, ?_, ?_, ?_, ?_, ?_, ?_, ?_, ?_, ?_, trivial⟩
            · exact fun aa ww hb he hd => ob_plain rfl (gives_move _ rfl ⟨he.1, Below.refl _ _⟩)
            · exact fun aa ww hb he hd => ob_plain rfl (gives_eq_int 0 0 .i64 _ _ _ _ rfl hd.1 rfl ⟨congrArg Value.bool (rfl), Below.refl _ _⟩)
            · exact fun aa ww hb he hd => ob_plain rfl (gives_move _ rfl ⟨hd.1, Below.refl _ _⟩)
            · exact fun aa ww hb he hd => ob_on 49 rfl (by kernel_rfl) hd.1 (load_gr rfl rfl he.2.1 (GB.new HG.out hb))
            · exact fun aa ww hb he hd => ob_on 49 rfl (by kernel_rfl) hd.1 (gives_move _ rfl ⟨he.2.2.1, Below.refl _ _⟩)
            · exact fun aa ww hb he hd => ob_on 49 rfl (by kernel_rfl) hd.1 (gives_call2 _ _ _ _ rfl (by kernel_rfl) (by rw [show aa.eval (.tmp 50) = .agg #[.int .i64 ((n : Int)), .slice A len c] from hd.2.1, show aa.eval (.tmp 51) = .int .i64 ((f : Int)) from hd.2.2.1]; exact rv_ext hn' hfn' HES.out (lext_any n f A es len c _ (HR.out.new (bthen HB.out hb HB.out.size)) (by omega) (by omega))))
            · exact fun aa ww hb he hd => ob_on 49 rfl (by kernel_rfl) hd.1 (load_tr rfl rfl he.2.2.2.1 (Blk.below HT.out hb HT.out.lt))
            · exact fun aa ww hb he hd => ob_on 49 rfl (by kernel_rfl) hd.1 (gives_call2 _ _ _ _ rfl (by kernel_rfl) (by obtain ⟨A7, c7, h7, hE7⟩ := hd.2.1; rw [show aa.eval (.tmp 52) = .agg #[.int .i64 n, .slice A7 (es.length + 1) c7] from h7, show aa.eval (.tmp 53) = .agg #[.slice A9 (es.length + 1) c9] from hd.2.2.1]; exact rv_one (jcheck_any n A7 _ _ c7 A9 F9 c9 es.length _ hE7 (HX9.out.new hb) HCX.out HPT.out HJT.out)))
            · exact fun aa ww hb he hd => ob_on 49 rfl (by kernel_rfl) hd.1 (gives_eq_int 0 0 .i64 _ _ _ _ rfl hd.2.1 rfl ⟨congrArg Value.bool (rfl), Below.refl _ _⟩)
            · exact fun aa ww hb he hd => ob_plain rfl (gives_pick true _ _ _ rfl hd.1 ⟨hd.2.1, Below.refl _ _⟩)
            · exact fun aa ww hb he hd => ob_plain rfl (gives_move _ rfl ⟨hd.1, Below.refl _ _⟩)
            · exact fun aa ww hb he hd => ob_on 57 rfl (by kernel_rfl) hd.1 (load_tr rfl rfl he.2.2.2.1 (Blk.below HT.out hb HT.out.lt))
            · exact fun aa ww hb he hd => ob_on 57 rfl (by kernel_rfl) hd.1 (gives_call1 _ _ _ rfl (by kernel_rfl) (by rw [show aa.eval (.tmp 58) = .agg #[.slice A9 ((es.length + 1)) c9] from hd.2.1]; exact rv_one (root_any A9 F9 _ c9 es.length _ (HX9.out.new hb) HPT.out)))
            · exact fun aa ww hb he hd => ob_on 57 rfl (by kernel_rfl) hd.1 (fld_1 rfl he.2.1)
            · exact fun aa ww hb he hd => ob_on 57 rfl (by kernel_rfl) hd.1 (load_es rfl hd.2.1 (GB.c1 (GB.new HG.out hb)))
            · exact fun aa ww hb he hd => ob_on 57 rfl (by kernel_rfl) hd.1 (len_c Tryd.underlying22 rfl hd.2.1)
            · exact fun aa ww hb he hd => ob_on 57 rfl (by kernel_rfl) hd.1 (gives_eq_int ((es.length : Int)) len .i64 _ _ _ _ rfl hd.2.1 hd.2.2.1 ⟨congrArg Value.bool (by rw [HLEN.out]; simp), Below.refl _ _⟩)
            · exact fun aa ww hb he hd => ob_plain rfl (gives_pick true _ _ _ rfl hd.1 ⟨hd.2.1, Below.refl _ _⟩)
            · exact fun aa ww hb he hd => ob_plain rfl (gives_move _ rfl ⟨hd.1, Below.refl _ _⟩)
            · exact fun aa ww hb he hd => ob_on 65 rfl (by kernel_rfl) hd.1 (gives_call0 _ _ rfl (by kernel_rfl) (rv_one (awake31_any _ (HGT.out.new (bthen HB.out hb HB.out.size)))))
            · exact fun aa ww hb he hd => ob_plain rfl (gives_pick true _ _ _ rfl hd.1 ⟨hd.2.1, Below.refl _ _⟩)
            · exact fun aa ww hb he hd => ob_plain rfl (gives_assign _ rfl ⟨hd.1, Below.refl _ _⟩)
          intro vs wz hb hR
          have e4 : vs 21 = .bool true := hR 21 (by decide)
          clear hR
          simp only [putsL, Nat.zero_add, Nat.reduceAdd, List.take_succ_cons, List.take_zero, Act.put, List.setIfInBounds_toArray, List.set_cons_zero, List.set_cons_succ]
          rw [e4]
          clear e4
          go_wp2_with fail
          go_ret
          exact ⟨rfl, bthen HB.out hb HB.out.size⟩
        · skip
          go_enter Tryd.func9, Tryd.ntmps9
          have g0 := HG.out.c0; have g1 := HG.out.c1; have glt := HG.out.lt
          go_wp2_with fail
          refine (great_any n A es len c _ (HR.out.new HB.out)).mono ?_
          rintro e wx ⟨rfl, hb⟩
          rw [HQ.out]
          replace HG := Lib.hid (HG.out.new hb); replace HB := Lib.hid (bthen HB.out hb HB.out.size)
          clear hb g0 g1 glt
          have g0 := HG.out.c0; have g1 := HG.out.c1; have glt := HG.out.lt
          go_wp2_with fail
          refine (tree_path n f A es len c _ (HR.out.new HB.out) HC.out hfn' (by omega) hA hX).mono ?_
          rintro e wx ⟨rfl, hb⟩
          replace HG := Lib.hid (HG.out.new hb); replace HB := Lib.hid (bthen HB.out hb HB.out.size)
          clear hb g0 g1 glt
          have g0 := HG.out.c0; have g1 := HG.out.c1; have glt := HG.out.lt
          go_wp2_with fail
          have hb := al wx (.cells #[.slice none 0 0] 44)
          replace HG := Lib.hid (HG.out.new hb); replace HB := Lib.hid (bthen HB.out hb HB.out.size)
          have HT := Lib.hid (Blk.new wx 44 #[Value.slice none 0 0])
          clear hb g0 g1 glt
          generalize wx.alloc (.cells #[.slice none 0 0] 44) = wy at *
          obtain ⟨g5, hg5⟩ : ∃ g, g = wx.heap.size := ⟨_, rfl⟩
          rw [← hg5] at HT ⊢; clear hg5
          have g0 := HG.out.c0; have g1 := HG.out.c1; have glt := HG.out.lt
          refine (wrong_any n A es len c f _ (HR.out.new HB.out)).mono ?_
          rintro e wx ⟨rfl, hb⟩
          rw [HFC.out]
          replace HG := Lib.hid (HG.out.new hb); replace HB := Lib.hid (bthen HB.out hb HB.out.size)
          replace HT := Lib.hid (HT.out.below hb HT.out.lt)
          clear hb g0 g1 glt
          have g0 := HG.out.c0; have g1 := HG.out.c1; have glt := HG.out.lt
          go_wp2_with fail
          refine (acyclic_ok n A es len c _ (HR.out.new HB.out) HC.out).mono ?_
          rintro e wx ⟨b, hb0, rfl, hb⟩
          obtain rfl : b = true := iff_true hb0 hA
          clear hb0
          replace HG := Lib.hid (HG.out.new hb); replace HB := Lib.hid (bthen HB.out hb HB.out.size)
          replace HT := Lib.hid (HT.out.below hb HT.out.lt)
          clear hb g0 g1 glt
          have g0 := HG.out.c0; have g1 := HG.out.c1; have glt := HG.out.lt
          go_wp2_with fail
          refine (lext_any n f A es len c _ (HR.out.new HB.out) (by omega) (by omega)).mono ?_
          rintro e wx ⟨v3, rfl, hown, hb⟩
          obtain ⟨A3, c3, rfl, he3⟩ := Es.of_rowU hown (fun y hy => Nat.lt_of_lt_of_le (bound_snoc (by omega) HES.out y hy) (two_pow_le hn'))
          rw [show (es ++ [2 ^ f - 1] : List Nat).length = es.length + 1 by simp] at he3 ⊢
          have HE3 := Lib.hid he3; clear he3 hown
          replace HG := Lib.hid (HG.out.new hb); replace HB := Lib.hid (bthen HB.out hb HB.out.size)
          replace HT := Lib.hid (HT.out.below hb HT.out.lt)
          clear hb g0 g1 glt
          have g0 := HG.out.c0; have g1 := HG.out.c1; have glt := HG.out.lt
          go_wp2_with fail
          refine (acyclic_ok n A3 _ _ c3 _ HE3.out HCX.out).mono ?_
          rintro e wx ⟨b, hb0, rfl, hb⟩
          obtain rfl : b = false := iff_false hb0 hX
          clear hb0 HE3
          replace HG := Lib.hid (HG.out.new hb); replace HB := Lib.hid (bthen HB.out hb HB.out.size)
          replace HT := Lib.hid (HT.out.below hb HT.out.lt)
          clear hb g0 g1 glt
          have g0 := HG.out.c0; have g1 := HG.out.c1; have glt := HG.out.lt
          have k0 := TB.c0 HT.out; have kl := HT.out.lt
          go_wp2_with fail
          refine (awake31_any _ (HGT.out.new HB.out)).mono ?_
          rintro e wx ⟨rfl, hb⟩
          replace HG := Lib.hid (HG.out.new hb); replace HB := Lib.hid (bthen HB.out hb HB.out.size)
          clear hb g0 g1 glt
          have g0 := HG.out.c0; have g1 := HG.out.c1; have glt := HG.out.lt
          go_wp2_with fail
          go_ret
          exact ⟨rfl, HB.out⟩
      · skip
        go_enter Tryd.func9, Tryd.ntmps9
        have g0 := HG.out.c0; have g1 := HG.out.c1; have glt := HG.out.lt
        go_wp2_with fail
        refine (great_any n A es len c _ (HR.out.new HB.out)).mono ?_
        rintro e wx ⟨rfl, hb⟩
        rw [HQ.out]
        replace HG := Lib.hid (HG.out.new hb); replace HB := Lib.hid (bthen HB.out hb HB.out.size)
        clear hb g0 g1 glt
        have g0 := HG.out.c0; have g1 := HG.out.c1; have glt := HG.out.lt
        go_wp2_with fail
        refine (tree_cyc n f A es len c _ (HR.out.new HB.out) HC.out hfn' hA).mono ?_
        rintro e wx ⟨rfl, hb⟩
        replace HG := Lib.hid (HG.out.new hb); replace HB := Lib.hid (bthen HB.out hb HB.out.size)
        clear hb g0 g1 glt
        have g0 := HG.out.c0; have g1 := HG.out.c1; have glt := HG.out.lt
        go_wp2_with fail
        have hb := al wx (.cells #[.slice none 0 0] 44)
        replace HG := Lib.hid (HG.out.new hb); replace HB := Lib.hid (bthen HB.out hb HB.out.size)
        have HT := Lib.hid (Blk.new wx 44 #[Value.slice none 0 0])
        clear hb g0 g1 glt
        generalize wx.alloc (.cells #[.slice none 0 0] 44) = wy at *
        obtain ⟨g5, hg5⟩ : ∃ g, g = wx.heap.size := ⟨_, rfl⟩
        rw [← hg5] at HT ⊢; clear hg5
        have g0 := HG.out.c0; have g1 := HG.out.c1; have glt := HG.out.lt
        refine (wrong_any n A es len c f _ (HR.out.new HB.out)).mono ?_
        rintro e wx ⟨rfl, hb⟩
        rw [HFC.out]
        replace HG := Lib.hid (HG.out.new hb); replace HB := Lib.hid (bthen HB.out hb HB.out.size)
        replace HT := Lib.hid (HT.out.below hb HT.out.lt)
        clear hb g0 g1 glt
        have g0 := HG.out.c0; have g1 := HG.out.c1; have glt := HG.out.lt
        go_wp2_with fail
        refine (acyclic_ok n A es len c _ (HR.out.new HB.out) HC.out).mono ?_
        rintro e wx ⟨b, hb0, rfl, hb⟩
        obtain rfl : b = false := iff_false hb0 hA
        clear hb0
        replace HG := Lib.hid (HG.out.new hb); replace HB := Lib.hid (bthen HB.out hb HB.out.size)
        replace HT := Lib.hid (HT.out.below hb HT.out.lt)
        clear hb g0 g1 glt
        have g0 := HG.out.c0; have g1 := HG.out.c1; have glt := HG.out.lt
        have k0 := TB.c0 HT.out; have kl := HT.out.lt
        go_wp2_with fail
        refine (awake31_any _ (HGT.out.new HB.out)).mono ?_
        rintro e wx ⟨rfl, hb⟩
        replace HG := Lib.hid (HG.out.new hb); replace HB := Lib.hid (bthen HB.out hb HB.out.size)
        clear hb g0 g1 glt
        have g0 := HG.out.c0; have g1 := HG.out.c1; have glt := HG.out.lt
        go_wp2_with fail
        go_ret
        exact ⟨rfl, HB.out⟩
    · have t0 : (freeCode n es f != 0) = true := by simp [hfc]
      have HFC := Lib.hid hfc; clear hfc hgr
      go_enter Tryd.func9, Tryd.ntmps9
      have g0 := HG.out.c0; have g1 := HG.out.c1; have glt := HG.out.lt
      go_wp2_with fail
      refine (great_any n A es len c _ (HR.out.new HB.out)).mono ?_
      rintro e wx ⟨rfl, hb⟩
      rw [HQ.out]
      replace HG := Lib.hid (HG.out.new hb); replace HB := Lib.hid (bthen HB.out hb HB.out.size)
      clear hb g0 g1 glt
      have g0 := HG.out.c0; have g1 := HG.out.c1; have glt := HG.out.lt
      go_wp2_with fail
      refine (tree_bad n f A es len c _ (HR.out.new HB.out) HFC.out).mono ?_
      rintro e wx ⟨rfl, hb⟩
      replace HG := Lib.hid (HG.out.new hb); replace HB := Lib.hid (bthen HB.out hb HB.out.size)
      clear hb g0 g1 glt
      have g0 := HG.out.c0; have g1 := HG.out.c1; have glt := HG.out.lt
      go_wp2_with fail
      have hb := al wx (.cells #[.slice none 0 0] 44)
      replace HG := Lib.hid (HG.out.new hb); replace HB := Lib.hid (bthen HB.out hb HB.out.size)
      have HT := Lib.hid (Blk.new wx 44 #[Value.slice none 0 0])
      clear hb g0 g1 glt
      generalize wx.alloc (.cells #[.slice none 0 0] 44) = wy at *
      obtain ⟨g5, hg5⟩ : ∃ g, g = wx.heap.size := ⟨_, rfl⟩
      rw [← hg5] at HT ⊢; clear hg5
      have g0 := HG.out.c0; have g1 := HG.out.c1; have glt := HG.out.lt
      refine (wrong_any n A es len c f _ (HR.out.new HB.out)).mono ?_
      rintro e wx ⟨rfl, hb⟩
      replace HG := Lib.hid (HG.out.new hb); replace HB := Lib.hid (bthen HB.out hb HB.out.size)
      replace HT := Lib.hid (HT.out.below hb HT.out.lt)
      clear hb g0 g1 glt
      have g0 := HG.out.c0; have g1 := HG.out.c1; have glt := HG.out.lt
      have q0 : (freeCode n es f == freeCode n es f) = true := by simp
      have k0 := TB.c0 HT.out; have kl := HT.out.lt
      go_wp2_with fail
      refine (awake31_any _ (HGT.out.new HB.out)).mono ?_
      rintro e wx ⟨rfl, hb⟩
      replace HG := Lib.hid (HG.out.new hb); replace HB := Lib.hid (bthen HB.out hb HB.out.size)
      clear hb g0 g1 glt
      have g0 := HG.out.c0; have g1 := HG.out.c1; have glt := HG.out.lt
      go_wp2_with fail
      go_ret
      exact ⟨rfl, HB.out⟩
end Go.Proofs.YtjofdlafblpclaaDoor
