/-
Contract of cover.packing. Printed by gen/scv.py.
Contracts of cover.zeros and cover.vertices.
Contract of cover.visit, for every function whose calls keep an invariant. Printed by gen/scv.py.
Contract of cover.total. Printed by gen/scv.py.

Covers as values: lemmas of their operations. Printed by gen/scv.py.
Contracts of cover.divisor, exponent, power.
Plain: the triangle; integer covers of the reference; the value 1.
Plain: Newton's iteration for roots of natural numbers.
Plain: the least common denominator of weights; the product of sizes.
-/
import Derived.Test.YtpnklmgfdihjfaaK9
import Derived.Test.YtpnklmgfdihjfaaK12
import Derived.Test.YtpnklmgfdihjfaaK10
import Derived.Test.YtpnklmgfdihjfaaK6
import Derived.Test.YtpnklmgfdihjfaaK1
import Derived.Test.YtpnklmgfdihjfaaK3
import Derived.Test.YtpnklmgfdihjfaaK5
namespace Go.Proofs.Ytpnklmgfdihjfaa
open Go.RowKit
set_option linter.unusedVariables false
set_option linter.unusedSimpArgs false

theorem bit_one9 (e v : Nat) (he : e < 2 ^ 32) : (bits .and .u32 ((e : Int) / 2 ^ v) 1 == 1) = e.testBit v := by
  rw [bits_and_one e v he]
  cases e.testBit v <;> rfl
theorem gives_bs_int {o : Oper} {a : Act} {w : World} {t : Tmp} {y : Int} (ho : o.op = .buildSlice 45 1 #[(0, .tmp t)]) (h : tv a t = .int .i64 y) : gives Try.prog o a.eval w (fun v w' => (∃ g, v = .slice (some ⟨g, 0, none⟩) 1 1 ∧ Blk w' g 3 #[.int .i64 y]) ∧ Below w.heap.size w w') := by
  have hh : a.tmps[t]?.getD undef = .int .i64 y := by simpa [tv] using h
  have hr : (execOp a.eval o).run Try.prog w = .ok (.value (.slice (some ⟨w.heap.size, 0, none⟩) 1 1)) (w.alloc (.cells #[.int .i64 y] 3)) := by
    unfold execOp
    rw [ho]
    go_simp
  unfold gives
  rw [hr]
  exact ⟨⟨_, rfl, Blk.new _ _ _⟩, al _ _⟩
theorem results_cell_tmp2 {P : Program} {fn : Func} {p t u : Tmp} {ty : TypeId} (h : fn.results = #[.cell p ty, .tmp t, .tmp u]) (tmps : Array Value) (w : World) (g : Nat) (t' : TypeId) (cs : Array Value) (fr : Nat × Nat) (d : TypeDesc)
    (hp : tmps.getD p undef = .pointer (some ⟨g, 0, none⟩)) (hg : w.heap[g]? = some (.cells cs t' fr))
    (hu : P.underlying ty = some d) (hd : (match d with | .struct _ | .array _ _ => true | _ => false) = true) (hi : (P.info? ty).map (·.size) = some cs.size) :
    (results fn tmps).run P w = .ok (.tuple #[.agg cs, tmps.getD t undef, tmps.getD u undef]) w := by
  have hp' : tmps[p]?.getD undef = .pointer (some ⟨g, 0, none⟩) := by simpa using hp
  simp [results, h, hp', asAddr, run_loadVar_row w g t' ty cs fr d hg hu hd hi]
theorem PrW.congrA {w : World} {b n m k : Nat} {AC AA AB : Option Addr} {Ar : Nat → Option Addr} {ln cp : Nat → Nat} {A A' : Nat → Nat → Rat} {C B : Nat → Rat} (h : PrW w b n m k AC AA AB Ar ln cp A C B) (e : ∀ i j, A i j = A' i j) : PrW w b n m k AC AA AB Ar ln cp A' C B := by
  have : A = A' := funext fun i => funext fun j => e i j
  rw [← this]; exact h
def PkRet (n s len : Nat) (es : List Nat) (v : Value) (w : World) : Prop :=
  ∃ (A2 : Option Addr) (c2 : Nat) (DA : Option Addr) (da : Nat) (DB : Option Addr) (db : Nat) (A1 : Option Addr) (c1 : Nat) (AF : Option Addr) (cf : Nat) (Dr : Nat → Option Addr) (dp : Nat → Nat),
    v = .tuple #[.agg #[.slice A2 (memL s n).length c2, .slice DA (fstL (nth es) s len).length da, .slice DB (fstL (nth es) s len).length db], .slice A1 (memL s n).length c1, .slice AF (fstL (nth es) s len).length cf] ∧
    PrW w 2 (memL s n).length (fstL (nth es) s len).length (fstL (nth es) s len).length A2 DA DB Dr (fun _ => (memL s n).length) dp (cvA (nth es) s (memL s n) (fstL (nth es) s len)) (fun _ => 1) (fun _ => 1) ∧
    Reads w w.heap.size 1 A1 (memL s n).length (mints (memL s n)) ∧ Reads w w.heap.size 1 AF (fstL (nth es) s len).length (mints (fstL (nth es) s len))
def bt9 (x k : Nat) : Nat := if x.testBit k then 1 else 0
theorem bt9_le (x k : Nat) : bt9 x k ≤ 1 := by unfold bt9; split <;> omega
theorem and1_u32 {o : Oper} {a : Act} {w : World} {t : Tmp} {x k : Nat} {T T2 : TypeId} (hx : x < 4294967296) (ho : o.op = .binOp .and T (.tmp t) (.const (.int .u32 1)) T2) (h : tv a t = .int .u32 ((x : Int) / 2 ^ k)) : gives Try.prog o a.eval w (fun v w' => v = .int .u32 ((bt9 x k : Nat) : Int) ∧ Below w.heap.size w w') := by
  have e : bits .and .u32 ((x : Int) / 2 ^ k) 1 = ((bt9 x k : Nat) : Int) := bits_and_one x k hx
  refine gives_val (.int .u32 ((bt9 x k : Nat) : Int)) ?_ ⟨rfl, Below.refl _ _⟩
  unfold execOp; rw [ho]; simp only [eval_tmp, eval_const, h]
  go_simp
theorem conv_u32i {o : Oper} {a : Act} {w : World} {t : Tmp} {k : Nat} (hk : k ≤ 1) (ho : o.op = .convert 25 2 (.tmp t)) (hx : tv a t = .int .u32 (k : Int)) : gives Try.prog o a.eval w (fun v w' => v = .int .i64 (k : Int) ∧ Below w.heap.size w w') := by
  have e : IntKind.i64.wrap (k : Int) = (k : Int) := IntWalk.i64_in _ (by omega)
  refine gives_val (.int .i64 (k : Int)) ?_ ⟨rfl, Below.refl _ _⟩
  unfold execOp; rw [ho]; simp only [eval_tmp, hx]
  go_simp
  all_goals first | exact e | omega
/-- An element of a row: whether the part holds the l-th vertex. -/
def cvb (p : Nat) (L : List Nat) (l : Nat) : Rat := (((bt9 p (atL L l) : Nat) : Int) : Rat)
theorem cvb_A (es : Nat → Nat) (s : Nat) (L F : List Nat) (i j : Nat) : cvb (es (atL F i) &&& s) L j = cvA es s L F i j := by
  unfold cvb cvA bt9; split <;> rfl
def cvF (es : List Nat) (s : Nat) (L F : List Nat) (j : Nat) : Nat → Rat := cvb (nth es (atL F j) &&& s) L
theorem cvF_put {es : List Nat} {s : Nat} {L F : List Nat} {i j : Nat} (hj : j < F.length + 1) : put1 (cvF es s L F) F.length (cvb (nth es i &&& s) L) j = cvF es s L (F ++ [i]) j := by
  by_cases e : j = F.length
  · subst e; rw [put1_at]; unfold cvF atL; rw [List.getD_eq_getElem?_getD, List.getElem?_append_right (Nat.le_refl _)]; simp
  · rw [put1_ne _ _ e]; unfold cvF atL; rw [List.getD_eq_getElem?_getD, List.getD_eq_getElem?_getD, List.getElem?_append_left (by omega)]
theorem mints_at {L : List Nat} {l : Nat} (h : l < L.length) : (mints L)[l]? = some (.int .i64 ((atL L l : Nat) : Int)) := by
  unfold mints atL; rw [List.getElem?_map, List.getD_eq_getElem?_getD, List.getElem?_eq_getElem h]; rfl
set_option maxRecDepth 100000 in
set_option maxHeartbeats 8000000 in
theorem packing_any (n s len ce : Nat) (AE : Option Addr) (es : List Nat) (w : World) (hE : Es w w.heap.size AE len es) (hs : s < 4294967296) (hn : n ≤ 6) (hl : len ≤ 7) :
    Calls Try.prog 33 #[.agg #[.int .i64 (n : Int), .slice AE len ce], .int .u32 (s : Int)] w (RV w (PkRet n s len es)) := by
  have HE0 := Lib.hid hE; clear hE
  have HS32 := Lib.hid hs; clear hs
  go_enter Try.func33, Try.ntmps33
  go_upto_region 1 with (fail)
  have hbw := bthen (al w (.cells #[.int .i64 (n : Int), .slice AE len ce] 24)) (al _ (.cells #[.slice none 0 0, .slice none 0 0, .slice none 0 0] 75)) (by simp)
  have HG := Lib.hid ((Blk.new w 24 #[.int .i64 (n : Int), .slice AE len ce]).keep (al _ (.cells #[.slice none 0 0, .slice none 0 0, .slice none 0 0] 75)))
  have HQ := Lib.hid (Blk.new (w.alloc (.cells #[.int .i64 (n : Int), .slice AE len ce] 24)) 75 #[.slice none 0 0, .slice none 0 0, .slice none 0 0])
  rw [show (w.alloc (.cells #[.int .i64 (n : Int), .slice AE len ce] 24)).heap.size = w.heap.size + 1 from by simp] at HQ
  have HB := Lib.hid hbw
  clear hbw
  generalize (w.alloc (.cells #[.int .i64 (n : Int), .slice AE len ce] 24)).alloc (.cells #[.slice none 0 0, .slice none 0 0, .slice none 0 0] 75) = w0 at *
  obtain ⟨g2, hg2⟩ : ∃ g2, g2 = w.heap.size := ⟨_, rfl⟩
  obtain ⟨g4, hg4⟩ : ∃ g4, g4 = w.heap.size + 1 := ⟨_, rfl⟩
  rw [← hg4] at HQ ⊢
  rw [← hg2] at HG ⊢
  have HGg2 := Lib.hid (show w.heap.size ≤ g2 ∧ w.heap.size ≤ g4 from by omega)
  clear hg2 hg4
  have HL0 := Lib.hid (show g2 < w0.heap.size ∧ g4 < w0.heap.size ∧ w.heap.size ≤ w0.heap.size from ⟨HG.out.lt, HQ.out.lt, HB.out.size⟩)
  go_upto_region 2 with (fail)
  have hbw := al w0 (.cells #[.slice none 0 0, .slice none 0 0, .slice none 0 0] 75)
  have HU := Lib.hid (Blk.new w0 75 #[.slice none 0 0, .slice none 0 0, .slice none 0 0])
  replace HB := Lib.hid (bthen HB.out hbw HB.out.size)
  replace HG := Lib.hid (HG.out.keep hbw)
  replace HQ := Lib.hid (HQ.out.keep hbw)
  clear hbw
  generalize w0.alloc (.cells #[.slice none 0 0, .slice none 0 0, .slice none 0 0] 75) = w1 at *
  obtain ⟨g7, hg7⟩ : ∃ g7, g7 = w0.heap.size := ⟨_, rfl⟩
  rw [← hg7] at HU ⊢
  have HGg7 := Lib.hid (show w0.heap.size ≤ g7 from by omega)
  clear hg7
  have HE := Lib.hid (HE0.out.below HB.out)
  have x0 := Blk.at0 HG.out (Below.refl _ _)
  obtain ⟨bs, hbs⟩ : ∃ bs, bs = w1.heap.size := ⟨_, rfl⟩
  have HSz := Lib.hid (show bs ≤ w1.heap.size by omega)
  have HN := Lib.hid (show g2 < bs ∧ g4 < bs ∧ g7 < bs ∧ w.heap.size ≤ g7 ∧ w.heap.size ≤ bs ∧ g4 ≠ g7 ∧ g2 ≠ g7 by have h3 := HU.out.lt; have := HGg7.out; have := HL0.out; omega)
  have HG4 := Lib.hid HGg2.out.2
  clear hbs
  go_wp2_with fail
  clear x0
  go_loopg [20, 8] n (fun g iv ov wr => ∃ (v c1 c2 : Nat) (A1 A2 : Option Addr), iv = .int .i64 v ∧ ov = .slice A1 (memL s v).length c1 ∧ v + g = n ∧ Hid (OwnC wr bs 3 1 (.slice A1 (memL s v).length c1) (memL s v).length (mints (memL s v)) ∧ OR wr bs (.slice A2 (memL s v).length c2) (memL s v).length (PN wr 2 (fun _ => 1)) ∧ Blk wr g7 75 #[.slice A2 (memL s v).length c2, .slice none 0 0, .slice none 0 0] ∧ Blk wr g2 24 #[.int .i64 (n : Int), .slice AE len ce] ∧ Blk wr g4 75 #[.slice none 0 0, .slice none 0 0, .slice none 0 0] ∧ Below w.heap.size w wr ∧ bs ≤ wr.heap.size))
  case atStart => exact ⟨0, 0, 0, none, none, rfl, rfl, by omega, Lib.hid ⟨OwnC.nil _ _ _ _, OR.nil _ _ _, HU.out, HG.out, HQ.out, HB.out, HSz.out⟩⟩
  case round =>
    obtain ⟨v, c1, c2, A1, A2, rfl, rfl, hvn, HI⟩ := hrel
    clear HU HG HQ HB HSz HE
    have HO1 := Lib.hid HI.out.1
    have HO2 := Lib.hid HI.out.2.1
    have HU := Lib.hid HI.out.2.2.1
    have HG := Lib.hid HI.out.2.2.2.1
    have HQ := Lib.hid HI.out.2.2.2.2.1
    have HB := Lib.hid HI.out.2.2.2.2.2.1
    have HSz := Lib.hid HI.out.2.2.2.2.2.2
    clear HI
    by_cases hv : v < n
    · have i1 : ((v : Int) < (n : Int)) := by omega
      have hbit := bit_one9 s v HS32.out
      cases hsb : s.testBit v with
      | false =>
        rw [hsb] at hbit
        have i0 : (0 : Int) ≤ (v : Int) := by omega
        have i32 : (v : Int) < 32 := by omega
        go_wp2_with fail
        go_roundg (gk - 1)
        case measure => omega
        have em : memL s (v + 1) = memL s v := by show (if s.testBit v = true then _ else _) = _; rw [hsb]; rfl
        case rel => exact ⟨v + 1, c1, c2, A1, A2, by go_num, by rw [em], by omega, Lib.hid ⟨by rw [em]; exact HO1.out, by rw [em]; exact HO2.out, by rw [em]; exact HU.out, HG.out, HQ.out, HB.out, HSz.out⟩⟩
      | true =>
        rw [hsb] at hbit
        have i0 : (0 : Int) ≤ (v : Int) := by omega
        have i32 : (v : Int) < 32 := by omega
        obtain ⟨K, hK⟩ : ∃ K, K = (memL s v).length := ⟨_, rfl⟩
        rw [← hK] at HO1 HO2 HU ⊢
        have HK := Lib.hid (show K = (memL s v).length ∧ K ≤ v from ⟨hK, by rw [hK]; exact memL_len s v⟩)
        clear hK
        go_upto_region 7 with (fail)
        refine wp_region_joins (kss := [[], [], [(1, 29)]]) [(8, .slice A1 K c1), (10, .int .i64 ((v : Int)))] [EV (.slice A1 K c1), EV (.int .i64 ((v : Int))), fun zz w' => ∃ g0 : Nat, zz = .slice (some ⟨g0, 0, none⟩) 1 1 ∧ Blk w' g0 3 #[.int .i64 ((v : Int))]] 3 (by kernel_rfl) ⟨rfl, rfl, trivial⟩ [false, false, false] ?_ ?_ ?_
        · exact ⟨eI, eI, fun _ _ _ ⟨g0, h1, h2⟩ hb => ⟨g0, h1, h2.keep hb⟩, trivial⟩
        · refine ⟨?_, ?_, ?_, trivial⟩
          · exact fun _ _ _ he hd => ob_mv rfl rfl he.1
          · exact fun _ _ _ he hd => ob_mv rfl rfl he.2.1
          · exact fun aa ww hb he hd => ob_plain rfl (gives_bs_int rfl hd.1)
        intro vs w2 hb hR
        have e28 : vs 0 = .slice A1 K c1 := hR 0 (by decide)
        have r30 := hR 2 (by decide)
        clear hR
        simp only [putsL, Nat.zero_add, Nat.reduceAdd, List.take_succ_cons, List.take_zero, Act.put, List.setIfInBounds_toArray, List.set_cons_zero, List.set_cons_succ]
        rw [e28]
        clear e28
        obtain ⟨g0, e30, hz⟩ := r30
        rw [e30]
        clear e30
        replace HO1 := Lib.hid (HO1.out.below hb)
        replace HO2 := Lib.hid (HO2.out.newN hb)
        replace HU := Lib.hid (HU.out.keep hb)
        replace HG := Lib.hid (HG.out.keep hb)
        replace HQ := Lib.hid (HQ.out.keep hb)
        replace HB := Lib.hid (bthen HB.out hb HB.out.size)
        replace HSz := Lib.hid (Nat.le_trans HSz.out hb.size)
        clear hb
        show wpOps _ _ _ [3, 4] _ _
        refine wpOps_next rfl rfl (wp_app_ints _ _ rfl bs (.slice A1 K c1) K _ rfl HO1.out g0 (v : Int) rfl hz (by have := HK.out; omega) HSz.out ?_)
        intro v' w3 ho hgr hor kp
        obtain ⟨A3, c3, rfl⟩ := own_form ho.own
        show wpOps _ _ _ _ (Act.put _ (some 31) _) _
        simp only [Act.put, List.setIfInBounds_toArray, List.set_cons_zero, List.set_cons_succ]
        have hRo := HO2.out
        obtain ⟨xs2, how2, hrl2⟩ := hRo
        replace HO2 := Lib.hid (HO2.out.kept hgr (own_own_ne how2.own HO1.out.own (by decide)) (fun _ _ _ hv => PN.keep hv kp))
        replace HU := Lib.hid (Blk.appended HU.out HO1.out.own hgr (by decide))
        replace HG := Lib.hid (Blk.appended HG.out HO1.out.own hgr (by decide))
        replace HQ := Lib.hid (Blk.appended HQ.out HO1.out.own hgr (by decide))
        replace HB := Lib.hid (Below.appended HB.out HO1.out.own hgr HB.out.size (by have := HN.out; omega))
        replace HSz := Lib.hid (Nat.le_trans HSz.out hgr.size)
        have HO3 := Lib.hid ho
        clear ho hgr hor kp hz how2 hrl2 HO1
        refine wpOps_next rfl rfl (wp_assign 8 (.tmp 31) rfl rfl (.slice A3 (K + 1) c3) rfl ?_)
        simp only [Act.put, List.setIfInBounds_toArray, List.set_cons_zero, List.set_cons_succ]
        unfold wpOps
        go_upto_region 8 with (fail)
        refine wp_region_join (kss := [[], [(0, 32)], [], [(2, 34)]]) [(7, .pointer (some ⟨g7, 0, none⟩))] [EV (.pointer (some ⟨g7, 0, none⟩)), EV (.slice A2 K c2), Rv (2) (((1 : Int) : Rat)), OneN (2) (((1 : Int) : Rat))] 4 [] (by kernel_rfl) (by kernel_rfl) ⟨rfl, trivial⟩ [false, false, false, false] ?_ ?_ ?_ ?_
        · exact fun i hi => absurd hi (by simp)
        · exact ⟨eI, eI, fun _ _ _ h hb => h.new hb, fun _ _ _ h hb => h.new hb, trivial⟩
        · refine ⟨?_, ?_, ?_, ?_, trivial⟩
          · exact fun aa ww hb he hd => ob_plain rfl (fld_prb rfl (by decide) he.1)
          · exact fun aa ww hb he hd => ob_plain rfl (load_c28 rfl hd.1 (Blk.at0 HU.out hb))
          · exact fun aa ww hb he hd => ob_plain rfl (gives_call1 _ _ _ rfl (by kernel_rfl) (int_w (1) (by omega) (by omega) _ rfl _))
          · exact fun aa ww hb he hd => ob_plain rfl (gives_one_n rfl hd.1)
        intro vs w4 hb hR _
        have r35 : OneN (2) (((1 : Int) : Rat)) (vs 3) w4 := hR 3 (by decide)
        have e33 : vs 1 = .slice A2 K c2 := hR 1 (by decide)
        clear hR
        simp only [putsL, Nat.zero_add, Nat.reduceAdd, List.take_succ_cons, List.take_zero, Act.put, List.setIfInBounds_toArray, List.set_cons_zero, List.set_cons_succ]
        rw [e33]
        clear e33
        obtain ⟨A7, e35, hr1⟩ := r35
        rw [e35]
        clear e35
        replace HO3 := Lib.hid (HO3.out.below hb)
        replace HO2 := Lib.hid (HO2.out.newN hb)
        replace HU := Lib.hid (HU.out.keep hb)
        replace HG := Lib.hid (HG.out.keep hb)
        replace HQ := Lib.hid (HQ.out.keep hb)
        replace HB := Lib.hid (bthen HB.out hb HB.out.size)
        replace HSz := Lib.hid (Nat.le_trans HSz.out hb.size)
        clear hb
        show wpAny _ _ _ _ 3 _ _ _
        refine wpAny_next (i := 4) (by kernel_rfl) rfl rfl (wp_push_one _ _ rfl bs (.slice A2 K c2) K _ rfl HO2.out w4.heap.size A7 1 _ rfl hr1 (by have := HK.out; omega) HSz.out ?_)
        intro v' w5 ho hgr hor kp
        have hO := ho (PN w5 2 (fun _ => 1)) (fun l u hl hv => PN.keep hv kp) (fun u hv => PN.keep (f := fun _ => 1) (j := 0) hv kp)
        obtain ⟨A8, c8, rfl⟩ := hO.form
        show wpAny _ _ _ _ _ _ (Act.put _ (some 36) _) _
        simp only [Act.put, List.setIfInBounds_toArray, List.set_cons_zero, List.set_cons_succ]
        obtain ⟨xs2, how2, -⟩ := HO2.out
        replace HO3 := Lib.hid (HO3.out.kept hgr (own_own_ne HO3.out.own how2.own (by decide)))
        replace HU := Lib.hid (Blk.appended HU.out how2.own hgr (by decide))
        replace HG := Lib.hid (Blk.appended HG.out how2.own hgr (by decide))
        replace HQ := Lib.hid (Blk.appended HQ.out how2.own hgr (by decide))
        replace HB := Lib.hid (Below.appended HB.out how2.own hgr HB.out.size (by have := HN.out; omega))
        replace HSz := Lib.hid (Nat.le_trans HSz.out hgr.size)
        have HO4 := Lib.hid hO
        clear ho hO hgr hor kp hr1 how2 HO2
        refine wpAny_next (i := 5) (by kernel_rfl) rfl rfl (wp_of_gives (fld_prb_w rfl (by decide) rfl) ?_)
        rintro _ w6 ⟨rfl, rfl⟩
        show wpAny _ _ _ _ _ _ (Act.put _ (some 37) _) _
        simp only [Act.put, List.setIfInBounds_toArray, List.set_cons_zero, List.set_cons_succ]
        refine wpAny_next (i := 6) (by kernel_rfl) rfl rfl (store_c28 rfl rfl rfl rfl (Blk.at0 HU.out (Below.refl _ _)) (HU.out.frozen 0) ?_)
        have hkn := KeepsN.blk HU.out (i := 0) (by show 0 < 3; omega) (by intro x; simp) (.slice A8 (K + 1) c8)
        have hgr := only_setCell (World.grownBy.refl w6 (some g7)) (p := ⟨g7, 0, none⟩) (.inl rfl) (.slice A8 (K + 1) c8)
        replace HO3 := Lib.hid (HO3.out.blk HU.out (by decide) hgr)
        replace HO4 := Lib.hid (HO4.out.blk HU.out (by decide) hgr (fun _ _ _ hv => PN.keep hv hkn))
        replace HG := Lib.hid (HG.out.far (p := ⟨g7, 0, none⟩) (by have e9 : (Addr.mk g7 0 none).block = g7 := rfl; have := HN.out; omega) (.slice A8 (K + 1) c8))
        replace HQ := Lib.hid (HQ.out.far (p := ⟨g7, 0, none⟩) (by have e9 : (Addr.mk g7 0 none).block = g7 := rfl; have := HN.out; omega) (.slice A8 (K + 1) c8))
        replace HB := Lib.hid (HB.out.setCell (p := ⟨g7, 0, none⟩) (by have e9 : (Addr.mk g7 0 none).block = g7 := rfl; have := HN.out; omega) (.slice A8 (K + 1) c8))
        replace HSz := Lib.hid (Nat.le_trans HSz.out hgr.size)
        replace HU := Lib.hid (show Blk _ g7 75 #[.slice A8 (K + 1) c8, .slice none 0 0, .slice none 0 0] from HU.out.set_ 0 (.slice A8 (K + 1) c8))
        clear hkn hgr
        refine wpAny_end (by kernel_rfl) (calm_normal ?_) _
        generalize w6.setCell ⟨g7, 0, none⟩ (.slice A8 (K + 1) c8) = w7 at *
        go_wp2_with fail
        go_roundg (gk - 1)
        case measure => omega
        have em : memL s (v + 1) = memL s v ++ [v] := by show (if s.testBit v = true then _ else _) = _; rw [hsb]; rfl
        have el : (memL s (v + 1)).length = K + 1 := by rw [em, List.length_append, HK.out.1]; rfl
        case rel => exact ⟨v + 1, c3, c8, A3, A8, by go_num, by rw [el], by omega, Lib.hid ⟨by rw [el, em]; exact mints_snoc HO3.out, by rw [el]; exact HO4.out, by rw [el]; exact HU.out, HG.out, HQ.out, HB.out, HSz.out⟩⟩
    · obtain rfl : n = v := by omega
      obtain ⟨kn, hkn⟩ : ∃ kn, kn = (memL s n).length := ⟨_, rfl⟩
      rw [← hkn] at HO1 HO2 HU ⊢
      have HKn := Lib.hid (show kn = (memL s n).length ∧ kn ≤ n from ⟨hkn, by rw [hkn]; exact memL_len s n⟩)
      clear hkn
      have hmm := @run_makeMap Try.prog
      go_upto_region 11 with (fail)
      clear hmm
      have hst := PkS.start (rf := cvF es s (memL s n) []) HO1.out HO2.out HU.out HG.out HQ.out HB.out HN.out HSz.out
      have HE2 := Lib.hid (HE0.out.below (bthen HB.out (al wr (.map #[] 0)) HB.out.size))
      have HP := Lib.hid hst
      clear hst HO1 HO2 HU HG HQ HB HSz HN
      generalize wr.alloc (.map #[] 0) = w8 at *
      obtain ⟨gm, hgm⟩ : ∃ gm, gm = wr.heap.size := ⟨_, rfl⟩
      rw [← hgm] at HP ⊢
      clear hgm
      have y1 := Blk.at1 HP.out.hg (Below.refl _ _)
      go_wp2_with fail
      clear y1 HE2
      go_loopg [43, 9] len (fun g iv ov wr => ∃ (i cf da db : Nat) (AF DA DB : Option Addr) (Dr : Nat → Option Addr) (dp : Nat → Nat), iv = .int .i64 i ∧ ov = .slice AF (fstL (nth es) s i).length cf ∧ i + g = len ∧ Hid (PkS w bs gm g2 g4 g7 gm n len ce kn AE A1 A2 c1 c2 (memL s n) ((fstL (nth es) s i).map (fun k => nth es k &&& s)) (fstL (nth es) s i) AF cf (fstL (nth es) s i).length DA da (fstL (nth es) s i).length Dr dp (cvF es s (memL s n) (fstL (nth es) s i)) (fstL (nth es) s i).length DB db wr))
      case atStart => exact ⟨0, 0, 0, 0, none, none, none, _, _, rfl, rfl, by omega, HP⟩
      case round =>
        obtain ⟨i, cf, da, db, AF, DA, DB, Dr, dp, rfl, rfl, hil, HI⟩ := hrel
        clear HP
        obtain ⟨G, hG⟩ : ∃ G, G = gk := ⟨_, rfl⟩
        subst hG
        by_cases hi : i < len
        · have i1 : ((i : Int) < (len : Int)) := by omega
          obtain ⟨F, hF⟩ : ∃ F, F = fstL (nth es) s i := ⟨_, rfl⟩
          rw [← hF] at HI ⊢
          have HF := Lib.hid (show F = fstL (nth es) s i ∧ F.length ≤ i from ⟨hF, by rw [hF]; exact fstL_len _ _ _⟩)
          clear hF
          have HEr := Lib.hid (HE0.out.below HI.out.hb)
          obtain ⟨adE, rfl, hbE, hcE⟩ := HEr.out.at_ hi
          have helt := HE0.out.lt hi
          have eand := bits_and (nth es i) s (by omega) HS32.out
          have hpl : nth es i &&& s < 4294967296 := Nat.lt_of_le_of_lt Nat.and_le_left helt
          obtain ⟨part, hpt⟩ : ∃ part, part = nth es i &&& s := ⟨_, rfl⟩
          rw [← hpt] at eand hpl
          have HPt := Lib.hid (show part = nth es i &&& s ∧ part < 4294967296 from ⟨hpt, hpl⟩)
          clear hpt hpl hbE
          by_cases hp0 : part = 0
          · have t0 : ((part : Int) == 0) = true := by simp; omega
            go_wp2_with fail
            go_roundg (G - 1)
            case measure => omega
            have ef : fstL (nth es) s (i + 1) = F := by show (if _ then _ else _) = _; rw [if_pos (.inl (by rw [← HPt.out.1]; exact hp0)), ← HF.out.1]
            case rel => exact ⟨i + 1, cf, da, db, AF, DA, DB, Dr, dp, by go_num, by rw [ef], by omega, by rw [ef]; exact HI⟩
          have t0 : ((part : Int) == 0) = false := by simp; omega
          have hlk := lookup_b (k := part) HI.out.mp
          by_cases hin : part ∈ F.map (fun k => nth es k &&& s)
          · rw [decide_eq_true hin] at hlk
            go_wp2_with fail
            go_roundg (G - 1)
            case measure => omega
            have ef : fstL (nth es) s (i + 1) = F := by show (if _ then _ else _) = _; rw [if_pos (.inr (by rw [← HPt.out.1, ← HF.out.1]; exact hin)), ← HF.out.1]
            case rel => exact ⟨i + 1, cf, da, db, AF, DA, DB, Dr, dp, by go_num, by rw [ef], by omega, by rw [ef]; exact HI⟩
          rw [decide_eq_false hin] at hlk
          obtain ⟨wm, hup, hm, hgr, hszm, kpm, -⟩ := update_b (k := part) HI.out.mp hin
          have HI1 := Lib.hid (HI.out.map hgr kpm hm)
          have HIn := Lib.hid hin; have HP0 := Lib.hid hp0; clear hm hgr hszm kpm hin hp0
          go_upto_region 17 with (fail)
          clear hlk hup hcE eand t0 HI
          refine wp_region_joins (kss := [[], [], [(1, 61)]]) [(9, .slice AF F.length cf), (12, .int .i64 ((i : Int)))] [EV (.slice AF F.length cf), EV (.int .i64 ((i : Int))), fun zz w' => ∃ g0 : Nat, zz = .slice (some ⟨g0, 0, none⟩) 1 1 ∧ Blk w' g0 3 #[.int .i64 ((i : Int))]] 3 (by kernel_rfl) ⟨rfl, rfl, trivial⟩ [false, false, false] ?_ ?_ ?_
          · exact ⟨eI, eI, fun _ _ _ ⟨g0, h1, h2⟩ hb => ⟨g0, h1, h2.keep hb⟩, trivial⟩
          · refine ⟨?_, ?_, ?_, trivial⟩
            · exact fun _ _ _ he hd => ob_mv rfl rfl he.1
            · exact fun _ _ _ he hd => ob_mv rfl rfl he.2.1
            · exact fun aa ww hb he hd => ob_plain rfl (gives_bs_int rfl hd.1)
          intro vs w2 hb hR
          have e60 : vs 0 = .slice AF F.length cf := hR 0 (by decide)
          have r62 := hR 2 (by decide)
          clear hR
          simp only [putsL, Nat.zero_add, Nat.reduceAdd, List.take_succ_cons, List.take_zero, Act.put, List.setIfInBounds_toArray, List.set_cons_zero, List.set_cons_succ]
          rw [e60]
          clear e60
          obtain ⟨g0, e62, hz⟩ := r62
          rw [e62]
          clear e62
          replace HI1 := Lib.hid (HI1.out.below hb)
          clear hb
          show wpOps _ _ _ [3, 4] _ _
          refine wpOps_next rfl rfl (wp_app_ints _ _ rfl gm (.slice AF F.length cf) F.length _ rfl HI1.out.f g0 (i : Int) rfl hz (by have := HF.out.2; omega) HI1.out.sz ?_)
          intro v' w3 ho hgr hor kp
          obtain ⟨AF2, cf2, rfl⟩ := own_form ho.own
          show wpOps _ _ _ _ (Act.put _ (some 63) _) _
          simp only [Act.put, List.setIfInBounds_toArray, List.set_cons_zero, List.set_cons_succ]
          have HI2 := Lib.hid (HI1.out.first ho hgr kp)
          clear ho hgr hor kp hz HI1
          refine wpOps_next rfl rfl (wp_assign 9 (.tmp 63) rfl rfl (.slice AF2 (F.length + 1) cf2) rfl ?_)
          simp only [Act.put, List.setIfInBounds_toArray, List.set_cons_zero, List.set_cons_succ]
          unfold wpOps
          go_wp2_with fail
          obtain ⟨b8, hb8⟩ : ∃ b8, b8 = w3.heap.size := ⟨_, rfl⟩
          have HB8 := Lib.hid hb8; clear hb8
          go_loopg [66, 15] kn (fun g iv ov wq => ∃ (l c8 : Nat) (A8 : Option Addr), iv = .int .i64 l ∧ ov = .slice A8 l c8 ∧ l + g = kn ∧ Hid (OR wq b8 (.slice A8 l c8) l (PN wq 2 (cvb part (memL s n))) ∧ Below w3.heap.size w3 wq))
          case atStart => exact ⟨0, 0, none, rfl, rfl, by omega, Lib.hid ⟨OR.nil _ _ _, Below.refl _ _⟩⟩
          case round =>
            obtain ⟨l, c8, A8, rfl, rfl, hlk2, HJ⟩ := hrel
            have HO := Lib.hid HJ.out.1; have HB3 := Lib.hid HJ.out.2; clear HJ
            have hkn6 : kn ≤ 6 := by have := HKn.out.2; omega
            by_cases hl2 : l < kn
            · have l1 : ((l : Int) < (kn : Int)) := by omega
              have HI3 := Lib.hid (HI2.out.below HB3.out)
              obtain ⟨adM, uM, hAM, -, hxM, hcM⟩ := (Reads.of_own HI3.out.m.own).at_ hl2
              subst hAM
              rw [mints_at (by rw [← HKn.out.1]; exact hl2)] at hxM
              injection hxM with hxM
              subst hxM
              obtain ⟨vv, hvv⟩ : ∃ vv, vv = atL (memL s n) l := ⟨_, rfl⟩
              rw [← hvv] at hcM
              have HVv := Lib.hid (show vv = atL (memL s n) l ∧ vv < 32 from ⟨hvv, by have := (mem_memL.1 (atL_mem (l := memL s n) (i := l) (by rw [← HKn.out.1]; exact hl2))).1; rw [← hvv] at this; omega⟩)
              have hv32 : vv < 32 := HVv.out.2
              clear hvv
              go_upto_region 22 with (fail)
              clear hcM HI3
              refine wp_region_joins (kss := [[], [], [], [(1, 71), (2, 72)], [(3, 73)], [(4, 74)], [(5, 75)], [(6, 76)]]) [(15, .slice A8 l c8), (14, .int .u32 ((part : Int))), (17, .int .i64 ((vv : Int)))] [EV (.slice A8 l c8), EV (.int .u32 ((part : Int))), EV (.int .i64 ((vv : Int))), EV (.int .u32 (((part : Int) / 2 ^ vv))), EV (.int .u32 (((bt9 part vv : Nat) : Int))), EV (.int .i64 (((bt9 part vv : Nat) : Int))), Rv (2) ((((bt9 part vv : Nat) : Int) : Rat)), OneN (2) ((((bt9 part vv : Nat) : Int) : Rat))] 8 (by kernel_rfl) ⟨rfl, rfl, rfl, trivial⟩ [false, false, false, false, false, false, false, false] ?_ ?_ ?_
              · exact ⟨eI, eI, eI, eI, eI, eI, fun _ _ _ h hb => h.new hb, fun _ _ _ h hb => h.new hb, trivial⟩
              · refine ⟨?_, ?_, ?_, ?_, ?_, ?_, ?_, ?_, trivial⟩
                · exact fun _ _ _ he hd => ob_mv rfl rfl he.1
                · exact fun _ _ _ he hd => ob_mv rfl rfl he.2.1
                · exact fun _ _ _ he hd => ob_mv rfl rfl he.2.2.1
                · exact fun aa ww hb he hd => ob_plain rfl (shr_u32 hv32 rfl hd.1 hd.2.1)
                · exact fun aa ww hb he hd => ob_plain rfl (and1_u32 HPt.out.2 rfl hd.1)
                · exact fun aa ww hb he hd => ob_plain rfl (conv_u32i (bt9_le _ _) rfl hd.1)
                · exact fun aa ww hb he hd => ob_plain rfl (gives_call1 _ _ _ rfl (by kernel_rfl) (int_w ((bt9 part vv : Nat) : Int) (by have := bt9_le part vv; omega) (by have := bt9_le part vv; omega) _ hd.1 _))
                · exact fun aa ww hb he hd => ob_plain rfl (gives_one_n rfl hd.1)
              intro vs w4 hb hR
              have r77 : OneN (2) ((((bt9 part vv : Nat) : Int) : Rat)) (vs 7) w4 := hR 7 (by decide)
              have e70 : vs 0 = .slice A8 l c8 := hR 0 (by decide)
              clear hR
              simp only [putsL, Nat.zero_add, Nat.reduceAdd, List.take_succ_cons, List.take_zero, Act.put, List.setIfInBounds_toArray, List.set_cons_zero, List.set_cons_succ]
              rw [e70]
              clear e70
              obtain ⟨A7, e77, hr1⟩ := r77
              rw [e77]
              clear e77
              replace HO := Lib.hid (HO.out.newN hb)
              have hsz := HB3.out.size
              have hsz2 := hb.size
              replace HB3 := Lib.hid (bthen HB3.out hb HB3.out.size)
              clear hb
              show wpOps _ _ _ [8, 9] _ _
              refine wpOps_next rfl rfl (wp_push_one _ _ rfl b8 (.slice A8 l c8) l _ rfl HO.out w4.heap.size A7 1 _ rfl hr1 (by omega) (by have := HB8.out; omega) ?_)
              intro v' w5 ho hgr hor kp
              have hO := ho (PN w5 2 (cvb part (memL s n))) (fun l u hl hv => PN.keep hv kp) (fun u hv => by have h := PN.keep (f := fun _ => (((bt9 part vv : Nat) : Int) : Rat)) (j := 0) hv kp; show Rv 2 (cvb part (memL s n) l) u w5; unfold cvb; rw [← HVv.out.1]; exact h)
              obtain ⟨A9, c9, rfl⟩ := hO.form
              show wpOps _ _ _ _ (Act.put _ (some 78) _) _
              simp only [Act.put, List.setIfInBounds_toArray, List.set_cons_zero, List.set_cons_succ]
              obtain ⟨xs2, how2, -⟩ := HO.out
              have HB4 := Lib.hid (show Below w3.heap.size w3 w5 from Below.appended HB3.out how2.own hgr HB3.out.size (by have := HB8.out; omega))
              have HO5 := Lib.hid hO
              clear ho hO hgr hor kp hr1 how2 HO HB3 hsz hsz2
              refine wpOps_next rfl rfl (wp_assign 15 (.tmp 78) rfl rfl (.slice A9 (l + 1) c9) rfl ?_)
              simp only [Act.put, List.setIfInBounds_toArray, List.set_cons_zero, List.set_cons_succ]
              unfold wpOps
              go_wp2_with fail
              go_roundg (gk - 1)
              case measure => omega
              case rel => exact ⟨l + 1, c9, A9, by go_num, rfl, by omega, Lib.hid ⟨HO5.out, HB4.out⟩⟩
            · obtain rfl : kn = l := by omega
              have HI4 := Lib.hid (HI2.out.row rfl HO.out HB3.out (by rw [HB8.out]; exact Nat.le_refl _))
              clear HI2 HO HB3 HB8
              go_upto_region 24 with (fail)
              refine wp_region_joins (kss := [[], [(0, 80)], [], [(2, 82)]]) [(7, .pointer (some ⟨g7, 0, none⟩)), (15, .slice A8 kn c8)] [EV (.pointer (some ⟨g7, 1, none⟩)), EV (.slice DA F.length da), EV (.slice A8 kn c8), fun zz w' => ∃ g0 : Nat, zz = .slice (some ⟨g0, 0, none⟩) 1 1 ∧ Blk w' g0 28 #[.slice A8 kn c8]] 4 (by kernel_rfl) ⟨rfl, rfl, trivial⟩ [false, false, false, false] ?_ ?_ ?_
              · exact ⟨eI, eI, eI, fun _ _ _ ⟨g0, h1, h2⟩ hb => ⟨g0, h1, h2.keep hb⟩, trivial⟩
              · refine ⟨?_, ?_, ?_, ?_, trivial⟩
                · exact fun aa ww hb he hd => ob_plain rfl (fld_prb rfl (by decide) he.1)
                · exact fun aa ww hb he hd => ob_plain rfl (load_c29 rfl hd.1 (Blk.at1 HI4.out.u hb))
                · exact fun _ _ _ he hd => ob_mv rfl rfl he.2.1
                · exact fun aa ww hb he hd => ob_plain rfl (gives_mono (gives_bs_rows rfl hd.1) (fun v w' ⟨⟨g0, h3, h4⟩, h5⟩ => ⟨⟨g0, h3, h4⟩, h5⟩))
              intro vs w6 hb hR
              have e81 : vs 1 = .slice DA F.length da := hR 1 (by decide)
              have r83 := hR 3 (by decide)
              clear hR
              simp only [putsL, Nat.zero_add, Nat.reduceAdd, List.take_succ_cons, List.take_zero, Act.put, List.setIfInBounds_toArray, List.set_cons_zero, List.set_cons_succ]
              rw [e81]
              clear e81
              obtain ⟨g0, e83, hz⟩ := r83
              rw [e83]
              clear e83
              have HI5 := Lib.hid (HI4.out.below hb)
              clear hb HI4
              show wpOps _ _ _ [4, 5, 6] _ _
              refine wpOps_next rfl rfl (wp_app_rows _ _ rfl gm (.slice DA F.length da) F.length _ rfl HI5.out.al g0 A8 kn c8 rfl hz (by have := HF.out.2; omega) HI5.out.sz ?_)
              intro v' w7 ho hgr hor kp
              obtain ⟨DA2, da2, rfl⟩ := own_form ho.own
              show wpOps _ _ _ _ (Act.put _ (some 84) _) _
              simp only [Act.put, List.setIfInBounds_toArray, List.set_cons_zero, List.set_cons_succ]
              have hu7 := Blk.appended HI5.out.u HI5.out.al.own hgr (by decide)
              have HI6 := Lib.hid (HI5.out.pushA (by rw [rwL_last, put1_at, put1_at]; exact ho) hgr kp)
              clear ho hor hz HI5
              refine wpOps_next rfl rfl (wp_of_gives (fld_prb_w rfl (by decide) rfl) ?_)
              rintro _ w7 ⟨rfl, rfl⟩
              show wpOps _ _ _ _ (Act.put _ (some 85) _) _
              simp only [Act.put, List.setIfInBounds_toArray, List.set_cons_zero, List.set_cons_succ]
              refine wpOps_next rfl rfl (wp_store_c29 rfl rfl rfl rfl (Blk.at1 hu7 (Below.refl _ _)) (hu7.frozen 1) ?_)
              clear hu7 hgr kp
              generalize w7.setCell ⟨g7, 1, none⟩ (.slice DA2 (F.length + 1) da2) = w9 at *
              unfold wpOps
              go_upto_region 25 with (fail)
              refine wp_region_join (kss := [[], [(0, 86)], [], [(2, 88)]]) [(7, .pointer (some ⟨g7, 0, none⟩))] [EV (.pointer (some ⟨g7, 2, none⟩)), EV (.slice DB F.length db), Rv (2) (((1 : Int) : Rat)), OneN (2) (((1 : Int) : Rat))] 4 [] (by kernel_rfl) (by kernel_rfl) ⟨rfl, trivial⟩ [false, false, false, false] ?_ ?_ ?_ ?_
              · exact fun i hi => absurd hi (by simp)
              · exact ⟨eI, eI, fun _ _ _ h hb => h.new hb, fun _ _ _ h hb => h.new hb, trivial⟩
              · refine ⟨?_, ?_, ?_, ?_, trivial⟩
                · exact fun aa ww hb he hd => ob_plain rfl (fld_prb rfl (by decide) he.1)
                · exact fun aa ww hb he hd => ob_plain rfl (load_c28 rfl hd.1 (Blk.at2 HI6.out.u hb))
                · exact fun aa ww hb he hd => ob_plain rfl (gives_call1 _ _ _ rfl (by kernel_rfl) (int_w (1) (by omega) (by omega) _ rfl _))
                · exact fun aa ww hb he hd => ob_plain rfl (gives_one_n rfl hd.1)
              intro vs w10 hb hR _
              have r89 : OneN (2) (((1 : Int) : Rat)) (vs 3) w10 := hR 3 (by decide)
              have e87 : vs 1 = .slice DB F.length db := hR 1 (by decide)
              clear hR
              simp only [putsL, Nat.zero_add, Nat.reduceAdd, List.take_succ_cons, List.take_zero, Act.put, List.setIfInBounds_toArray, List.set_cons_zero, List.set_cons_succ]
              rw [e87]
              clear e87
              obtain ⟨A7, e89, hr1⟩ := r89
              rw [e89]
              clear e89
              have HI7 := Lib.hid (HI6.out.below hb)
              clear hb HI6
              show wpAny _ _ _ _ 3 _ _ _
              refine wpAny_next (i := 4) (by kernel_rfl) rfl rfl (wp_push_one _ _ rfl gm (.slice DB F.length db) F.length _ rfl HI7.out.b w10.heap.size A7 1 _ rfl hr1 (by have := HF.out.2; omega) HI7.out.sz ?_)
              intro v' w11 ho hgr hor kp
              have hO := ho (PN w11 2 (fun _ => 1)) (fun l u hl hv => PN.keep hv kp) (fun u hv => PN.keep (f := fun _ => 1) (j := 0) hv kp)
              obtain ⟨DB2, db2, rfl⟩ := hO.form
              show wpAny _ _ _ _ _ _ (Act.put _ (some 90) _) _
              simp only [Act.put, List.setIfInBounds_toArray, List.set_cons_zero, List.set_cons_succ]
              obtain ⟨xb, hob, -⟩ := HI7.out.b
              have hu11 := Blk.appended HI7.out.u hob.own hgr (by decide)
              have HI8 := Lib.hid (HI7.out.pushB hO hgr hor kp)
              clear ho hO hor hr1 HI7 hob
              refine wpAny_next (i := 5) (by kernel_rfl) rfl rfl (wp_of_gives (fld_prb_w rfl (by decide) rfl) ?_)
              rintro _ w11 ⟨rfl, rfl⟩
              show wpAny _ _ _ _ _ _ (Act.put _ (some 91) _) _
              simp only [Act.put, List.setIfInBounds_toArray, List.set_cons_zero, List.set_cons_succ]
              refine wpAny_next (i := 6) (by kernel_rfl) rfl rfl (store_c28 rfl rfl rfl rfl (Blk.at2 hu11 (Below.refl _ _)) (hu11.frozen 2) ?_)
              clear hu11 hgr kp
              refine wpAny_end (by kernel_rfl) (calm_normal ?_) _
              generalize w11.setCell ⟨g7, 2, none⟩ (.slice DB2 (F.length + 1) db2) = w12 at *
              go_wp2_with fail
              go_roundg (G - 1)
              case measure => omega
              have ef : fstL (nth es) s (i + 1) = F ++ [i] := by show (if _ then _ else _) = _; rw [if_neg (by rw [← HPt.out.1, ← HF.out.1]; exact fun h => h.elim HP0.out HIn.out), ← HF.out.1]
              have hkeys : (F ++ [i]).map (fun k => nth es k &&& s) = F.map (fun k => nth es k &&& s) ++ [part] := by rw [List.map_append, HPt.out.1]; rfl
              have hlen : (F ++ [i]).length = F.length + 1 := by rw [List.length_append]; rfl
              case rel => exact ⟨i + 1, cf2, da2, db2, AF2, DA2, DB2, _, _, by go_num, by rw [ef, hlen], by omega, Lib.hid (by rw [ef, hkeys, hlen]; exact HI8.out.congr (fun j hj => by rw [HPt.out.1]; exact cvF_put hj))⟩
        · obtain rfl : len = i := by omega
          go_upto_region 27 with (fail)
          refine wp_region_joins (kss := [[], [], []]) [(7, .pointer (some ⟨g7, 0, none⟩)), (8, .slice A1 kn c1), (9, .slice AF (fstL (nth es) s len).length cf)] [EV (.agg #[.slice A2 kn c2, .slice DA (fstL (nth es) s len).length da, .slice DB (fstL (nth es) s len).length db]), EV (.slice A1 kn c1), EV (.slice AF (fstL (nth es) s len).length cf)] 3 (by kernel_rfl) ⟨rfl, rfl, rfl, trivial⟩ [false, false, false] ?_ ?_ ?_
          · exact ⟨eI, eI, eI, trivial⟩
          · refine ⟨?_, ?_, ?_, trivial⟩
            · exact fun aa ww hb he hd => ob_plain rfl (load_prb rfl he.1 (Blk.keep HI.out.u hb))
            · exact fun _ _ _ he hd => ob_mv rfl rfl he.2.1
            · exact fun _ _ _ he hd => ob_mv rfl rfl he.2.2.1
          intro vs w5 hb hR
          have e93 : vs 0 = .agg #[.slice A2 kn c2, .slice DA (fstL (nth es) s len).length da, .slice DB (fstL (nth es) s len).length db] := hR 0 (by decide)
          have e94 : vs 1 = .slice A1 kn c1 := hR 1 (by decide)
          have e95 : vs 2 = .slice AF (fstL (nth es) s len).length cf := hR 2 (by decide)
          clear hR
          simp only [putsL, Nat.zero_add, Nat.reduceAdd, List.take_succ_cons, List.take_zero, Act.put, List.setIfInBounds_toArray, List.set_cons_zero, List.set_cons_succ]
          rw [e93, e94, e95]
          clear e93 e94 e95
          have HI2 := Lib.hid (HI.out.below hb)
          clear hb HI
          show wpOps _ _ _ [3, 4, 5] _ _
          refine wpOps_next rfl rfl (store_prb rfl rfl rfl rfl HI2.out.hq (by simp) (by simp [Value.oneCell']) ?_)
          intro w6 kp hg hsz hX
          have HX := Lib.hid hX
          have HPr := Lib.hid (HI2.out.prw hg kp)
          have HB6 := Lib.hid (HI2.out.hb.grown hg HI2.out.hb.size (fun g e => by cases e; exact HG4.out))
          clear kp hg hsz hX HI2
          refine wpOps_next rfl rfl (wp_assign 5 (.tmp 94) rfl rfl (.slice A1 kn c1) rfl ?_)
          simp only [Act.put, List.setIfInBounds_toArray, List.set_cons_zero, List.set_cons_succ]
          refine wpOps_next rfl rfl (wp_assign 6 (.tmp 95) rfl rfl (.slice AF (fstL (nth es) s len).length cf) rfl ?_)
          simp only [Act.put, List.setIfInBounds_toArray, List.set_cons_zero, List.set_cons_succ]
          unfold wpOps
          go_wp2_with fail
          refine bodyPost_ret (v := .tuple #[.agg #[.slice A2 kn c2, .slice DA (fstL (nth es) s len).length da, .slice DB (fstL (nth es) s len).length db], .slice A1 kn c1, .slice AF (fstL (nth es) s len).length cf]) (results_cell_tmp2 Try.results33 _ _ _ _ _ (0, 0) _ rfl HX.out Try.underlying75 rfl rfl) rfl ?_
          obtain ⟨q1, q2, q3⟩ := HPr.out
          have hk := HKn.out.1
          subst hk
          exact ⟨_, rfl, ⟨A2, c2, DA, da, DB, db, A1, c1, AF, cf, Dr, dp, rfl, q1.congrA (fun i j => cvb_A _ _ _ _ i j), q2, q3⟩, HB6.out⟩
end Go.Proofs.Ytpnklmgfdihjfaa
namespace Go.Proofs.Ytpnklmgfdihjfaa
open Go.RowKit
set_option linter.unusedVariables false
set_option linter.unusedSimpArgs false

set_option maxRecDepth 100000 in
set_option maxHeartbeats 4000000 in
theorem cvzeros_any (n : Nat) (hn : n ≤ 1000) (w : World) : Calls Try.prog 35 #[.int .i64 n] w (ZRet n w) := by
  have hmk := mk_rat n (by omega)
  have H0 := Lib.hid (show RB (w.alloc (.cells (zrow n) 31)) w.heap.size n (fun i v => i < 0 → Rv 2 0 v (w.alloc (.cells (zrow n) 31))) from rb_zrow w n _ (fun _ _ h => absurd h (by omega)))
  have HB := Lib.hid (al w (.cells (zrow n) 31))
  go_enter Try.func35, Try.ntmps35
  go_wp2_with fail
  clear hmk
  generalize w.alloc (.cells (zrow n) 31) = W0 at *
  go_loopw [9] (fun i wr => ∃ k : Nat, i = .int .i64 k ∧ k ≤ n ∧ Hid (RB wr w.heap.size n (fun i v => i < k → Rv 2 0 v wr) ∧ Below w.heap.size w wr)) (fun i _ => n - (intOf i).toNat)
  case atStart => exact ⟨0, rfl, Nat.zero_le _, Lib.hid ⟨H0.out, HB.out⟩⟩
  case round =>
    obtain ⟨k, rfl, hk, HI⟩ := hrel
    by_cases hkn : k < n
    · have i1 : (0 : Int) ≤ (k : Int) := by omega
      have i2 : (k : Int) < (n : Int) := by omega
      go_wp2_with fail
      refine (int_v 0 (by omega) (by omega) _).mono ?_
      rintro e w1 ⟨v, rfl, hv, hb⟩
      have HV := Lib.hid hv
      have HR := Lib.hid (HI.out.1.below hb (Q := fun i v => i < k → Rv 2 0 v w1) (fun j v _ h hj => (h hj).new hb))
      have HB1 := Lib.hid (bthen HI.out.2 hb HI.out.2.size)
      clear hb hv
      have hgl := HR.out.lt
      go_wp2_with (refine wpList_store_row (g := w.heap.size) (j := k) (b := 2) (x := 0) rfl rfl rfl rfl rfl HR.out hkn HV.out.rw ?_; intro w2 kp hg hsz hR)
      refine ⟨⟨k + 1, by go_num, by omega, Lib.hid ⟨hR _ (fun i u _ hne h hi => (h (by omega)).keepN kp) (fun _ => HV.out.keepN kp), ?_⟩⟩, by simp [intOf]; omega⟩
      exact HB1.out.grown hg HB1.out.size (fun x hx => by cases hx; omega)
    · obtain rfl : n = k := by omega
      go_wp2_with fail
      go_ret
      exact ⟨_, rfl, Nat.le_refl _, HI.out.1.mono fun j v hj h => h hj, HI.out.2⟩
set_option maxRecDepth 100000 in
set_option maxHeartbeats 4000000 in
theorem vertices_any (n len c : Nat) (A : Option Addr) (hn : n ≤ 6) (w : World) : Calls Try.prog 32 #[.agg #[.int .i64 (n : Int), .slice A len c]] w (RV w (fun v _ => v = .int .u32 ((2 ^ n - 1 : Nat) : Int))) := by
  have h : n = 0 ∨ n = 1 ∨ n = 2 ∨ n = 3 ∨ n = 4 ∨ n = 5 ∨ n = 6 := by omega
  rcases h with rfl | rfl | rfl | rfl | rfl | rfl | rfl
  all_goals
    go_enter Try.func32, Try.ntmps32
    go_wp2_with fail
    go_ret
    exact ⟨_, rfl, rfl, al _ _⟩
end Go.Proofs.Ytpnklmgfdihjfaa
namespace Go.Proofs.Ytpnklmgfdihjfaa
open Go.RowKit
set_option linter.unusedVariables false
set_option linter.unusedSimpArgs false

/-- What a call of a function by its number does in the model. -/
def Enters (K : Nat) : Prop := ∀ (args : Array Value) (W : World), (callFunc K args).run Try.prog W = .ok (.enter K args) W
theorem TB.blk3 {w : World} {g : Nat} {t : TypeId} {x y z : Value} (h : TB w g t x y z) : Blk w g t #[x, y, z] := h
theorem store_ratk {o : Oper} {a : Act} {w : World} {t u : Tmp} {g : Nat} {v0 v1 v2 u0 u1 u2 : Value} {K : Act → World → Prop} {Q : Exit → Act → World → Prop} (ho : o.op = .store 31 (.tmp t) (.tmp u)) (hd : o.dst = none) (ht : a.eval (.tmp t) = .pointer (some ⟨g, 0, none⟩)) (hu : a.eval (.tmp u) = .agg #[u0, u1, u2])
    (hr : Blk w g 31 #[v0, v1, v2]) (hcl : ∀ u ∈ [v0, v1, v2], ∀ x, u ≠ .int .u32 x) (h1 : #[u0, u1, u2].all (·.oneCell') = true) (h2 : ∀ u ∈ [u0, u1, u2], ∀ x, u ≠ .int .u32 x)
    (next : ∀ w', KeepsN w w' → w.grownBy w' (some g) → w'.heap.size = w.heap.size → Blk w' g 31 #[u0, u1, u2] → K a w') : o.wp Try.prog a w K Q := by
  refine wp_store_mid 31 (.tmp t) (.tmp u) ho g 0 #[u0, u1, u2] ht hu (fun i hi => ⟨?_, hr.frozen _⟩) (by kernel_rfl) h1 ?_
  · rw [hr.cell]
    have hi7 : i < 3 := by simpa using hi
    rw [Nat.zero_add, Array.getElem?_eq_getElem hi7]; rfl
  · rw [hd]
    have b0 : Blk (w.setCell ⟨g, 0, none⟩ u0) g 31 #[u0, v1, v2] := hr.set_ 0 u0
    have b1 : Blk ((w.setCell ⟨g, 0, none⟩ u0).setCell ⟨g, 1, none⟩ u1) g 31 #[u0, u1, v2] := b0.set_ 1 u1
    have b2 : Blk (((w.setCell ⟨g, 0, none⟩ u0).setCell ⟨g, 1, none⟩ u1).setCell ⟨g, 2, none⟩ u2) g 31 #[u0, u1, u2] := b1.set_ 2 u2
    refine next _ ?_ ?_ ?_ b2
    · refine KeepsN.trans (KeepsN.trans (KeepsN.blk hr (i := 0) (by show 0 < 3; omega) (fun x hx => hcl v0 (by simp) x (by simpa using hx)) u0) (KeepsN.blk b0 (i := 1) (by show 1 < 3; omega) (fun x hx => hcl v1 (by simp) x (by simpa using hx)) u1)) (KeepsN.blk b1 (i := 2) (by show 2 < 3; omega) (fun x hx => hcl v2 (by simp) x (by simpa using hx)) u2)
    · exact only_setCells [u0, u1, u2] w 0 (World.grownBy.refl w (some g))
    · show (w.setCells g 0 [u0, u1, u2]).heap.size = _
      simp [World.setCells, size_setCell]
set_option maxRecDepth 100000 in
set_option maxHeartbeats 8000000 in
theorem visit_any (K : Nat) (hK : Enters K) (caps : Array Value) (n c b : Nat) (A : Option Addr) (X : Nat → Rat) (J : Nat → World → Prop)
    (hR : ∀ i w, J i w → Rs w w.heap.size A n (PW w b X)) (hS : ∀ i w w', J i w → Below w.heap.size w w' → J i w')
    (hC : ∀ i w v, i < n → J i w → Rw b (X i) v w → Calls Try.prog K (#[.int .i64 (i : Int), v] ++ caps) w (fun e w' => e = .returned (.tuple #[]) ∧ J (i + 1) w'))
    (hn : n ≤ 1000) (w : World) (h0 : J 0 w) :
    Calls Try.prog 56 #[.slice A n c, .func (.func K) #[] caps] w (fun e w' => e = .returned (.tuple #[]) ∧ J n w') := by
  have HR := Lib.hid hR; have HS := Lib.hid hS; have HC := Lib.hid hC; have H0 := Lib.hid h0; clear hR hS hC h0
  unfold Enters at hK
  go_enter Try.func56, Try.ntmps56
  go_wp2_with fail
  go_loopg [8] n (fun g iv wr => ∃ i : Nat, iv = .int .i64 i ∧ i + g = n ∧ Hid (J i wr))
  case atStart => exact ⟨0, rfl, by omega, H0⟩
  case round =>
    obtain ⟨i, rfl, hin, HJ⟩ := hrel
    clear H0
    by_cases hi : i < n
    · have i1 : ((i : Int) < (n : Int)) := by omega
      obtain ⟨ad, -, -, -, -, -, -, -, rfl, -⟩ := (HR.out i wr HJ.out).at_ hi
      go_upto_region 2 with (fail)
      refine wp_region_joins (kss := [[], [], [(1, 11)], [], [(0, 10)]]) [(8, .int .i64 ((i : Int))), (6, .slice (some ad) n c)] [EV (.int .i64 ((i : Int))), EV (.pointer (some (Addr.add ad (i * 3)))), Rw (b) (X i), Zb wr.heap.size, EV (.int .i64 ((i : Int)))] 5 (by kernel_rfl) ⟨rfl, rfl, trivial⟩ [false, false, false, true, false] ?_ ?_ ?_
      · exact ⟨eI, eI, fun _ _ _ h hb => h.new hb, fun _ _ _ h hb => Zb.new h hb, eI, trivial⟩
      · refine ⟨?_, ?_, ?_, ?_, ?_, trivial⟩
        · exact fun _ _ _ he hd => ob_mv rfl rfl he.1
        · exact fun aa ww hb he hd => ob_plain rfl (idx_rs (by omega) rfl he.2.1 he.1)
        · exact fun aa ww hb he hd => ob_plain rfl (load_rw rfl hd.1 (HR.out i _ (HS.out i _ _ HJ.out hb)) (by omega))
        · exact fun aa ww hb he hd => ⟨by simp [Region.wanted], alloc_rat rfl hb⟩
        · exact fun aa ww hb he hd => ob_plain rfl (gives_assign _ rfl ⟨hd.1, Below.refl _ _⟩)
      intro vs w1 hb hR
      have r12 : Rw (b) (X i) (vs 2) w1 := hR 2 (by decide)
      have r5 : Zb wr.heap.size (vs 3) w1 := hR 3 (by decide)
      have e4 : vs 4 = .int .i64 ((i : Int)) := hR 4 (by decide)
      clear hR
      simp only [putsL, Nat.zero_add, Nat.reduceAdd, List.take_succ_cons, List.take_zero, Act.put, List.setIfInBounds_toArray, List.set_cons_zero, List.set_cons_succ]
      rw [e4]
      clear e4
      obtain ⟨g0, e5, hz⟩ := r5
      rw [e5]
      clear e5
      have R12 := Lib.hid r12
      obtain ⟨s0, A0, k0, c0, B0, m0, d0, e12, -⟩ := r12
      rw [e12] at R12 ⊢
      clear e12
      show wpOps _ _ _ [5] _ _
      refine wpOps_next rfl rfl (store_ratk rfl rfl rfl rfl hz.2.blk3 (by simp) (by simp [Value.oneCell']) (by simp) ?_)
      intro w2 kp hg hsz hB
      have HB := Lib.hid hB
      have hbb : Below wr.heap.size wr w2 := hb.grown hg hb.size (fun x hx => by cases hx; exact hz.1)
      have HJ2 := Lib.hid (HS.out i _ _ HJ.out hbb)
      have HV := Lib.hid (R12.out.keepN kp)
      clear hb kp hg hsz hB hz hbb R12
      unfold wpOps
      have x0 := Blk.at0 HB.out (Below.refl _ _); have x1 := Blk.at1 HB.out (Below.refl _ _); have x2 := Blk.at2 HB.out (Below.refl _ _)
      go_wp2_with fail
      refine (HC.out i w2 _ hi HJ2.out HV.out).mono ?_
      rintro e w3 ⟨rfl, hj⟩
      have HJ3 := Lib.hid hj; clear hj x0 x1 x2 HB HV HJ2 HJ
      go_wp2_with fail
      go_roundg (gk - 1)
      case measure => omega
      case rel => exact ⟨i + 1, by go_num, by omega, HJ3⟩
    · obtain rfl : n = i := by omega
      go_wp2_with fail
      exact bodyPost_end (results_none rfl _ _ _) rfl ⟨rfl, HJ.out⟩
end Go.Proofs.Ytpnklmgfdihjfaa
namespace Go.Proofs.Ytpnklmgfdihjfaa
open Go.RowKit
set_option linter.unusedVariables false
set_option linter.unusedSimpArgs false

theorem enters {K : Nat} (h : callsB Try.prog K = true) : Enters K := fun args W => run_callFunc h args
theorem Rs.grownB {w w' : World} {B n b : Nat} {A : Option Addr} {f : Nat → Rat} {row : Option Nat} (h : Rs w B A n (PW w b f)) (hg : w.grownBy w' row) (hB : B ≤ w.heap.size) (hr : ∀ g, row = some g → B ≤ g) (kp : KeepsN w w') : Rs w' B A n (PW w' b f) := by
  obtain ⟨xs, h1, h2⟩ := h
  exact ⟨xs, h1.grown hg hB hr, h2.mono fun _ _ _ hv => PW.keep hv kp⟩
theorem Rs.moreB {w : World} {B B' n : Nat} {A : Option Addr} {P : Nat → Value → Prop} (h : Rs w B A n P) (hB : B ≤ B') : Rs w B' A n P := by
  obtain ⟨xs, h1, h2⟩ := h
  exact ⟨xs, h1.more hB, h2⟩
section
variable {ch : Nat → Bool} {X : Nat → Rat} {b : Nat} {A : Option Addr} {n c : Nat} {caps : Array Value} {K g3 g4 g5 : Nat} {w0 : World} {i : Nat} {w w' : World}
end
end Go.Proofs.Ytpnklmgfdihjfaa
namespace Go.Proofs.Ytpnklmgfdihjfaa
open Go.RowKit


set_option maxHeartbeats 400000 in
theorem below_any (n : Nat) (hn : n ≤ 32) (w : World) :
    Calls Try.prog 54 #[.int .i64 n] w fun e w' => e = .returned (.int .u32 ((2^n - 1 : Nat) : Int)) ∧ w = w' := by
  go_enter Try.func54, Try.ntmps54
  go_wp2_with fail
  go_ret
  exact ⟨ret_int (below_val n hn), rfl⟩

set_option maxHeartbeats 400000 in
theorem check_any (n : Int) (A : Option Addr) (es : List Nat) (len c : Nat) (w : World) (hr : Es w w.heap.size A len es) :
    Calls Try.prog 29 #[.agg #[.int .i64 n, .slice A len c]] w fun e w' => e = .returned (.int .i64 (checkCode n es)) ∧ Below w.heap.size w w' := by
  have hle := hr.le
  have HR := Lib.hid hr; clear hr
  by_cases h0 : n < 0
  · go_enter Try.func29, Try.ntmps29
    go_wp2_with fail
    go_ret
    exact ⟨ret_int (by simp [checkCode, h0]), (Below.refl _ _).alloc (Nat.le_refl _) _⟩
  by_cases h1 : 32 < n
  · go_enter Try.func29, Try.ntmps29
    go_wp2_with fail
    go_ret
    exact ⟨ret_int (by simp [checkCode, h1]), (Below.refl _ _).alloc (Nat.le_refl _) _⟩
  obtain ⟨n, rfl⟩ := Int.eq_ofNat_of_zero_le (show 0 ≤ n by omega)
  by_cases h2 : 64 < len
  · go_enter Try.func29, Try.ntmps29
    go_wp2_with fail
    go_ret
    exact ⟨ret_int (by rw [checkCode, if_neg (by omega), if_pos (by rw [← HR.out.len]; omega)]), (Below.refl _ _).alloc (Nat.le_refl _) _⟩
  go_enter Try.func29, Try.ntmps29
  go_wp2_with fail
  go_loop [4, 20] (fun _ i => ∃ k : Nat, k ≤ len ∧ i = .int .i64 k ∧ (es.take k).all (fun e => decide (e < 2 ^ n)) = true) (fun _ i => len - (intOf i).toNat)
  case atStart => exact ⟨0, Nat.zero_le _, rfl, rfl⟩
  case round =>
    obtain ⟨k, hk, rfl, ha⟩ := hrel
    have HA := Lib.hid ha; clear ha
    by_cases hlt : k < len
    · obtain ⟨ad, rfl, hb, hcell⟩ := (HR.out.alloc (Nat.le_refl _) (.cells #[.int .i64 n, .slice A len c] 24)).at_ hlt
      have hlk : k < es.length := by have := HR.out.len; omega
      have hek := Lib.hid (HR.out.lt hlt)
      have hst := Lib.hid (all_take_succ (fun e => decide (e < 2 ^ n)) es k hlk)
      have hte := Lib.hid (check_test (n := n) (by omega) hek.out)
      go_wp2_with (go_at_call 54; refine (below_any n (by omega) _).mono ?_; rintro e w' ⟨rfl, rfl⟩)
      · go_ret
        refine ⟨ret_int ?_, (Below.refl _ _).alloc (Nat.le_refl _) _⟩
        have ht : (bits .andNot .u32 (nth es k : Int) ((2 ^ n - 1 : Nat) : Int) != 0) = true := by assumption
        rw [hte.out] at ht
        rw [checkCode, if_neg (by omega), if_neg (by have := HR.out.len; omega), if_neg]
        intro hall
        have := List.all_eq_true.1 hall _ (nth_mem hlk)
        simp at ht this
        omega
      · have ht : (bits .andNot .u32 (nth es k : Int) ((2 ^ n - 1 : Nat) : Int) != 0) = false := by assumption
        rw [hte.out] at ht
        refine ⟨⟨k + 1, by omega, by go_num, ?_⟩, by simp [intOf]; omega⟩
        rw [hst.out, HA.out]
        simpa using ht
    · go_wp2_with fail
      go_ret
      exact ⟨ret_int (by
        have := HR.out.len
        obtain rfl : k = len := by omega
        have := HA.out
        rw [List.take_of_length_le (by omega)] at this
        simp [checkCode, this]; omega), (Below.refl _ _).alloc (Nat.le_refl _) _⟩

end Go.Proofs.Ytpnklmgfdihjfaa
namespace Go.Proofs.Ytpnklmgfdihjfaa
open Go.RowKit
set_option linter.unusedVariables false
set_option linter.unusedSimpArgs false

theorem store_cov {o : Oper} {a : Act} {w : World} {t u : Tmp} {g : Nat} {v0 v1 v2 v3 v4 u0 u1 u2 u3 u4 : Value} {K : Act → World → Prop} {Q : Exit → Act → World → Prop} (ho : o.op = .store 33 (.tmp t) (.tmp u)) (hd : o.dst = none) (ht : a.eval (.tmp t) = .pointer (some ⟨g, 0, none⟩)) (hu : a.eval (.tmp u) = .agg #[u0, u1, u2, u3, u4])
    (hr : Blk w g 33 #[v0, v1, v2, v3, v4]) (hcl : ∀ u ∈ [v0, v1, v2, v3, v4], ∀ x, u ≠ .int .u32 x) (h1 : #[u0, u1, u2, u3, u4].all (·.oneCell') = true)
    (next : ∀ w', KeepsN w w' → w.grownBy w' (some g) → w'.heap.size = w.heap.size → Blk w' g 33 #[u0, u1, u2, u3, u4] → K a w') : o.wp Try.prog a w K Q := by
  refine wp_store_mid 33 (.tmp t) (.tmp u) ho g 0 #[u0, u1, u2, u3, u4] ht hu (fun i hi => ⟨?_, hr.frozen _⟩) (by kernel_rfl) h1 ?_
  · rw [hr.cell]
    have hi7 : i < 5 := by simpa using hi
    rw [Nat.zero_add, Array.getElem?_eq_getElem hi7]; rfl
  · rw [hd]
    have b0 : Blk (w.setCell ⟨g, 0, none⟩ u0) g 33 #[u0, v1, v2, v3, v4] := hr.set_ 0 u0
    have b1 : Blk ((w.setCell ⟨g, 0, none⟩ u0).setCell ⟨g, 1, none⟩ u1) g 33 #[u0, u1, v2, v3, v4] := b0.set_ 1 u1
    have b2 : Blk (((w.setCell ⟨g, 0, none⟩ u0).setCell ⟨g, 1, none⟩ u1).setCell ⟨g, 2, none⟩ u2) g 33 #[u0, u1, u2, v3, v4] := b1.set_ 2 u2
    have b3 : Blk ((((w.setCell ⟨g, 0, none⟩ u0).setCell ⟨g, 1, none⟩ u1).setCell ⟨g, 2, none⟩ u2).setCell ⟨g, 3, none⟩ u3) g 33 #[u0, u1, u2, u3, v4] := b2.set_ 3 u3
    have b4 : Blk (((((w.setCell ⟨g, 0, none⟩ u0).setCell ⟨g, 1, none⟩ u1).setCell ⟨g, 2, none⟩ u2).setCell ⟨g, 3, none⟩ u3).setCell ⟨g, 4, none⟩ u4) g 33 #[u0, u1, u2, u3, u4] := b3.set_ 4 u4
    have q0 : ∀ x, v0 ≠ .int .u32 x := hcl v0 (by simp)
    have q1 : ∀ x, v1 ≠ .int .u32 x := hcl v1 (by simp)
    have q2 : ∀ x, v2 ≠ .int .u32 x := hcl v2 (by simp)
    have q3 : ∀ x, v3 ≠ .int .u32 x := hcl v3 (by simp)
    have q4 : ∀ x, v4 ≠ .int .u32 x := hcl v4 (by simp)
    refine next _ (((((KeepsN.blk hr (i := 0) (by show 0 < 5; omega) (by intro x; simpa using q0 x) u0).trans (KeepsN.blk b0 (i := 1) (by show 1 < 5; omega) (by intro x; simpa using q1 x) u1)).trans (KeepsN.blk b1 (i := 2) (by show 2 < 5; omega) (by intro x; simpa using q2 x) u2)).trans (KeepsN.blk b2 (i := 3) (by show 3 < 5; omega) (by intro x; simpa using q3 x) u3)).trans (KeepsN.blk b3 (i := 4) (by show 4 < 5; omega) (by intro x; simpa using q4 x) u4)) (only_setCells [u0, u1, u2, u3, u4] w 0 (World.grownBy.refl w (some g))) ?_ b4
    show (w.setCells g 0 [u0, u1, u2, u3, u4]).heap.size = _
    simp [World.setCells, size_setCell]
/-- A new box for a cover. -/
def Zc (B : Nat) (v : Value) (w : World) : Prop := ∃ g, v = .pointer (some ⟨g, 0, none⟩) ∧ B ≤ g ∧ Blk w g 33 #[.slice none 0 0, .slice none 0 0, .bool false, .slice none 0 0, .slice none 0 0]
theorem Zc.new {B : Nat} {v : Value} {w w' : World} (h : Zc B v w) (hb : Below w.heap.size w w') : Zc B v w' := by
  obtain ⟨g, h1, h2, h3⟩ := h
  exact ⟨g, h1, h2, h3.keep hb⟩
theorem built_cov0 : Try.prog.built 33 [] = some #[.slice none 0 0, .slice none 0 0, .bool false, .slice none 0 0, .slice none 0 0] := by kernel_rfl
theorem built_cov3 (A B : Option Addr) (n c m d : Nat) (s : Bool) (A0 B0 : Option Addr) (k0 c0 m0 d0 : Nat) : Try.prog.built 33 [(0, .slice A n c), (1, .slice B m d), (2, .agg #[.bool s, .slice A0 k0 c0, .slice B0 m0 d0])] = some #[.slice A n c, .slice B m d, .bool s, .slice A0 k0 c0, .slice B0 m0 d0] := by kernel_rfl
section
variable {o : Oper} {a : Act} {w : World} {t : Tmp}
theorem alloc_cov {w0 : World} (ho : o.op = .alloc 33) (hb : Below w0.heap.size w0 w) : gives Try.prog o a.eval w (fun v w' => Zc w0.heap.size v w' ∧ Below w.heap.size w w') := by
  have hr : (execOp a.eval o).run Try.prog w = .ok (.value (.pointer (some ⟨w.heap.size, 0, none⟩))) (w.alloc (.cells #[.slice none 0 0, .slice none 0 0, .bool false, .slice none 0 0, .slice none 0 0] 33)) := by
    unfold execOp
    rw [ho]
    go_simp
  unfold gives
  rw [hr]
  exact ⟨⟨_, rfl, hb.size, Blk.new _ _ _⟩, al _ _⟩
theorem gives_built0 {ty : TypeId} {cells : Array Value} (ho : o.op = .build ty #[]) (hf : Try.prog.built ty [] = some cells) : gives Try.prog o a.eval w (fun v w' => v = .agg cells ∧ Below w.heap.size w w') := by
  refine gives_val (.agg cells) ?_ ⟨rfl, Below.refl _ _⟩
  unfold execOp
  simp only [ho, Sem.run_bind]
  rw [run_build w ty _ cells (by simpa using hf)]
  rfl
theorem fld_cov {g k : Nat} (ho : o.op = .fieldAddr 33 (.tmp t) k) (hk : k < 3) (h : tv a t = .pointer (some ⟨g, 0, none⟩)) : gives Try.prog o a.eval w (fun v w' => v = .pointer (some ⟨g, k, none⟩) ∧ Below w.heap.size w w') := by
  refine gives_val (.pointer (some ⟨g, k, none⟩)) ?_ ⟨rfl, Below.refl _ _⟩
  have : k = 0 ∨ k = 1 ∨ k = 2 := by omega
  rcases this with rfl | rfl | rfl <;> (unfold execOp; rw [ho]; simp only [eval_tmp, h]; go_simp)
theorem fld_hgr {g k : Nat} (ho : o.op = .fieldAddr 24 (.tmp t) k) (hk : k < 2) (h : tv a t = .pointer (some ⟨g, 0, none⟩)) : gives Try.prog o a.eval w (fun v w' => v = .pointer (some ⟨g, k, none⟩) ∧ Below w.heap.size w w') := by
  refine gives_val (.pointer (some ⟨g, k, none⟩)) ?_ ⟨rfl, Below.refl _ _⟩
  have : k = 0 ∨ k = 1 := by omega
  rcases this with rfl | rfl <;> (unfold execOp; rw [ho]; simp only [eval_tmp, h]; go_simp)
theorem load_c38 {p : Addr} {v : Value} (ho : o.op = .load 22 (.tmp t)) (hx : tv a t = .pointer (some p)) (hc : w.cell? p = some v) : gives Try.prog o a.eval w (fun z w' => z = v ∧ Below w.heap.size w w') := by
  refine gives_val v ?_ ⟨rfl, Below.refl _ _⟩
  unfold execOp; rw [ho]; simp only [eval_tmp, hx]; go_simp
theorem load_cvv {g b : Nat} {x : Rat} {v0 v1 : Value} {s : Bool} {A B : Option Addr} {k c m d : Nat} (ho : o.op = .load 31 (.tmp t)) (hx : tv a t = .pointer (some ⟨g, 2, none⟩)) (hb : Blk w g 33 #[v0, v1, .bool s, .slice A k c, .slice B m d]) (hv : Rw b x (.agg #[.bool s, .slice A k c, .slice B m d]) w) : gives Try.prog o a.eval w (fun v w' => Rw b x v w' ∧ Below w.heap.size w w') := by
  have hl := run_load_rat w ⟨g, 2, none⟩ (.bool s) (.slice A k c) (.slice B m d) (by rw [hb.cell]; rfl) (by show w.cell? ⟨g, 3, none⟩ = _; rw [hb.cell]; rfl) (by show w.cell? ⟨g, 4, none⟩ = _; rw [hb.cell]; rfl)
  refine gives_val (.agg #[.bool s, .slice A k c, .slice B m d]) ?_ ⟨hv, Below.refl _ _⟩
  unfold execOp
  rw [ho]
  simp only [eval_tmp, hx, Instr.loadAt, Instr.sureAddr, Sem.run_bind, Sem.run_pure, Result.andThen_ok, hl]
theorem load_cov {g : Nat} {v0 v1 v2 v3 v4 : Value} (ho : o.op = .load 33 (.tmp t)) (hx : tv a t = .pointer (some ⟨g, 0, none⟩)) (hb : Blk w g 33 #[v0, v1, v2, v3, v4]) : gives Try.prog o a.eval w (fun v w' => v = .agg #[v0, v1, v2, v3, v4] ∧ Below w.heap.size w w') :=
  gives_load_blk 33 (.tmp t) ho g 33 _ _ hx hb Try.underlying33 rfl (by kernel_rfl) ⟨rfl, Below.refl _ _⟩
theorem gives_cvzeros {n : Nat} {x : Operand} {w0 : World} {ts : Array TypeId} (ho : o.op = .call { callee := .value (.func 35), args := #[x], argTypes := ts }) (hn : n ≤ 1000) (hx : a.eval x = .int .i64 (n : Int)) (hb : Below w0.heap.size w0 w) : gives Try.prog o a.eval w (fun v w' => ((∃ g, v = .slice (some ⟨g, 0, none⟩) n n ∧ w0.heap.size ≤ g ∧ RB w' g n (PN w' 2 (fun _ => 0))) ∧ Below w.heap.size w w') ∧ Fresh v w w') :=
  gives_call1 _ _ _ ho (by kernel_rfl) (by
    rw [hx]
    refine (cvzeros_any n hn w).mono ?_
    rintro e w' ⟨g, rfl, h1, h2, h3⟩
    exact ⟨_, rfl, ⟨⟨g, rfl, Nat.le_trans hb.size h1, h2⟩, h3⟩, g, rfl, h1, h2.lt⟩)
end
/-- The union of the first k edges. -/
def orE (es : List Nat) : Nat → Nat
  | 0 => 0
  | k + 1 => orE es k ||| nth es k
theorem orE_lt {es : List Nat} (h : ∀ e ∈ es, e < 4294967296) : ∀ k, k ≤ es.length → orE es k < 4294967296
  | 0, _ => by show 0 < 4294967296; omega
  | k + 1, hk => Nat.or_lt_two_pow (n := 32) (orE_lt h k (by omega)) (h _ (nth_mem (by omega)))
theorem orE_bit {es : List Nat} {x : Nat} : ∀ {k : Nat}, (orE es k).testBit x = true → ∃ i, i < k ∧ (nth es i).testBit x = true
  | 0, h => by simp [orE] at h
  | k + 1, h => by
    rw [orE, Nat.testBit_or, Bool.or_eq_true] at h
    rcases h with h | h
    · obtain ⟨i, hi, hb⟩ := orE_bit h; exact ⟨i, by omega, hb⟩
    · exact ⟨k, by omega, h⟩
def ZCV : Value := .agg #[.slice none 0 0, .slice none 0 0, .bool false, .slice none 0 0, .slice none 0 0]
/-- A cover as a value. -/
def CovV (m n b : Nat) (W P : Nat → Rat) (x : Rat) (u : Value) (w : World) : Prop := ∃ (AW : Option Addr) (cw : Nat) (AP : Option Addr) (cp : Nat) (s : Bool) (A : Option Addr) (k c : Nat) (B : Option Addr) (m' d : Nat),
  u = .agg #[.slice AW m cw, .slice AP n cp, .bool s, .slice A k c, .slice B m' d] ∧ Rs w w.heap.size AW m (PW w b W) ∧ Rs w w.heap.size AP n (PW w b P) ∧ Rw b x (.agg #[.bool s, .slice A k c, .slice B m' d]) w
/-- What Of answers. -/
def CvOfR (n : Int) (es : List Nat) (len s : Nat) (v : Value) (w : World) : Prop :=
  (checkCode n es ≠ 0 → v = .tuple #[ZCV, .int .i64 (checkCode n es)]) ∧
  (checkCode n es = 0 → andn s (2 ^ n.toNat - 1) ≠ 0 → v = .tuple #[ZCV, .int .i64 3]) ∧
  (checkCode n es = 0 → andn s (2 ^ n.toNat - 1) = 0 → andn s (orE es len) ≠ 0 → v = .tuple #[ZCV, .int .i64 9]) ∧
  (checkCode n es = 0 → andn s (2 ^ n.toNat - 1) = 0 → andn s (orE es len) = 0 → ∃ u, v = .tuple #[u, .int .i64 0] ∧ ∃ (W P : Nat → Rat) (x : Rat), CovOK n.toNat len (nth es) s W P x ∧ CovV len n.toNat 60 W P x u w)
theorem cv_frac (es : Nat → Nat) (s : Nat) (L F : List Nat) (n m : Nat) : FracP n m 1 1 (cvA es s L F) (fun _ => 1) (fun _ => 1) := by
  have h1 : Frac 1 (2 ^ 1) 1 := ⟨1, by decide, by simp⟩
  have h0 : Frac 1 (2 ^ 1) 0 := ⟨0, by decide, by simp⟩
  refine ⟨by decide, by decide, fun i _ j _ => ?_, fun _ _ => h1, fun _ _ => h1⟩
  unfold cvA; split
  · exact h1
  · exact h0
theorem RB.ne_ {w : World} {g g' n : Nat} {P : Nat → Value → Prop} {t : TypeId} {cs : Array Value} (h : RB w g n P) (hb : Blk w g' t cs) (ht : 31 ≠ t) : g ≠ g' := by
  obtain ⟨cs0, h1, _⟩ := h
  exact Blk.ne_ h1 hb ht
/-- The state of the two loops of Of. -/
structure OfS (w0 : World) (b0 g4 g13 g15 gW gP len nn kn kf : Nat) (s9 : Bool) (A9 : Option Addr) (k9 c9 : Nat) (B9 : Option Addr) (m9 d9 : Nat) (zs : Array Value) (AX AY A1 AF : Option Addr) (X Y : Nat → Rat) (L FF : List Nat) (xv : Rat) (fW fP : Nat → Rat) (w : World) : Prop where
  c : Blk w g15 33 #[.slice (some ⟨gW, 0, none⟩) len len, .slice (some ⟨gP, 0, none⟩) nn nn, .bool s9, .slice A9 k9 c9, .slice B9 m9 d9]
  z : Blk w g13 79 zs
  h4 : Blk w g4 33 #[.slice none 0 0, .slice none 0 0, .bool false, .slice none 0 0, .slice none 0 0]
  x : Rs w b0 AX kn (PW w 60 X)
  y : Rs w b0 AY kf (PW w 60 Y)
  m : Reads w b0 1 A1 kn (mints L)
  f : Reads w b0 1 AF kf (mints FF)
  W : RB w gW len (PW w 60 fW)
  P : RB w gP nn (PW w 60 fP)
  v : Rw 60 xv (.agg #[.bool s9, .slice A9 k9 c9, .slice B9 m9 d9]) w
  hb : Below w0.heap.size w0 w
  lo : b0 ≤ gW ∧ b0 ≤ gP ∧ gW ≠ gP ∧ w0.heap.size ≤ b0
  sz : b0 ≤ w.heap.size
section
variable {w0 : World} {b0 g4 g13 g15 gW gP len nn kn kf : Nat} {s9 : Bool} {A9 : Option Addr} {k9 c9 : Nat} {B9 : Option Addr} {m9 d9 : Nat} {zs : Array Value} {AX AY A1 AF : Option Addr} {X Y : Nat → Rat} {L FF : List Nat} {xv : Rat} {fW fP f' : Nat → Rat} {w w' : World}
theorem OfS.below (h : OfS w0 b0 g4 g13 g15 gW gP len nn kn kf s9 A9 k9 c9 B9 m9 d9 zs AX AY A1 AF X Y L FF xv fW fP w) (hb : Below w.heap.size w w') : OfS w0 b0 g4 g13 g15 gW gP len nn kn kf s9 A9 k9 c9 B9 m9 d9 zs AX AY A1 AF X Y L FF xv fW fP w' :=
  ⟨h.c.keep hb, h.z.keep hb, h.h4.keep hb, Rs.grownB h.x (only_of_below hb none) h.sz (fun _ e => by cases e) (KeepsN.below hb), Rs.grownB h.y (only_of_below hb none) h.sz (fun _ e => by cases e) (KeepsN.below hb), h.m.grown (only_of_below hb none) h.sz (fun _ e => by cases e), h.f.grown (only_of_below hb none) h.sz (fun _ e => by cases e), h.W.newW hb, h.P.newW hb, h.v.new hb, bthen h.hb hb h.hb.size, h.lo, Nat.le_trans h.sz hb.size⟩
theorem OfS.setP (h : OfS w0 b0 g4 g13 g15 gW gP len nn kn kf s9 A9 k9 c9 B9 m9 d9 zs AX AY A1 AF X Y L FF xv fW fP w) (hg : w.grownBy w' (some gP)) (kp : KeepsN w w') (hN : RB w' gP nn (PW w' 60 f')) : OfS w0 b0 g4 g13 g15 gW gP len nn kn kf s9 A9 k9 c9 B9 m9 d9 zs AX AY A1 AF X Y L FF xv fW f' w' := by
  have lt : ∀ k, some gP = some k → b0 ≤ k := fun k e => by cases e; exact h.lo.2.1
  exact ⟨h.c.grown hg (fun e => by injection e with e; exact RB.ne_ h.P h.c (by decide) e.symm), h.z.grown hg (fun e => by injection e with e; exact RB.ne_ h.P h.z (by decide) e.symm), h.h4.grown hg (fun e => by injection e with e; exact RB.ne_ h.P h.h4 (by decide) e.symm), Rs.grownB h.x hg h.sz lt kp, Rs.grownB h.y hg h.sz lt kp, h.m.grown hg h.sz lt, h.f.grown hg h.sz lt, h.W.grown hg h.lo.2.2.1 (fun _ _ _ hv => PW.keep hv kp), hN, h.v.keepN kp, h.hb.grown hg h.hb.size (fun k e => Nat.le_trans h.lo.2.2.2 (lt k e)), h.lo, Nat.le_trans h.sz hg.size⟩
theorem OfS.setW (h : OfS w0 b0 g4 g13 g15 gW gP len nn kn kf s9 A9 k9 c9 B9 m9 d9 zs AX AY A1 AF X Y L FF xv fW fP w) (hg : w.grownBy w' (some gW)) (kp : KeepsN w w') (hN : RB w' gW len (PW w' 60 f')) : OfS w0 b0 g4 g13 g15 gW gP len nn kn kf s9 A9 k9 c9 B9 m9 d9 zs AX AY A1 AF X Y L FF xv f' fP w' := by
  have lt : ∀ k, some gW = some k → b0 ≤ k := fun k e => by cases e; exact h.lo.1
  exact ⟨h.c.grown hg (fun e => by injection e with e; exact RB.ne_ h.W h.c (by decide) e.symm), h.z.grown hg (fun e => by injection e with e; exact RB.ne_ h.W h.z (by decide) e.symm), h.h4.grown hg (fun e => by injection e with e; exact RB.ne_ h.W h.h4 (by decide) e.symm), Rs.grownB h.x hg h.sz lt kp, Rs.grownB h.y hg h.sz lt kp, h.m.grown hg h.sz lt, h.f.grown hg h.sz lt, hN, h.P.grown hg (Ne.symm h.lo.2.2.1) (fun _ _ _ hv => PW.keep hv kp), h.v.keepN kp, h.hb.grown hg h.hb.size (fun k e => Nat.le_trans h.lo.2.2.2 (lt k e)), h.lo, Nat.le_trans h.sz hg.size⟩
theorem OfS.fin (h : OfS w0 b0 g4 g13 g15 gW gP len nn kn kf s9 A9 k9 c9 B9 m9 d9 zs AX AY A1 AF X Y L FF xv fW fP w) (hg : w.grownBy w' (some g4)) (kp : KeepsN w w') (h4 : w0.heap.size ≤ g4) : CovV len nn 60 fW fP xv (.agg #[.slice (some ⟨gW, 0, none⟩) len len, .slice (some ⟨gP, 0, none⟩) nn nn, .bool s9, .slice A9 k9 c9, .slice B9 m9 d9]) w' ∧ Below w0.heap.size w0 w' :=
  ⟨⟨_, _, _, _, _, _, _, _, _, _, _, rfl, Rs.of_rb (h.W.grown hg (RB.ne_ h.W h.h4 (by decide)) (fun _ _ _ hv => PW.keep hv kp)), Rs.of_rb (h.P.grown hg (RB.ne_ h.P h.h4 (by decide)) (fun _ _ _ hv => PW.keep hv kp)), h.v.keepN kp⟩, h.hb.grown hg h.hb.size (fun k e => by cases e; exact h4)⟩
end

end Go.Proofs.Ytpnklmgfdihjfaa
namespace Go.Proofs.Ytpnklmgfdihjfaa
open Go.RowKit
set_option linter.unusedVariables false
set_option linter.unusedSimpArgs false

set_option maxRecDepth 100000 in
set_option maxHeartbeats 4000000 in
theorem cvdivisor_any {A B : Option Addr} {n c a N m d b M : Nat} {w : World} (ha : Num w A n c a N) (hb : Num w B m d b M) (hab : a + b ≤ 10000) :
    Calls Try.prog 77 #[.slice A n c, .slice B m d] w (fun e w' => ∃ (A' : Option Addr) (k' c' : Nat), e = .returned (.slice A' k' c') ∧ Num w' A' k' c' (a + b) (Nat.gcd N M) ∧ Below w.heap.size w w') := by
  have H0 := Lib.hid (show Num w A n c (a + b) N ∧ Num w B m d (a + b) M from ⟨ha.more (by omega), hb.more (by omega)⟩)
  clear ha hb
  obtain ⟨K, hK⟩ : ∃ K, K = a + b := ⟨_, rfl⟩
  rw [← hK] at H0 hab ⊢
  clear hK
  go_enter Try.func77, Try.ntmps77
  go_wp2_with fail
  go_loopg [0, 1] (M + 1) (fun g av bv wr => ∃ (A1 B1 : Option Addr) (n1 c1 m1 d1 x y : Nat), av = .slice A1 n1 c1 ∧ bv = .slice B1 m1 d1 ∧ y < g ∧ Hid (Num wr A1 n1 c1 K x ∧ Num wr B1 m1 d1 K y ∧ Nat.gcd x y = Nat.gcd N M ∧ Below w.heap.size w wr))
  case atStart => exact ⟨A, B, n, c, m, d, N, M, rfl, rfl, by omega, Lib.hid ⟨H0.out.1, H0.out.2, rfl, Below.refl _ _⟩⟩
  case round =>
    obtain ⟨A1, B1, n1, c1, m1, d1, x, y, rfl, rfl, hyg, HI⟩ := hrel
    clear H0
    obtain ⟨G, hG⟩ : ∃ G, G = gk := ⟨_, rfl⟩
    subst hG
    go_wp2_with fail
    refine (bits_n HI.out.2.1).mono ?_
    rintro e w1 ⟨bb, rfl, hbits, -, rfl⟩
    by_cases hy : y = 0
    · subst hy
      obtain rfl := hbits.zero'
      clear hbits
      go_wp2_with fail
      go_ret
      have h := HI.out.2.2.1
      rw [Nat.gcd_zero_right] at h
      exact ⟨_, _, _, rfl, by rw [← h]; exact HI.out.1, HI.out.2.2.2⟩
    · have hb0 : bb ≠ 0 := hbits.pos' hy
      have t0 : ((bb : Int) > 0) := by omega
      have HY := Lib.hid hy; clear hbits hy
      go_wp2_with fail
      refine (dm_n HI.out.1 HI.out.2.1 hab hab).mono ?_
      rintro e w2 ⟨-, h2⟩
      obtain ⟨A3, k3, c3, A4, k4, c4, rfl, -, ⟨h4, -⟩, hb⟩ := h2 HY.out
      have HJ := Lib.hid (show Num w2 B1 m1 d1 K y ∧ Num w2 A4 k4 c4 K (x % y) ∧ Nat.gcd y (x % y) = Nat.gcd N M ∧ Below w.heap.size w w2 from ⟨HI.out.2.1.new hb, h4, by rw [← HI.out.2.2.1, Nat.gcd_comm x y, Nat.gcd_rec y x, Nat.gcd_comm], bthen HI.out.2.2.2 hb HI.out.2.2.2.size⟩)
      have hlt := Nat.mod_lt x (Nat.pos_of_ne_zero HY.out)
      clear h2 h4 hb HI t0
      go_wp2_with fail
      go_roundg (x % y + 1)
      case measure => omega
      case rel => exact ⟨B1, A4, m1, d1, k4, c4, y, x % y, rfl, rfl, by omega, HJ⟩
set_option maxRecDepth 100000 in
set_option maxHeartbeats 4000000 in
/-- A small exponent. -/
theorem exponent_ok {A : Option Addr} {n c a N : Nat} {w : World} (ha : Num w A n c a N) (hN : N ≤ 2147483648) : Calls Try.prog 45 #[.slice A n c] w (fun e w' => e = .returned (.tuple #[.int .i64 (N : Int), .int .i64 0]) ∧ w = w') := by
  have HA := Lib.hid ha; clear ha
  go_enter Try.func45, Try.ntmps45
  go_wp2_with fail
  refine (u64_n HA.out).mono ?_
  rintro e w1 ⟨hu, -, rfl⟩
  obtain rfl := hu (by omega)
  clear hu
  have t0 : ¬ ((N : Int) > 2147483648) := by omega
  have e1 : IntKind.i64.wrap (N : Int) = (N : Int) := IntWalk.i64_in _ (by omega)
  go_wp2_with fail
  first | exact bodyPost_ret (results_tmp2 rfl _ _ _) rfl ⟨rfl, rfl⟩ | exact bodyPost_end (results_tmp2 rfl _ _ _) rfl ⟨rfl, rfl⟩
set_option maxRecDepth 100000 in
set_option maxHeartbeats 4000000 in
/-- A power with a small exponent. -/
theorem power_ok {A B : Option Addr} {n c a N m d b M : Nat} {w : World} (ha : Num w A n c a N) (hb : Num w B m d b M) (hM : M ≤ 2147483648) (Q : Ending → World → Prop)
    (hp : Calls Try.prog 78 #[.slice A n c, .int .i64 (M : Int)] w (fun e w' => ∃ u v, e = .returned (.tuple #[u, v]) ∧ Q e w')) : Calls Try.prog 43 #[.slice A n c, .slice B m d] w Q := by
  have HA := Lib.hid ha; have HB := Lib.hid hb; have HP := Lib.hid hp; clear ha hb hp
  go_enter Try.func43, Try.ntmps43
  go_wp2_with fail
  refine (exponent_ok HB.out hM).mono ?_
  rintro e w1 ⟨rfl, rfl⟩
  go_wp2_with fail
  refine HP.out.mono ?_
  rintro e w2 ⟨u, v, rfl, hq⟩
  have HQ := Lib.hid hq; clear hq
  go_wp2_with fail

  exact HQ.out
end Go.Proofs.Ytpnklmgfdihjfaa
namespace Go.Proofs.Ytpnklmgfdihjfaa
set_option linter.unusedVariables false

def triE (i : Nat) : Nat := if i = 0 then 3 else if i = 1 then 6 else 5
theorem tri_cov {W P : Nat → Rat} {v : Rat} (h : CovOK 3 3 triE 7 W P v) : v = 3 / 2 ∧ W 0 = 1 / 2 ∧ W 1 = 1 / 2 ∧ W 2 = 1 / 2 := by
  have c0 := h.cov 0 (by omega) (by decide); have c1 := h.cov 1 (by omega) (by decide); have c2 := h.cov 2 (by omega) (by decide)
  have p0 := h.pac 0 (by omega); have p1 := h.pac 1 (by omega); have p2 := h.pac 2 (by omega)
  have b : ∀ i x, ((triE i).testBit x) = ((triE i).testBit x) := fun _ _ => rfl
  have e00 : (triE 0).testBit 0 = true := by decide
  have e01 : (triE 0).testBit 1 = true := by decide
  have e02 : (triE 0).testBit 2 = false := by decide
  have e10 : (triE 1).testBit 0 = false := by decide
  have e11 : (triE 1).testBit 1 = true := by decide
  have e12 : (triE 1).testBit 2 = true := by decide
  have e20 : (triE 2).testBit 0 = true := by decide
  have e21 : (triE 2).testBit 1 = false := by decide
  have e22 : (triE 2).testBit 2 = true := by decide
  have ws := h.ws; have ps := h.ps
  simp only [sm, e00, e01, e02, e10, e11, e12, e20, e21, e22, if_true, Bool.false_eq_true, if_false] at c0 c1 c2 p0 p1 p2 ws ps
  refine ⟨?_, ?_, ?_, ?_⟩ <;> grind
section
variable {n m : Nat} {es : Nat → Nat} {s : Nat} {W P : Nat → Rat} {v : Rat}
end
/-- z over d. -/
def fr (z : Int) (d : Nat) : Rat := ((z : Int) : Rat) / ((d : Int) : Rat)
theorem fr_mul {z : Int} {d : Nat} (hd : 0 < d) : fr z d * ((d : Int) : Rat) = ((z : Int) : Rat) := by
  have h0 : ((d : Int) : Rat) ≠ 0 := by
    intro h
    have : (d : Int) = 0 := Rat.intCast_inj.1 (by rw [h]; rfl)
    omega
  unfold fr; grind
theorem fr_le {z y : Int} {d : Nat} (hd : 0 < d) : fr z d ≤ fr y d ↔ z ≤ y := by
  have hp : (0 : Rat) ≤ ((d : Int) : Rat) := by have := Rat.intCast_le_intCast.2 (show (0 : Int) ≤ (d : Int) by omega); exact this
  constructor
  · intro h
    have h1 := Rat.mul_le_mul_of_nonneg_right h hp
    rw [fr_mul hd, fr_mul hd] at h1
    exact Rat.intCast_le_intCast.1 h1
  · intro h
    refine Classical.byContradiction fun hn => ?_
    have h1 : fr y d ≤ fr z d := by grind
    have h2 := Rat.mul_le_mul_of_nonneg_right h1 hp
    rw [fr_mul hd, fr_mul hd] at h2
    have h3 := Rat.intCast_le_intCast.1 h2
    have : z = y := by omega
    subst this
    exact hn Rat.le_refl
theorem fr_zero (d : Nat) : fr 0 d = 0 := by unfold fr; simp; grind
section
variable {n m : Nat} {es : Nat → Nat} {s : Nat} {w p : Nat → Int} {d : Nat} {v : Int}
variable {W P : Nat → Rat} {u : Rat}
end
end Go.Proofs.Ytpnklmgfdihjfaa
namespace Go.Proofs.Ytpnklmgfdihjfaa
set_option linter.unusedVariables false

/-- The tangent lies below the power. -/
theorem tangent (x y : Int) (hx : 0 ≤ x) (hy : 0 ≤ y) : ∀ n : Nat, x ^ (n + 1) + ((n : Int) + 1) * x ^ n * (y - x) ≤ y ^ (n + 1)
  | 0 => by simp only [Nat.zero_add, Int.pow_succ, Int.pow_zero]; omega
  | n + 1 => by
    have ih := tangent x y hx hy n
    have h1 := Int.mul_le_mul_of_nonneg_left ih hy
    have hp : 0 ≤ x ^ n := Int.pow_nonneg hx
    have h2 : 0 ≤ ((n : Int) + 1) * x ^ n * ((y - x) * (y - x)) := by
      refine Int.mul_nonneg (Int.mul_nonneg (by omega) hp) ?_
      rcases Int.le_total 0 (y - x) with h | h
      · exact Int.mul_nonneg h h
      · exact Int.mul_nonneg_of_nonpos_of_nonpos h h
    have e1 : y * (x ^ (n + 1) + ((n : Int) + 1) * x ^ n * (y - x)) = x ^ (n + 1 + 1) + (((n + 1 : Nat) : Int) + 1) * x ^ (n + 1) * (y - x) + ((n : Int) + 1) * x ^ n * ((y - x) * (y - x)) := by
      push_cast
      rw [Int.pow_succ x (n + 1), Int.pow_succ x n]
      grind
    have e2 : y * y ^ (n + 1) = y ^ (n + 1 + 1) := by rw [Int.pow_succ y (n + 1), Int.mul_comm]
    rw [e1, e2] at h1
    omega
/-- One step of Newton's iteration for the root with the exponent k + 1. -/
def nstep (p k x : Nat) : Nat := (k * x + p / x ^ k) / (k + 1)
/-- It does not fall below the root. -/
theorem nstep_ge {p k x y : Nat} (hx : 0 < x) (hy : y ^ (k + 1) ≤ p) : y ≤ nstep p k x := by
  unfold nstep
  rw [Nat.le_div_iff_mul_le (by omega)]
  have hp : 0 < x ^ k := Nat.pow_pos hx
  by_cases h : y * (k + 1) ≤ k * x
  · exact Nat.le_trans h (Nat.le_add_right _ _)
  · have hd : y * (k + 1) - k * x ≤ p / x ^ k := by
      rw [Nat.le_div_iff_mul_le hp]
      have ht := tangent (x : Int) (y : Int) (by omega) (by omega) k
      have hyi : ((y : Int)) ^ (k + 1) ≤ (p : Int) := by have := Int.ofNat_le.2 hy; simpa using this
      have e : (((y * (k + 1) - k * x) * x ^ k : Nat) : Int) = (x : Int) ^ (k + 1) + ((k : Int) + 1) * (x : Int) ^ k * ((y : Int) - x) := by
        rw [Int.natCast_mul, Int.natCast_sub (by omega)]
        push_cast
        rw [Int.pow_succ]
        grind
      have h3 : (((y * (k + 1) - k * x) * x ^ k : Nat) : Int) ≤ (p : Int) := by rw [e]; omega
      exact Int.ofNat_le.1 h3
    omega
/-- When it no longer falls, the root is met. -/
theorem nstep_stop {p k x : Nat} (hx : 0 < x) (h : x ≤ nstep p k x) : x ^ (k + 1) ≤ p := by
  unfold nstep at h
  rw [Nat.le_div_iff_mul_le (by omega)] at h
  have hp : 0 < x ^ k := Nat.pow_pos hx
  have h1 : x ≤ p / x ^ k := by
    have : x * (k + 1) = k * x + x := by rw [Nat.mul_add, Nat.mul_comm x k, Nat.mul_one]
    omega
  rw [Nat.le_div_iff_mul_le hp] at h1
  rw [Nat.pow_succ, Nat.mul_comm]; exact h1
/-- r is the root of p with the exponent n. -/
def IsRoot (p n r : Nat) : Prop := r ^ n ≤ p ∧ p < (r + 1) ^ n
theorem IsRoot.max {p n r y : Nat} (h : IsRoot p n r) (hn : 0 < n) (hy : y ^ n ≤ p) : y ≤ r := by
  refine Classical.byContradiction fun hc => ?_
  have h1 : (r + 1) ^ n ≤ y ^ n := Nat.pow_le_pow_left (by omega) n
  have := h.2
  omega
theorem IsRoot.of_max {p n r : Nat} (h : r ^ n ≤ p) (hm : ∀ y, y ^ n ≤ p → y ≤ r) : IsRoot p n r :=
  ⟨h, Classical.byContradiction fun hc => by have := hm (r + 1) (by omega); omega⟩
theorem IsRoot.unique {p n r r' : Nat} (h : IsRoot p n r) (h' : IsRoot p n r') (hn : 0 < n) : r = r' :=
  Nat.le_antisymm (h'.max hn h.1) (h.max hn h'.1)
theorem IsRoot.mono {p p' n r r' : Nat} (h : IsRoot p n r) (h' : IsRoot p' n r') (hn : 0 < n) (hp : p ≤ p') : r ≤ r' :=
  h'.max hn (Nat.le_trans h.1 hp)
theorem root_one {p n : Nat} (h1 : 1 ≤ p) (h2 : p < 2 ^ n) : IsRoot p n 1 := ⟨by rw [Nat.one_pow]; exact h1, h2⟩
theorem root_small {p n : Nat} (hn : 0 < n) (h : p ≤ 1) : IsRoot p n p := by
  have : p = 0 ∨ p = 1 := by omega
  rcases this with rfl | rfl
  · refine ⟨by rw [Nat.zero_pow hn]; exact Nat.le_refl _, by rw [Nat.zero_add, Nat.one_pow]; decide⟩
  · exact ⟨by rw [Nat.one_pow]; exact Nat.le_refl _, Nat.one_lt_two_pow (by omega)⟩
theorem root_exp1 (p : Nat) : IsRoot p 1 p := ⟨by rw [Nat.pow_one]; exact Nat.le_refl _, by rw [Nat.pow_one]; omega⟩
end Go.Proofs.Ytpnklmgfdihjfaa
namespace Go.Proofs.Ytpnklmgfdihjfaa
set_option linter.unusedVariables false

/-- The least common denominator of the first n weights. -/
def dlcm (W : Nat → Rat) : Nat → Nat
  | 0 => 1
  | i + 1 => Nat.lcm (dlcm W i) (W i).den
theorem lcm_div (D d : Nat) : D / Nat.gcd D d * d = Nat.lcm D d := by
  unfold Nat.lcm
  rw [Nat.div_mul_right_comm (Nat.gcd_dvd_left D d)]
theorem lcm_le (D d : Nat) : Nat.lcm D d ≤ D * d := Nat.div_le_self _ _
theorem dlcm_ne (W : Nat → Rat) : ∀ n, dlcm W n ≠ 0
  | 0 => Nat.one_ne_zero
  | n + 1 => by
    have := Nat.lcm_ne_zero (dlcm_ne W n) (W n).den_nz
    exact this
theorem dlcm_dvd {W : Nat → Rat} : ∀ {i n : Nat}, i ≤ n → dlcm W i ∣ dlcm W n
  | i, 0, h => by obtain rfl : i = 0 := by omega
                  exact Nat.dvd_refl _
  | i, n + 1, h => by
    by_cases e : i = n + 1
    · subst e; exact Nat.dvd_refl _
    · exact Nat.dvd_trans (dlcm_dvd (i := i) (n := n) (by omega)) (Nat.dvd_lcm_left _ _)
theorem dlcm_le {W : Nat → Rat} {i n : Nat} (h : i ≤ n) : dlcm W i ≤ dlcm W n := Nat.le_of_dvd (Nat.pos_of_ne_zero (dlcm_ne W n)) (dlcm_dvd h)
theorem den_dvd {W : Nat → Rat} {i n : Nat} (h : i < n) : (W i).den ∣ dlcm W n := Nat.dvd_trans (Nat.dvd_lcm_right (dlcm W i) (W i).den) (dlcm_dvd (i := i + 1) h)
theorem dlcm_min {W : Nat → Rat} {D : Nat} : ∀ {n : Nat}, (∀ i, i < n → (W i).den ∣ D) → dlcm W n ∣ D
  | 0, _ => Nat.one_dvd _
  | n + 1, h => Nat.lcm_dvd (dlcm_min fun i hi => h i (by omega)) (h n (by omega))
/-- The exponent of a size. -/
def expW (x : Rat) (D : Nat) : Nat := (x * (D : Rat)).num.natAbs
/-- The product of the first n sizes with their exponents. -/
def prodP (xs : List Int) (W : Nat → Rat) (D : Nat) : Nat → Nat
  | 0 => 1
  | i + 1 => prodP xs W D i * (inth xs i).toNat ^ expW (W i) D
end Go.Proofs.Ytpnklmgfdihjfaa
