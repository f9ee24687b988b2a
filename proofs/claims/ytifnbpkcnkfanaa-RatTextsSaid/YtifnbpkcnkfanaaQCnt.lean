/-
  Words for RatCounts: a Rat and its fraction, stored; bounds of small fractions.
-/
import Derived.Test.YtifnbpkcnkfanaaQRef3
namespace Go.Proofs.Ytifnbpkcnkfanaa
open Go.RowKit
set_option linter.unusedSimpArgs false

theorem Rv.setQ {b g : Nat} {x : Rat} {v : Value} {w : World} {p q : Int} (h : Rv b x v w) (hg : GB w g 35 (.int .i64 p) (.int .i64 q)) (u1 u2 : Value) : Rv b x v ((w.setCell ⟨g, 0, none⟩ u1).setCell ⟨g, 1, none⟩ u2) := by
  obtain ⟨s, A, n, c, B, m, d, rfl, h1, ⟨⟨p1, p2, p3, p4, l, e1, e2⟩, l', e3, e4⟩, ⟨⟨q1, q2, q3, q4, k, f1, f2⟩, k', f3, f4⟩⟩ := h
  have es : ∀ {A : Option Addr} {n : Nat} {l : List Nat}, Es w w.heap.size A n l → Es ((w.setCell ⟨g, 0, none⟩ u1).setCell ⟨g, 1, none⟩ u2) ((w.setCell ⟨g, 0, none⟩ u1).setCell ⟨g, 1, none⟩ u2).heap.size A n l := by
    intro A n l h
    rw [size_setCell, size_setCell]
    refine (h.far hg.c0 (by simp) u1).far (v := .int .i64 q) ?_ (by simp) u2
    rw [(hg.blk.set_ 0 u1).cell]; rfl
  exact ⟨s, A, n, c, B, m, d, rfl, h1, ⟨⟨p1, p2, p3, p4, l, es e1, e2⟩, l', es e3, e4⟩, ⟨⟨q1, q2, q3, q4, k, es f1, f2⟩, k', es f3, f4⟩⟩
theorem store_rv {o : Oper} {a : Act} {w : World} {t u : Tmp} {B g b : Nat} {x : Rat} {v : Value} {K : Act → World → Prop} {Q : Exit → Act → World → Prop} (ho : o.op = .store 29 (.tmp t) (.tmp u)) (hd : o.dst = none) (ht : a.eval (.tmp t) = .pointer (some ⟨g, 0, none⟩)) (hu : a.eval (.tmp u) = v)
    (hz : Zx B g w) (hv : Rv b x v w) (next : ∀ w', (∃ y1 y2 y3, v = .agg #[y1, y2, y3] ∧ TB w' g 29 y1 y2 y3) → Rv b x v w' → (∀ g' t' y z, g' ≠ g → GB w g' t' y z → GB w' g' t' y z) → (∀ C W, C ≤ g → Below C W w → Below C W w') → K a w') : o.wp Try.prog a w K Q := by
  obtain ⟨s, A, n, c, C, m, d, rfl, h⟩ := hv
  have hT := hz.2
  refine wp_store_mid 29 (.tmp t) (.tmp u) ho g 0 #[.bool s, .slice A n c, .slice C m d] ht hu (fun j hj => ⟨?_, hT.blk.frozen _⟩) (by kernel_rfl) (by simp [Value.oneCell']) ?_
  · rw [hT.blk.cell]
    have : j < 3 := by simpa using hj
    simp [this]
  · rw [hd]
    have e : w.setCells g 0 [.bool s, .slice A n c, .slice C m d] = ((w.setCell ⟨g, 0, none⟩ (.bool s)).setCell ⟨g, 1, none⟩ (.slice A n c)).setCell ⟨g, 2, none⟩ (.slice C m d) := rfl
    show K a (w.setCells g 0 [.bool s, .slice A n c, .slice C m d])
    rw [e]
    refine next _ ⟨_, _, _, rfl, ((hT.blk.set_ 0 _).set_ 1 _).set_ 2 _⟩ ⟨s, A, n, c, C, m, d, rfl, h.store3 hT _ _ _⟩ ?_ ?_
    · intro g' t' y z hne h1
      exact ((h1.blk.far (p := ⟨g, 0, none⟩) hne _).far (p := ⟨g, 1, none⟩) hne _).far (p := ⟨g, 2, none⟩) hne _
    · intro B W hB hb
      exact below_store3 hb hB _ _ _
theorem store_q {o : Oper} {a : Act} {w : World} {t u : Tmp} {g : Nat} {x : Rat} {K : Act → World → Prop} {Q : Exit → Act → World → Prop} (ho : o.op = .store 35 (.tmp t) (.tmp u)) (hd : o.dst = none) (ht : a.eval (.tmp t) = .pointer (some ⟨g, 0, none⟩)) (hu : a.eval (.tmp u) = QL x)
    (hz : GB w g 35 (.int .i64 0) (.int .i64 0)) (next : K a ((w.setCell ⟨g, 0, none⟩ (.int .i64 x.num)).setCell ⟨g, 1, none⟩ (.int .i64 (x.den : Int)))) : o.wp Try.prog a w K Q := by
  refine wp_store_mid 35 (.tmp t) (.tmp u) ho g 0 #[.int .i64 x.num, .int .i64 (x.den : Int)] ht hu (fun j hj => ⟨?_, hz.blk.frozen _⟩) (by kernel_rfl) (by simp [Value.oneCell']) ?_
  · rw [hz.blk.cell]
    have : j < 2 := by simpa using hj
    simp [this]
  · rw [hd]; exact next
/-- Two results that lie in memory. -/
theorem results_cell2 {P : Program} {fn : Func} {p q : Tmp} {t1 t2 : TypeId} (h : fn.results = #[.cell p t1, .cell q t2]) (tmps : Array Value) (w : World) (g1 g2 : Nat) (s1 s2 : TypeId) (c1 c2 : Array Value) (d1 d2 : TypeDesc)
    (hp : tmps.getD p undef = .pointer (some ⟨g1, 0, none⟩)) (hq : tmps.getD q undef = .pointer (some ⟨g2, 0, none⟩)) (h1 : Blk w g1 s1 c1) (h2 : Blk w g2 s2 c2)
    (u1 : P.underlying t1 = some d1) (v1 : (match d1 with | .struct _ | .array _ _ => true | _ => false) = true) (i1 : (P.info? t1).map (·.size) = some c1.size)
    (u2 : P.underlying t2 = some d2) (v2 : (match d2 with | .struct _ | .array _ _ => true | _ => false) = true) (i2 : (P.info? t2).map (·.size) = some c2.size) :
    (results fn tmps).run P w = .ok (.tuple #[.agg c1, .agg c2]) w := by
  have hp' : tmps[p]?.getD undef = .pointer (some ⟨g1, 0, none⟩) := by simpa using hp
  have hq' : tmps[q]?.getD undef = .pointer (some ⟨g2, 0, none⟩) := by simpa using hq
  simp [results, h, hp', hq', asAddr, run_loadVar_row w g1 s1 t1 c1 (0, 0) d1 h1 u1 v1 i1, run_loadVar_row w g2 s2 t2 c2 (0, 0) d2 h2 u2 v2 i2]
-- printed by gen/ratof.py
set_option maxRecDepth 100000 in
set_option maxHeartbeats 2000000 in
theorem of_pos (n d : Int) (hn : -1048576 ≤ n ∧ n ≤ 1048576) (hd : -1048576 ≤ d ∧ d ≤ 1048576) (hz : d ≠ 0) (w : World) : Calls Try.prog 29 #[.int .i64 n, .int .i64 d] w (RV w (fun u W => ∃ v, u = .tuple #[v, QL (((n : Int) : Rat) / ((d : Int) : Rat))] ∧ Rv 2 (((n : Int) : Rat) / ((d : Int) : Rat)) v W)) := by
  have td : (d == 0) = false := by simp [hz]
  have HD := Lib.hid hz; clear hz
  go_enter Try.func29, Try.ntmps29
  go_wp2_with fail
  have hT4 : TB ((w.alloc (.cells #[.bool false, .slice none 0 0, .slice none 0 0] 29)).alloc (.cells #[.int .i64 0, .int .i64 0] 35)) w.heap.size 29 (.bool false) (.slice none 0 0) (.slice none 0 0) := (TB.made w _ _ _ _).new (al _ _)
  have hT5 : GB ((w.alloc (.cells #[.bool false, .slice none 0 0, .slice none 0 0] 29)).alloc (.cells #[.int .i64 0, .int .i64 0] 35)) (w.heap.size + 1) 35 (.int .i64 0) (.int .i64 0) := by
    have := GB.made (w.alloc (.cells #[.bool false, .slice none 0 0, .slice none 0 0] 29)) 35 (.int .i64 0) (.int .i64 0)
    simpa using this
  have hW : Below w.heap.size w ((w.alloc (.cells #[.bool false, .slice none 0 0, .slice none 0 0] 29)).alloc (.cells #[.int .i64 0, .int .i64 0] 35)) := (al w _).alloc (by simp) _
  generalize (w.alloc (.cells #[.bool false, .slice none 0 0, .slice none 0 0] 29)).alloc (.cells #[.int .i64 0, .int .i64 0] 35) = w0 at hT4 hT5 hW ⊢
  refine (qof_any n (d) (by omega) (by omega) (by omega) (by omega)).mono ?_
  rintro e w1 hof
  obtain ⟨s5, A5, n5, k5, B5, m5, d5, rfl, h5, hb⟩ := hof.2 HD.out
  clear hof
  replace hT4 := hT4.new hb; replace hT5 := hT5.new hb; replace hW := bthen hW hb hW.size; clear hb
  have T4 := Lib.hid hT4; have T5 := Lib.hid hT5; have HW := Lib.hid hW; have H5 := Lib.hid h5; clear hT4 hT5 hW h5
  go_wp2_with fail
  have hT := TB.made w1 29 (.bool s5) (.slice A5 n5 k5) (.slice B5 m5 d5)
  have hA := al w1 (.cells #[.bool s5, .slice A5 n5 k5, .slice B5 m5 d5] 29)
  generalize w1.alloc (.cells #[.bool s5, .slice A5 n5 k5, .slice B5 m5 d5] 29) = w3 at hT hA ⊢
  have B6 : Hid (Bn 2 (((n : Int) : Rat) / ((d : Int) : Rat)) w1.heap.size w3) := Lib.hid ⟨s5, A5, n5, k5, B5, m5, d5, hT, H5.out.new hA⟩
  replace T4 := Lib.hid (T4.out.new hA); replace T5 := Lib.hid (T5.out.new hA); replace HW := Lib.hid (bthen HW.out hA HW.out.size)
  clear hT hA H5
  refine wp_region_join (kss := [[], [], [], [(1, 17), (2, 18)]]) [(6, .pointer (some ⟨w1.heap.size, 0, none⟩)), (0, .int .i64 n), (1, .int .i64 (d))] [Rv 2 (((n : Int) : Rat) / ((d : Int) : Rat)), fun u _ => u = .int .i64 n, fun u _ => u = .int .i64 (d), fun u _ => u = QL (((n : Int) : Rat) / ((d : Int) : Rat))] 4 [] (by kernel_rfl) (by kernel_rfl) ⟨rfl, rfl, rfl, trivial⟩ [false, false, false, false] ?_ ?_ ?_ ?_
  · exact fun i hi => absurd hi (by simp)
  · exact ⟨fun _ _ _ h hb => Rv.new h hb, fun _ _ _ h _ => h, fun _ _ _ h _ => h, fun _ _ _ h _ => h, trivial⟩
  · refine ⟨?_, ?_, ?_, ?_, trivial⟩
    · exact fun _ _ hb he hd => ob_plain rfl (load_bn rfl he.1 (Bn.new B6.out hb))
    · exact fun _ _ hb he hd => ob_plain rfl (gives_move _ rfl ⟨he.2.1, Below.refl _ _⟩)
    · exact fun _ _ hb he hd => ob_plain rfl (gives_move _ rfl ⟨he.2.2.1, Below.refl _ _⟩)
    · exact fun _ _ hb he hd => ob_plain rfl (gives_call2 _ _ _ _ rfl call_low (low_v n (d) (by omega) (by omega) (by omega) (by omega) HD.out _ _ hd.1 hd.2.1 _))
  intro vs w4 hb hR _
  have rv : Rv 2 (((n : Int) : Rat) / ((d : Int) : Rat)) (vs 0) w4 := hR 0 (by decide)
  have e19 : vs 3 = QL (((n : Int) : Rat) / ((d : Int) : Rat)) := hR 3 (by decide)
  clear hR
  simp only [putsL, Nat.zero_add, Nat.reduceAdd, List.take_succ_cons, List.take_zero, Act.put, List.setIfInBounds_toArray, List.set_cons_zero, List.set_cons_succ]
  rw [e19]
  clear e19
  generalize vs 0 = u0 at *
  replace T4 := Lib.hid (T4.out.new hb); replace T5 := Lib.hid (T5.out.new hb); replace HW := Lib.hid (bthen HW.out hb HW.out.size)
  clear hb B6
  show wpAny _ _ _ _ 2 _ _ _
  refine wpAny_next (i := 4) (by kernel_rfl) rfl rfl (store_rv (B := w.heap.size) rfl rfl rfl rfl ⟨Nat.le_refl _, T4.out⟩ rv ?_)
  rintro w5 ⟨y1, y2, y3, rfl, hT⟩ rv5 hG hB
  have hT5 := hG _ _ _ _ (Nat.succ_ne_self _) T5.out
  have hW := hB _ _ (Nat.le_refl _) HW.out
  refine wpAny_next (i := 5) (by kernel_rfl) rfl rfl (store_q rfl rfl rfl rfl hT5 ?_)
  refine wpAny_end (by kernel_rfl) (calm_normal ?_) _
  have hR := rv5.setQ hT5 (.int .i64 (((n : Int) : Rat) / ((d : Int) : Rat)).num) (.int .i64 ((((n : Int) : Rat) / ((d : Int) : Rat)).den : Int))
  have hT' := (hT.blk.far (p := ⟨w.heap.size + 1, 0, none⟩) (Nat.ne_of_lt (Nat.lt_succ_self _)) (.int .i64 (((n : Int) : Rat) / ((d : Int) : Rat)).num)).far (p := ⟨w.heap.size + 1, 1, none⟩) (Nat.ne_of_lt (Nat.lt_succ_self _)) (.int .i64 ((((n : Int) : Rat) / ((d : Int) : Rat)).den : Int))
  have hQ := (hT5.blk.set_ 0 (.int .i64 (((n : Int) : Rat) / ((d : Int) : Rat)).num)).set_ 1 (.int .i64 ((((n : Int) : Rat) / ((d : Int) : Rat)).den : Int))
  have hW' := (hW.setCell (p := ⟨w.heap.size + 1, 0, none⟩) (Nat.le_add_right _ _) (.int .i64 (((n : Int) : Rat) / ((d : Int) : Rat)).num)).setCell (p := ⟨w.heap.size + 1, 1, none⟩) (Nat.le_add_right _ _) (.int .i64 ((((n : Int) : Rat) / ((d : Int) : Rat)).den : Int))
  generalize (w5.setCell ⟨w.heap.size + 1, 0, none⟩ (.int .i64 (((n : Int) : Rat) / ((d : Int) : Rat)).num)).setCell ⟨w.heap.size + 1, 1, none⟩ (.int .i64 ((((n : Int) : Rat) / ((d : Int) : Rat)).den : Int)) = w6 at hR hT' hQ hW' ⊢
  have E1 := Lib.hid hR; have E2 := Lib.hid hT'; have E3 := Lib.hid hQ; have E4 := Lib.hid hW'
  clear hR hT' hQ hW' hT hT5 hW hG hB rv rv5 T4 T5 HW
  go_wp2_with fail
  exact bodyPost_ret (v := .tuple #[.agg #[y1, y2, y3], QL (((n : Int) : Rat) / ((d : Int) : Rat))]) (results_cell2 Try.results29 _ _ _ _ _ _ _ _ _ _ rfl rfl E2.out E3.out Try.underlying29 rfl rfl Try.underlying35 rfl rfl) rfl ⟨_, rfl, ⟨_, rfl, E1.out⟩, E4.out⟩
set_option maxRecDepth 100000 in
set_option maxHeartbeats 2000000 in
theorem of_zero (n : Int) (hn : -1048576 ≤ n ∧ n ≤ 1048576) (w : World) : Calls Try.prog 29 #[.int .i64 n, .int .i64 0] w (RV w (fun u W => ∃ v, u = .tuple #[v, QL (((n : Int) : Rat) / ((1 : Int) : Rat))] ∧ Rv 2 (((n : Int) : Rat) / ((1 : Int) : Rat)) v W)) := by
  have HD := Lib.hid (show (1 : Int) ≠ 0 by omega)
  go_enter Try.func29, Try.ntmps29
  go_wp2_with fail
  have hT4 : TB ((w.alloc (.cells #[.bool false, .slice none 0 0, .slice none 0 0] 29)).alloc (.cells #[.int .i64 0, .int .i64 0] 35)) w.heap.size 29 (.bool false) (.slice none 0 0) (.slice none 0 0) := (TB.made w _ _ _ _).new (al _ _)
  have hT5 : GB ((w.alloc (.cells #[.bool false, .slice none 0 0, .slice none 0 0] 29)).alloc (.cells #[.int .i64 0, .int .i64 0] 35)) (w.heap.size + 1) 35 (.int .i64 0) (.int .i64 0) := by
    have := GB.made (w.alloc (.cells #[.bool false, .slice none 0 0, .slice none 0 0] 29)) 35 (.int .i64 0) (.int .i64 0)
    simpa using this
  have hW : Below w.heap.size w ((w.alloc (.cells #[.bool false, .slice none 0 0, .slice none 0 0] 29)).alloc (.cells #[.int .i64 0, .int .i64 0] 35)) := (al w _).alloc (by simp) _
  generalize (w.alloc (.cells #[.bool false, .slice none 0 0, .slice none 0 0] 29)).alloc (.cells #[.int .i64 0, .int .i64 0] 35) = w0 at hT4 hT5 hW ⊢
  refine (qof_any n (1) (by omega) (by omega) (by omega) (by omega)).mono ?_
  rintro e w1 hof
  obtain ⟨s5, A5, n5, k5, B5, m5, d5, rfl, h5, hb⟩ := hof.2 HD.out
  clear hof
  replace hT4 := hT4.new hb; replace hT5 := hT5.new hb; replace hW := bthen hW hb hW.size; clear hb
  have T4 := Lib.hid hT4; have T5 := Lib.hid hT5; have HW := Lib.hid hW; have H5 := Lib.hid h5; clear hT4 hT5 hW h5
  go_wp2_with fail
  have hT := TB.made w1 29 (.bool s5) (.slice A5 n5 k5) (.slice B5 m5 d5)
  have hA := al w1 (.cells #[.bool s5, .slice A5 n5 k5, .slice B5 m5 d5] 29)
  generalize w1.alloc (.cells #[.bool s5, .slice A5 n5 k5, .slice B5 m5 d5] 29) = w3 at hT hA ⊢
  have B6 : Hid (Bn 2 (((n : Int) : Rat) / ((1 : Int) : Rat)) w1.heap.size w3) := Lib.hid ⟨s5, A5, n5, k5, B5, m5, d5, hT, H5.out.new hA⟩
  replace T4 := Lib.hid (T4.out.new hA); replace T5 := Lib.hid (T5.out.new hA); replace HW := Lib.hid (bthen HW.out hA HW.out.size)
  clear hT hA H5
  refine wp_region_join (kss := [[], [], [], [(1, 17), (2, 18)]]) [(6, .pointer (some ⟨w1.heap.size, 0, none⟩)), (0, .int .i64 n), (1, .int .i64 (1))] [Rv 2 (((n : Int) : Rat) / ((1 : Int) : Rat)), fun u _ => u = .int .i64 n, fun u _ => u = .int .i64 (1), fun u _ => u = QL (((n : Int) : Rat) / ((1 : Int) : Rat))] 4 [] (by kernel_rfl) (by kernel_rfl) ⟨rfl, rfl, rfl, trivial⟩ [false, false, false, false] ?_ ?_ ?_ ?_
  · exact fun i hi => absurd hi (by simp)
  · exact ⟨fun _ _ _ h hb => Rv.new h hb, fun _ _ _ h _ => h, fun _ _ _ h _ => h, fun _ _ _ h _ => h, trivial⟩
  · refine ⟨?_, ?_, ?_, ?_, trivial⟩
    · exact fun _ _ hb he hd => ob_plain rfl (load_bn rfl he.1 (Bn.new B6.out hb))
    · exact fun _ _ hb he hd => ob_plain rfl (gives_move _ rfl ⟨he.2.1, Below.refl _ _⟩)
    · exact fun _ _ hb he hd => ob_plain rfl (gives_move _ rfl ⟨he.2.2.1, Below.refl _ _⟩)
    · exact fun _ _ hb he hd => ob_plain rfl (gives_call2 _ _ _ _ rfl call_low (low_v n (1) (by omega) (by omega) (by omega) (by omega) HD.out _ _ hd.1 hd.2.1 _))
  intro vs w4 hb hR _
  have rv : Rv 2 (((n : Int) : Rat) / ((1 : Int) : Rat)) (vs 0) w4 := hR 0 (by decide)
  have e19 : vs 3 = QL (((n : Int) : Rat) / ((1 : Int) : Rat)) := hR 3 (by decide)
  clear hR
  simp only [putsL, Nat.zero_add, Nat.reduceAdd, List.take_succ_cons, List.take_zero, Act.put, List.setIfInBounds_toArray, List.set_cons_zero, List.set_cons_succ]
  rw [e19]
  clear e19
  generalize vs 0 = u0 at *
  replace T4 := Lib.hid (T4.out.new hb); replace T5 := Lib.hid (T5.out.new hb); replace HW := Lib.hid (bthen HW.out hb HW.out.size)
  clear hb B6
  show wpAny _ _ _ _ 2 _ _ _
  refine wpAny_next (i := 4) (by kernel_rfl) rfl rfl (store_rv (B := w.heap.size) rfl rfl rfl rfl ⟨Nat.le_refl _, T4.out⟩ rv ?_)
  rintro w5 ⟨y1, y2, y3, rfl, hT⟩ rv5 hG hB
  have hT5 := hG _ _ _ _ (Nat.succ_ne_self _) T5.out
  have hW := hB _ _ (Nat.le_refl _) HW.out
  refine wpAny_next (i := 5) (by kernel_rfl) rfl rfl (store_q rfl rfl rfl rfl hT5 ?_)
  refine wpAny_end (by kernel_rfl) (calm_normal ?_) _
  have hR := rv5.setQ hT5 (.int .i64 (((n : Int) : Rat) / ((1 : Int) : Rat)).num) (.int .i64 ((((n : Int) : Rat) / ((1 : Int) : Rat)).den : Int))
  have hT' := (hT.blk.far (p := ⟨w.heap.size + 1, 0, none⟩) (Nat.ne_of_lt (Nat.lt_succ_self _)) (.int .i64 (((n : Int) : Rat) / ((1 : Int) : Rat)).num)).far (p := ⟨w.heap.size + 1, 1, none⟩) (Nat.ne_of_lt (Nat.lt_succ_self _)) (.int .i64 ((((n : Int) : Rat) / ((1 : Int) : Rat)).den : Int))
  have hQ := (hT5.blk.set_ 0 (.int .i64 (((n : Int) : Rat) / ((1 : Int) : Rat)).num)).set_ 1 (.int .i64 ((((n : Int) : Rat) / ((1 : Int) : Rat)).den : Int))
  have hW' := (hW.setCell (p := ⟨w.heap.size + 1, 0, none⟩) (Nat.le_add_right _ _) (.int .i64 (((n : Int) : Rat) / ((1 : Int) : Rat)).num)).setCell (p := ⟨w.heap.size + 1, 1, none⟩) (Nat.le_add_right _ _) (.int .i64 ((((n : Int) : Rat) / ((1 : Int) : Rat)).den : Int))
  generalize (w5.setCell ⟨w.heap.size + 1, 0, none⟩ (.int .i64 (((n : Int) : Rat) / ((1 : Int) : Rat)).num)).setCell ⟨w.heap.size + 1, 1, none⟩ (.int .i64 ((((n : Int) : Rat) / ((1 : Int) : Rat)).den : Int)) = w6 at hR hT' hQ hW' ⊢
  have E1 := Lib.hid hR; have E2 := Lib.hid hT'; have E3 := Lib.hid hQ; have E4 := Lib.hid hW'
  clear hR hT' hQ hW' hT hT5 hW hG hB rv rv5 T4 T5 HW
  go_wp2_with fail
  exact bodyPost_ret (v := .tuple #[.agg #[y1, y2, y3], QL (((n : Int) : Rat) / ((1 : Int) : Rat))]) (results_cell2 Try.results29 _ _ _ _ _ _ _ _ _ _ rfl rfl E2.out E3.out Try.underlying29 rfl rfl Try.underlying35 rfl rfl) rfl ⟨_, rfl, ⟨_, rfl, E1.out⟩, E4.out⟩
end Go.Proofs.Ytifnbpkcnkfanaa
namespace Go.Proofs.Ytifnbpkcnkfanaa
open Go.RowKit

/-- A Rat and its fraction. -/
def OfV (x : Rat) (v : Value) (w : World) : Prop := ∃ q, v = .tuple #[q, QL x] ∧ Rv 2 x q w
theorem OfV.new {x : Rat} {v : Value} {w w' : World} (h : OfV x v w) (hb : Below w.heap.size w w') : OfV x v w' := by
  obtain ⟨q, h1, h2⟩ := h
  exact ⟨q, h1, h2.new hb⟩
theorem ext_o0 {o : Oper} {a : Act} {w : World} {t : Tmp} {x : Rat} (ho : o.op = .extract (.tmp t) 0) (h : OfV x (tv a t) w) : gives Try.prog o a.eval w (fun v w' => Rv 2 x v w' ∧ Below w.heap.size w w') := by
  obtain ⟨q, h1, h2⟩ := h
  refine gives_val q ?_ ⟨h2, Below.refl _ _⟩
  unfold execOp
  rw [ho]
  simp only [eval_tmp, h1]
  go_simp
theorem ext_o1 {o : Oper} {a : Act} {w : World} {t : Tmp} {x : Rat} (ho : o.op = .extract (.tmp t) 1) (h : OfV x (tv a t) w) : gives Try.prog o a.eval w (fun v w' => v = QL x ∧ Below w.heap.size w w') := by
  obtain ⟨q, h1, h2⟩ := h
  refine gives_val (QL x) ?_ ⟨rfl, Below.refl _ _⟩
  unfold execOp
  rw [ho]
  simp only [eval_tmp, h1]
  go_simp
/-- A new box for a fraction. -/
def Zq (B : Nat) (v : Value) (w : World) : Prop := ∃ g, v = .pointer (some ⟨g, 0, none⟩) ∧ B ≤ g ∧ GB w g 35 (.int .i64 0) (.int .i64 0)
theorem Zq.new {B : Nat} {v : Value} {w w' : World} (h : Zq B v w) (hb : Below w.heap.size w w') : Zq B v w' := by
  obtain ⟨g, h1, h2, h3⟩ := h
  exact ⟨g, h1, h2, h3.new hb⟩
theorem alloc_q {o : Oper} {a : Act} {w0 w : World} (ho : o.op = .alloc 35) (hb : Below w0.heap.size w0 w) : gives Try.prog o a.eval w (fun v w' => Zq w0.heap.size v w' ∧ Below w.heap.size w w') := by
  have hr : (execOp a.eval o).run Try.prog w = .ok (.value (.pointer (some ⟨w.heap.size, 0, none⟩))) (w.alloc (.cells #[.int .i64 0, .int .i64 0] 35)) := by
    unfold execOp
    rw [ho]
    go_simp
  unfold gives
  rw [hr]
  exact ⟨⟨_, rfl, hb.size, GB.made _ _ _ _⟩, al _ _⟩
/-- The denominator that of takes. -/
def den1 (d : Int) : Int := if d = 0 then 1 else d
theorem den1_ne (d : Int) : den1 d ≠ 0 := by unfold den1; split <;> omega
theorem den1_le {d : Int} (h : -1048576 ≤ d ∧ d ≤ 1048576) : -1048576 ≤ den1 d ∧ den1 d ≤ 1048576 := by unfold den1; split <;> omega
theorem of_v (n d : Int) (hn : -1048576 ≤ n ∧ n ≤ 1048576) (hd : -1048576 ≤ d ∧ d ≤ 1048576) (v v' : Value) (hv : v = .int .i64 n) (hv' : v' = .int .i64 d) (w : World) : Calls Try.prog 29 #[v, v'] w (RV w (OfV (((n : Int) : Rat) / ((den1 d : Int) : Rat)))) := by
  subst hv; subst hv'
  by_cases h : d = 0
  · subst h
    exact of_zero n hn w
  · have e : den1 d = d := if_neg h
    rw [e]
    exact of_pos n d hn hd h w
theorem sm_frac (n d : Int) (hn : -1048576 ≤ n ∧ n ≤ 1048576) (hd : -1048576 ≤ d ∧ d ≤ 1048576) : Sm (((n : Int) : Rat) / ((den1 d : Int) : Rat)) := by
  have h1 := frac_le n (den1 d) (den1_ne d)
  have h2 := den1_le hd
  unfold Sm; omega
end Go.Proofs.Ytifnbpkcnkfanaa
namespace Go.Proofs.Ytifnbpkcnkfanaa
open Go.RowKit
set_option linter.unusedSimpArgs false

section
variable {o : Oper} {a : Act} {w : World} {t : Tmp} {g : Nat}
theorem fld_q0 (ho : o.op = .fieldAddr 35 (.tmp t) 0) (hx : tv a t = .pointer (some ⟨g, 0, none⟩)) : gives Try.prog o a.eval w (fun v w' => v = .pointer (some ⟨g, 0, none⟩) ∧ Below w.heap.size w w') := by
  refine gives_val (.pointer (some ⟨g, 0, none⟩)) ?_ ⟨rfl, Below.refl _ _⟩
  unfold execOp; rw [ho]; simp only [eval_tmp, hx]; go_simp
theorem fld_q1 (ho : o.op = .fieldAddr 35 (.tmp t) 1) (hx : tv a t = .pointer (some ⟨g, 0, none⟩)) : gives Try.prog o a.eval w (fun v w' => v = .pointer (some ⟨g, 1, none⟩) ∧ Below w.heap.size w w') := by
  refine gives_val (.pointer (some ⟨g, 1, none⟩)) ?_ ⟨rfl, Below.refl _ _⟩
  unfold execOp; rw [ho]; simp only [eval_tmp, hx]; go_simp
theorem gives_neg_i64 {P : Program} {K : Value → World → Prop} (i : Int) (t : TypeId) (x : Operand) (ho : o.op = .unOp .neg t x) (hx : a.eval x = .int .i64 i) (hb : -1048576 ≤ i ∧ i ≤ 1048576) (hK : K (.int .i64 (-i)) w) : gives P o a.eval w K := by
  refine gives_val _ ?_ hK
  have e : IntKind.i64.wrap (-i) = -i := IntWalk.i64_in _ (by omega)
  unfold execOp
  rw [ho]
  simp only [hx]
  go_simp
theorem ext_z0 (ho : o.op = .extract (.tmp t) 0) (h : tv a t = .tuple #[.agg #[.bool false, .slice none 0 0, .slice none 0 0], .int .i64 18]) : gives Try.prog o a.eval w (fun v w' => v = .agg #[.bool false, .slice none 0 0, .slice none 0 0] ∧ Below w.heap.size w w') := by
  refine gives_val (.agg #[.bool false, .slice none 0 0, .slice none 0 0]) ?_ ⟨rfl, Below.refl _ _⟩
  unfold execOp
  rw [ho]
  simp only [eval_tmp, h]
  go_simp
theorem store_zero {u : Tmp} {B : Nat} {K : Act → World → Prop} {Q : Exit → Act → World → Prop} (ho : o.op = .store 29 (.tmp t) (.tmp u)) (hd : o.dst = none) (ht : a.eval (.tmp t) = .pointer (some ⟨g, 0, none⟩)) (hu : a.eval (.tmp u) = .agg #[.bool false, .slice none 0 0, .slice none 0 0])
    (hz : Zx B g w) (next : ∀ w', TB w' g 29 (.bool false) (.slice none 0 0) (.slice none 0 0) → (∀ C W, C ≤ g → Below C W w → Below C W w') → K a w') : o.wp Try.prog a w K Q := by
  have hT := hz.2
  refine wp_store_mid 29 (.tmp t) (.tmp u) ho g 0 #[.bool false, .slice none 0 0, .slice none 0 0] ht hu (fun j hj => ⟨?_, hT.blk.frozen _⟩) (by kernel_rfl) (by simp [Value.oneCell']) ?_
  · rw [hT.blk.cell]
    have : j < 3 := by simpa using hj
    simp [this]
  · rw [hd]
    have e : w.setCells g 0 [.bool false, .slice none 0 0, .slice none 0 0] = ((w.setCell ⟨g, 0, none⟩ (.bool false)).setCell ⟨g, 1, none⟩ (.slice none 0 0)).setCell ⟨g, 2, none⟩ (.slice none 0 0) := rfl
    show K a (w.setCells g 0 [.bool false, .slice none 0 0, .slice none 0 0])
    rw [e]
    exact next _ (((hT.blk.set_ 0 _).set_ 1 _).set_ 2 _) (fun B W hB hb => below_store3 hb hB _ _ _)
end
/-- A Rat and its fraction, both stored. -/
theorem pair_world {w4 W : World} {g3 g4 C : Nat} {x : Rat} {y1 y2 y3 : Value} (rv : Rv 2 x (.agg #[y1, y2, y3]) w4) (hT : TB w4 g3 29 y1 y2 y3) (hQ : GB w4 g4 35 (.int .i64 0) (.int .i64 0)) (hne : g4 ≠ g3) (hb : Below C W w4) (hC : C ≤ g4) :
    (fun w5 => Bn 2 x g3 w5 ∧ Qb x g4 w5 ∧ Below C W w5) ((w4.setCell ⟨g4, 0, none⟩ (.int .i64 x.num)).setCell ⟨g4, 1, none⟩ (.int .i64 (x.den : Int))) := by
  have r1 := rv.setQ hQ (.int .i64 x.num) (.int .i64 (x.den : Int))
  have hT' := (hT.blk.far (p := ⟨g4, 0, none⟩) (Ne.symm hne) (.int .i64 x.num)).far (p := ⟨g4, 1, none⟩) (Ne.symm hne) (.int .i64 (x.den : Int))
  have hQ' := (hQ.blk.set_ 0 (.int .i64 x.num)).set_ 1 (.int .i64 (x.den : Int))
  have hW' := (hb.setCell (p := ⟨g4, 0, none⟩) hC (.int .i64 x.num)).setCell (p := ⟨g4, 1, none⟩) hC (.int .i64 (x.den : Int))
  refine ⟨?_, hQ', hW'⟩
  obtain ⟨s, A, n, c, B, m, d, he, h⟩ := r1
  simp only [Value.agg.injEq, Array.mk.injEq, List.cons.injEq, and_true] at he
  obtain ⟨rfl, rfl, rfl⟩ := he
  exact ⟨s, A, n, c, B, m, d, hT', h⟩
/-- A fraction, stored. -/
theorem q_world {w4 W : World} {g C : Nat} {x : Rat} (hQ : GB w4 g 35 (.int .i64 0) (.int .i64 0)) (hb : Below C W w4) (hC : C ≤ g) :
    (fun w5 => Qb x g w5 ∧ Below C W w5) ((w4.setCell ⟨g, 0, none⟩ (.int .i64 x.num)).setCell ⟨g, 1, none⟩ (.int .i64 (x.den : Int))) :=
  ⟨(hQ.blk.set_ 0 (.int .i64 x.num)).set_ 1 (.int .i64 (x.den : Int)), (hb.setCell (p := ⟨g, 0, none⟩) hC (.int .i64 x.num)).setCell (p := ⟨g, 1, none⟩) hC (.int .i64 (x.den : Int))⟩

section
variable {x y : Rat}
theorem Sm.mul_le (hx : Sm x) (hy : Sm y) : (x * y).num.natAbs ≤ 9223372036854775807 ∧ (x * y).den ≤ 9223372036854775807 := by
  obtain ⟨a1, a2, a3⟩ := hx.rng; obtain ⟨b1, b2, b3⟩ := hy.rng
  have m1 := mul_small a1 b1; have m2 := mul_small a2 b2
  have := frac_le (x.num * y.num) ((x.den : Int) * (y.den : Int)) (Int.mul_ne_zero a3 b3)
  rw [mul_frac] at this
  omega
theorem Sm.add_le (hx : Sm x) (hy : Sm y) : (x + y).num.natAbs ≤ 9223372036854775807 ∧ (x + y).den ≤ 9223372036854775807 := by
  obtain ⟨a1, a2, a3⟩ := hx.rng; obtain ⟨b1, b2, b3⟩ := hy.rng
  have m1 := mul_small a1 b2; have m2 := mul_small a2 b2; have m3 := mul_small b1 a2
  have := frac_le (x.num * (y.den : Int) + y.num * (x.den : Int)) ((x.den : Int) * (y.den : Int)) (Int.mul_ne_zero a3 b3)
  rw [add_frac] at this
  omega
theorem Sm.neg (hx : Sm x) : Sm (-x) := by
  unfold Sm at *
  rw [Rat.neg_num, Rat.neg_den]
  omega
theorem Sm.le (hx : Sm x) : x.num.natAbs ≤ 9223372036854775807 ∧ x.den ≤ 9223372036854775807 := by unfold Sm at *; omega
/-- The reciprocal, as the law writes it. -/
def recp (y : Rat) : Rat := ((y.den : Int) : Rat) / ((y.num : Int) : Rat)
theorem num_ne (h : y ≠ 0) : y.num ≠ 0 := fun h4 => h (Rat.num_eq_zero.1 h4)
theorem Sm.recp (hy : Sm y) (h : y ≠ 0) : Sm (recp y) := by
  have := frac_le (y.den : Int) y.num (num_ne h)
  unfold Sm at *
  show (((y.den : Int) : Rat) / ((y.num : Int) : Rat)).num.natAbs ≤ _ ∧ _
  unfold Go.Proofs.Ytifnbpkcnkfanaa.recp
  omega
theorem div_recp (h : y ≠ 0) : x / y = x * recp y := by
  have h2 := self_frac y
  have d2 : (((y.den : Nat) : Int) : Rat) ≠ 0 := by intro h; have := Rat.intCast_eq_zero_iff.1 h; have := y.den_nz; omega
  have d3 : ((y.num : Int) : Rat) ≠ 0 := by intro h3; exact num_ne h (Rat.intCast_eq_zero_iff.1 h3)
  unfold recp
  generalize ((y.num : Int) : Rat) = c at *; generalize (((y.den : Nat) : Int) : Rat) = d at *
  rw [← h2]; grind
theorem neg_frac (y : Rat) : ((-y.num : Int) : Rat) / ((y.den : Int) : Rat) = -y := by
  have h2 := self_frac y
  rw [Rat.intCast_neg]
  generalize ((y.num : Int) : Rat) = c at *; generalize (((y.den : Nat) : Int) : Rat) = d at *
  rw [← h2]; grind
theorem bn_of {b g : Nat} {w : World} {y1 y2 y3 : Value} (rv : Rv b x (.agg #[y1, y2, y3]) w) (hT : TB w g 29 y1 y2 y3) : Bn b x g w := by
  obtain ⟨s, A, n, c, B, m, d, he, h⟩ := rv
  simp only [Value.agg.injEq, Array.mk.injEq, List.cons.injEq, and_true] at he
  obtain ⟨rfl, rfl, rfl⟩ := he
  exact ⟨s, A, n, c, B, m, d, hT, h⟩
def negq (y : Rat) : Rat := ((-y.num : Int) : Rat) / ((y.den : Int) : Rat)
theorem negq_eq (y : Rat) : negq y = -y := neg_frac y
def zeroq : Rat := ((0 : Int) : Rat) / ((1 : Int) : Rat)
theorem zeroq_eq : zeroq = 0 := one_div 0
theorem sm_zeroq : Sm zeroq := by rw [zeroq_eq]; exact ⟨by decide, by decide⟩
theorem rcq_zero (x : Rat) : rcq x 0 = x.num.sign := by
  rw [rcq_num]
  have e1 : (0 : Rat).num = 0 := rfl
  have e2 : (0 : Rat).den = 1 := rfl
  rw [e1, e2]
  simp only [Int.natCast_one, Int.mul_one, Int.zero_mul]
  rcases Int.lt_trichotomy x.num 0 with h1 | h1 | h1
  · rw [if_pos h1, Int.sign_eq_neg_one_of_neg h1]
  · rw [h1]; simp
  · rw [if_neg (by omega), if_pos h1, Int.sign_eq_one_of_pos h1]
end
end Go.Proofs.Ytifnbpkcnkfanaa
