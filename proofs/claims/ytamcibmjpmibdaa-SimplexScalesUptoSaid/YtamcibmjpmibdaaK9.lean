/-
Contract of pivot. Regions printed by gen/sx.py.
Contract of leaving. Regions printed by gen/sx.py.
-/
import Derived.Test.YtamcibmjpmibdaaK8
import Derived.StillTail
namespace Go.Proofs.Ytamcibmjpmibdaa
open Go.RowKit
set_option linter.unusedVariables false
set_option linter.unusedSimpArgs false

theorem Bn.kept {b g0 g : Nat} {x : Rat} {w w' : World} (h : Bn b x g0 w) (hg : w.grownBy w' (some g)) (hne : g0 ≠ g) (kp : KeepsN w w') : Bn b x g0 w' := by
  obtain ⟨s, A, n, c, B, m, d, h1, q1, ⟨h2, h3⟩, h4, h5⟩ := h
  exact ⟨s, A, n, c, B, m, d, Blk.grown h1 hg (fun e => hne (by injection e)), q1, ⟨h2.keepN kp, h3.keepN kp⟩, h4.keepN kp, h5.keepN kp⟩
def Fit (b : Nat) (x : Rat) : Prop := x.num.natAbs < PB b ∧ x.den < PB b
theorem rv_comb {P : Program} {f : FuncId} {args : Array Value} {w : World} {N b : Nat} {q : Nat → Rat} (h : Calls P f args w (RowRetQ N b q w)) : Calls P f args w (RV w (fun v w' => ∃ g0 : Nat, v = .slice (some ⟨g0, 0, none⟩) N N ∧ RB w' g0 N (PN w' b q))) :=
  h.mono fun _ _ ⟨g, he, _, hr, hb⟩ => ⟨_, he, ⟨g, rfl, hr⟩, hb⟩
theorem gives_comb {o : Oper} {a : Act} {w : World} {t1 t2 t3 : Tmp} {ts : Array TypeId} {N b bq c1 c2 : Nat} {ad1 ad2 : Addr} {f g F : Nat → Rat} {q : Rat} (ho : o.op = .call { callee := .value (.func 74), args := #[.tmp t1, .tmp t2, .tmp t3], argTypes := ts })
    (e1 : tv a t1 = .slice (some ad1) N c1) (h1 : Rs w w.heap.size (some ad1) N (PN w b f)) (e2 : tv a t2 = .slice (some ad2) N c2) (h2 : Rs w w.heap.size (some ad2) N (PN w b g)) (hq : Rw bq q (tv a t3) w) (hN : 0 < N) (hN2 : N ≤ 1000) (hb : 2 * b + bq ≤ 4800) (hbq : 1 ≤ bq) (hF : ∀ j, F j = f j - q * g j) :
    gives Try.prog o a.eval w (fun v w' => (∃ g0 : Nat, v = .slice (some ⟨g0, 0, none⟩) N N ∧ RB w' g0 N (PN w' (b + (bq + b) + 1) F)) ∧ Below w.heap.size w w') := by
  have e : F = fun j => f j - q * g j := funext hF
  subst e
  refine gives_call3 _ _ _ _ _ ho (by kernel_rfl) ?_
  rw [eval_tmp, eval_tmp, eval_tmp, e1, e2]
  exact rv_comb (combined_any N b bq ad1 ad2 c1 c2 f g q _ w h1 h2 hq hN hN2 hb hbq)
theorem TabW.congr {base : Nat} {w : World} {p n m N b gg cr cb : Nat} {Ar Ab : Option Addr} {rs : Nat → Nat} {S S' : Tab} (h : TabW base w p n m N b gg Ar cr Ab cb rs S) (hT : ∀ i, i < m → ∀ j, j < N → S.T i j = S'.T i j) (hG : ∀ j, j < N → S.G j = S'.G j) (hB : ∀ i, i < m → S.b i = S'.b i) : TabW base w p n m N b gg Ar cr Ab cb rs S' := by
  refine ⟨h.blk, h.rows, fun {i} hi => (h.row hi).mono fun j v hj hv => ?_, ?_, h.goal.mono fun j v hj hv => ?_, h.low⟩
  · have hv' : Rv b (S.T i j) v w := hv
    rw [hT i hi j hj] at hv'; exact hv'
  · have e : basL S'.b m = basL S.b m := by
      unfold basL
      refine List.map_congr_left fun i hi => ?_
      rw [hB i (List.mem_range.1 hi)]
    rw [e]; exact h.bas
  · have hv' : Rv b (S.G j) v w := hv
    rw [hG j hj] at hv'; exact hv'
/-- A slice of Rats is written into one cell. -/
theorem store_c28 {o : Oper} {a : Act} {w : World} {t u : Tmp} {p : Addr} {v0 : Value} {A : Option Addr} {n c : Nat} {K : Act → World → Prop} {Q : Exit → Act → World → Prop} (ho : o.op = .store 28 (.tmp t) (.tmp u)) (hd : o.dst = none) (ht : a.eval (.tmp t) = .pointer (some p)) (hu : a.eval (.tmp u) = .slice A n c)
    (hc : w.cell? p = some v0) (hf : w.frozen? p = false) (h : K a (w.setCell p (.slice A n c))) : o.wp Try.prog a w K Q := by
  unfold Oper.wp execOp
  rw [ho]
  simp only [ht, hu]
  go_simp
  exact h
theorem TabW.rfz {base : Nat} {w : World} {p n m N b gg gr cr cb : Nat} {Ab : Option Addr} {rs : Nat → Nat} {S : Tab} (h : TabW base w p n m N b gg (some ⟨gr, 0, none⟩) cr Ab cb rs S) (i : Nat) : w.frozen? (Addr.add ⟨gr, 0, none⟩ i) = false := by
  rw [addr_zero]; exact h.rows.frozenAt i
theorem RB.setFar {w : World} {g gr i n b : Nat} {f : Nat → Rat} {base : Nat} {rs : List Value} {cr m : Nat} (h : RB w g n (PN w b f)) (hr : w.ownsRow base 28 1 (.slice (some ⟨gr, 0, none⟩) m cr) m rs) {u : Value} (kp : KeepsN w (w.setCell ⟨gr, i, none⟩ u)) : RB (w.setCell ⟨gr, i, none⟩ u) g n (PN (w.setCell ⟨gr, i, none⟩ u) b f) := by
  refine h.far ?_ (fun j v _ hv => PN.keep hv kp)
  obtain ⟨cs, hb', _⟩ := h
  intro he
  exact own_blk_ne hr hb' (by decide) (by simp only [Value.ownBlock]; rw [he])
/-- The rows while the pivot goes through them. -/
def stT (S : Tab) (r k i : Nat) : Nat → Nat → Rat := fun l j => if l < i ∧ l ≠ r then (S.piv r k).T l j else S.T l j
theorem stT_self (S : Tab) (r k i : Nat) : stT S r k i i = S.T i := by funext j; simp [stT]
theorem stT_zero (S : Tab) (r k : Nat) : stT S r k 0 = S.T := by funext l j; simp [stT]
theorem stT_skip (S : Tab) {r k i : Nat} (h : i = r) : stT S r k (i + 1) = stT S r k i := by
  funext l j
  unfold stT
  by_cases h1 : l < i ∧ l ≠ r
  · rw [if_pos h1, if_pos ⟨by omega, h1.2⟩]
  · rw [if_neg h1, if_neg (by omega)]
theorem stT_next (S : Tab) {r k i : Nat} (h : i ≠ r) : stT S r k (i + 1) = fun l => if l = i then (S.piv r k).T i else stT S r k i l := by
  funext l j
  unfold stT
  by_cases h1 : l = i
  · subst h1; rw [if_pos ⟨by omega, h⟩, if_pos rfl]
  · rw [if_neg h1]
    by_cases h2 : l < i ∧ l ≠ r
    · rw [if_pos h2, if_pos ⟨by omega, h2.2⟩]
    · rw [if_neg h2, if_neg (by omega)]
def PvRet (base p n m N b gr cr gb cb : Nat) (S : Tab) (w : World) (e : Ending) (w' : World) : Prop := ∃ (gg : Nat) (rs : Nat → Nat), e = .returned (.tuple #[]) ∧ TabW base w' p n m N b gg (some ⟨gr, 0, none⟩) cr (some ⟨gb, 0, none⟩) cb rs S ∧ Below base w w'
set_option maxRecDepth 100000 in
set_option maxHeartbeats 8000000 in
theorem pivot_any (base p n m N b gg gr cr gb cb r k : Nat) (rs : Nat → Nat) (S : Tab) (w : World) (hT : TabW base w p n m N b gg (some ⟨gr, 0, none⟩) cr (some ⟨gb, 0, none⟩) cb rs S) (hr : r < m) (hk : k < N) (hN2 : N ≤ 1000) (hb0 : b ≤ 1000) (hb1 : 1 ≤ b)
    (hne0 : S.T r k ≠ 0) (hF : ∀ i, i < m → ∀ j, j < N → Fit b ((S.piv r k).T i j)) (hFG : ∀ j, j < N → Fit b ((S.piv r k).G j)) :
    Calls Try.prog 73 #[.pointer (some ⟨p, 0, none⟩), .int .i64 r, .int .i64 k] w (PvRet base p n m N b gr cr gb cb (S.piv r k) w) := by
  have HNn := Lib.hid hT.low.2.2
  have hmm : m ≤ 1000 := by have := hT.low.2.2; omega
  have hbw : base ≤ w.heap.size := hT.low.2.1
  have HT := Lib.hid hT; have HNE := Lib.hid hne0; have HF := Lib.hid hF; have HFG := Lib.hid hFG
  clear hT hne0 hF hFG
  have c2 := HT.out.c2; have pl := HT.out.blk.lt
  have rc := HT.out.rcell hr
  rw [addr_zero] at rc
  have hmk := mk_rat N (by omega)
  have i1 : (0 : Int) ≤ (r : Int) := by omega
  have i2 : (r : Int) < (m : Int) := by omega
  go_enter Try.func73, Try.ntmps73
  go_upto_region 1 with (fail)
  clear hmk
  have HT1 := Lib.hid (HT.out.new (al w (.cells (zrow N) 41)))
  have HZ1 := Lib.hid (rb_zrow w N (fun _ _ => True) (fun _ _ => trivial))
  have HB1 := Lib.hid ((Below.refl base w).alloc hbw (.cells (zrow N) 41))
  have HBO := Lib.hid (al w (.cells (zrow N) 41))
  obtain ⟨g6, hg6⟩ : ∃ g6, g6 = w.heap.size := ⟨_, rfl⟩
  rw [← hg6] at HZ1 ⊢
  have HG6 := Lib.hid hg6; clear hg6
  generalize w.alloc (.cells (zrow N) 41) = W1 at *
  clear c2 pl rc
  have c2 := HT1.out.c2; have pl := HT1.out.blk.lt
  have rc := HT1.out.rcell hr
  rw [addr_zero] at rc
  have HS := Lib.hid (Rs.of_rb (HT1.out.row hr))
  have hNpos : 0 < N := by omega
  have i1 : (0 : Int) ≤ (r : Int) := by omega
  have i2 : (r : Int) < (m : Int) := by omega
  go_upto_region 2 with (refine wpList_copy_rat (g := g6) (n := N) rfl rfl rfl rfl HZ1.out HS.out hNpos ?_; intro w2 kp hg hsz hR)
  have HB2 := Lib.hid (show Below w.heap.size w w2 from HBO.out.grown hg HBO.out.size (fun x hx => by cases hx; have := HG6.out; omega))
  have HR2 := Lib.hid (hR (fun i u => Rv b (S.T r i) u w2) (fun i u _ h => Rv.keepN h kp))
  clear hR kp hg hsz HZ1 HS HT1 HB1 c2 pl rc
  have hg62 := HR2.out.lt
  obtain ⟨ad, s, A0, k0, c0, B0, m0, d0, had, -, q0, q1, q2, q3⟩ := (Rs.of_rb HR2.out).at_ hk
  injection had with had
  subst had
  rw [addr_zero] at q0 q1 q2
  have HQ := Lib.hid q3; clear q3
  have i1 : (0 : Int) ≤ (k : Int) := by omega
  have i2 : (k : Int) < (N : Int) := by omega
  go_upto_region 3 with (fail)
  obtain ⟨g7, hg7⟩ : ∃ g7, g7 = w2.heap.size := ⟨_, rfl⟩
  have HB3 := Lib.hid (bthen HB2.out (al w2 (.cells #[.bool s, .slice A0 k0 c0, .slice B0 m0 d0] 41)) HB2.out.size)
  have HD3 := Lib.hid (show Bn b (S.T r k) g7 (w2.alloc (.cells #[.bool s, .slice A0 k0 c0, .slice B0 m0 d0] 41)) by
    obtain ⟨s', A', n', c', B', m', d', e, h⟩ := HQ.out
    injection e with e; injection e with e; injection e with e0 e; injection e with e1 e; injection e with e2 _
    injection e0 with e0; injection e1 with e1 e1' e1''; injection e2 with e2 e2' e2''
    subst e0 e1 e1' e1'' e2 e2' e2''
    exact ⟨_, _, _, _, _, _, _, by rw [hg7]; exact Blk.new w2 _ _, h.new (al w2 _)⟩)
  have HR3 := Lib.hid (HR2.out.below (al w2 (.cells #[.bool s, .slice A0 k0 c0, .slice B0 m0 d0] 41)) (Q := fun i u => (i < 0 → Rv (b + b) (S.T r i / S.T r k) u (w2.alloc (.cells #[.bool s, .slice A0 k0 c0, .slice B0 m0 d0] 41))) ∧ (0 ≤ i → Rv b (S.T r i) u (w2.alloc (.cells #[.bool s, .slice A0 k0 c0, .slice B0 m0 d0] 41)))) (fun i u _ h => ⟨fun h0 => absurd h0 (by omega), fun _ => h.new (al w2 _)⟩))
  have hg67 : g6 < g7 := by omega
  rw [← hg7]
  clear hg7 HR2 HB2 HQ q0 q1 q2 hg62
  generalize w2.alloc (.cells #[.bool s, .slice A0 k0 c0, .slice B0 m0 d0] 41) = w3 at *
  go_wp2_with fail
  go_loopw [34] (fun iv wr => ∃ j : Nat, iv = .int .i64 j ∧ j ≤ N ∧ Hid (RB wr g6 N (fun i u => (i < j → Rv (b + b) (S.T r i / S.T r k) u wr) ∧ (j ≤ i → Rv b (S.T r i) u wr)) ∧ Bn b (S.T r k) g7 wr ∧ Below w.heap.size w wr)) (fun iv _ => N - (intOf iv).toNat)
  case atStart => exact ⟨0, rfl, Nat.zero_le _, Lib.hid ⟨HR3.out, HD3.out, HB3.out⟩⟩
  case round =>
    obtain ⟨j, rfl, hj, HI⟩ := hrel
    by_cases hjN : j < N
    · have HR := Lib.hid HI.out.1; have HD := Lib.hid HI.out.2.1; have HB := Lib.hid HI.out.2.2
      clear HI
      have HRW := Lib.hid (fun (ww : World) (hb : Below wr.heap.size wr ww) => HR.out.below hb (Q := fun i u => (i < j → Rv (b + b) (S.T r i / S.T r k) u ww) ∧ (j ≤ i → Rv b (S.T r i) u ww)) (fun i u _ h => ⟨fun hi => (h.1 hi).new hb, fun hi => (h.2 hi).new hb⟩))
      have HE := Lib.hid (fun (ww : World) (hb : Below wr.heap.size wr ww) => (Rs.of_rb (HRW.out ww hb)).mono (Q := fun i v => i = j → Rv b (S.T r j) v ww) (fun i v _ h hij => by subst hij; exact h.2 (Nat.le_refl _)))
      by_cases hz : S.T r j = 0
      · have hs1 : ((S.T r j).num.sign != 0) = false := by rw [bne_of (sign_zero hz)]; rfl
        go_upto_region 6 with (fail)
-- %R6a
        refine wp_region_seq (kss := [[], [], [(0, 37), (1, 38)], [(2, 39)], [(3, 40)], [(4, 41)]]) [(6, .slice (some (⟨g6, 0, none⟩)) N N), (8, .int .i64 ((j : Int)))] [fun zz _ => zz = .slice (some (⟨g6, 0, none⟩)) N N, fun zz _ => zz = .int .i64 ((j : Int)), fun zz _ => zz = .pointer (some (Addr.add (⟨g6, 0, none⟩) (j * 3))), Rv (b) (S.T r j), fun zz _ => zz = .int .i64 ((S.T r j).num.sign), fun zz _ => zz = .bool false] (by kernel_rfl) ⟨rfl, rfl, trivial⟩ ?_ ?_ ?_
        · exact ⟨fun _ _ _ h _ => h, fun _ _ _ h _ => h, fun _ _ _ h _ => h, fun _ _ _ h hb => h.new hb, fun _ _ _ h _ => h, fun _ _ _ h _ => h, trivial⟩
        · refine ⟨?_, ?_, ?_, ?_, ?_, ?_, trivial⟩
          · exact fun aa ww hb he hd => ob_plain rfl (gives_move _ rfl ⟨he.1, Below.refl _ _⟩)
          · exact fun aa ww hb he hd => ob_plain rfl (gives_move _ rfl ⟨he.2.1, Below.refl _ _⟩)
          · exact fun aa ww hb he hd => ob_plain rfl (idx_rs (by omega) rfl hd.1 hd.2.1)
          · exact fun aa ww hb he hd => ob_plain rfl (load_rp rfl hd.1 (HE.out _ hb) (by omega) (fun _ h => h rfl))
          · exact fun aa ww hb he hd => ob_plain rfl (gives_call1 _ _ _ rfl (by kernel_rfl) (sign_v (hd.1.rw)))
          · exact fun aa ww hb he hd => ob_plain rfl (gives_ne_int ((S.T r j).num.sign) 0 .i64 _ _ _ _ rfl hd.1 rfl ⟨congrArg Value.bool (hs1), Below.refl _ _⟩)
        intro vs w3 hb hR
        have e42 : vs 5 = .bool false := hR 5 (by decide)
        clear hR
        simp only [putsL, Nat.zero_add, Nat.reduceAdd, List.take_succ_cons, List.take_zero, Act.put, List.setIfInBounds_toArray, List.set_cons_zero, List.set_cons_succ]
        rw [e42]
        clear e42
-- %end R6a
        go_wp2_with fail
        refine ⟨⟨j + 1, by go_num, by omega, Lib.hid ⟨(HRW.out _ hb).mono (fun i u _ h => ⟨fun hi => ?_, fun hi => h.2 (by omega)⟩), HD.out.new hb, bthen HB.out hb HB.out.size⟩⟩, by simp [intOf]; omega⟩
        by_cases hij : i = j
        · subst hij
          have e : S.T r i / S.T r k = S.T r i := by rw [hz]; grind
          rw [e]; exact (h.2 (Nat.le_refl _)).more (by omega)
        · exact h.1 (by omega)
      · have hs1 : ((S.T r j).num.sign != 0) = true := by rw [bne_of (sign_ne hz)]; rfl
        go_upto_region 6 with (fail)
-- %R6b
        refine wp_region_seq (kss := [[], [], [(0, 37), (1, 38)], [(2, 39)], [(3, 40)], [(4, 41)]]) [(6, .slice (some (⟨g6, 0, none⟩)) N N), (8, .int .i64 ((j : Int)))] [fun zz _ => zz = .slice (some (⟨g6, 0, none⟩)) N N, fun zz _ => zz = .int .i64 ((j : Int)), fun zz _ => zz = .pointer (some (Addr.add (⟨g6, 0, none⟩) (j * 3))), Rv (b) (S.T r j), fun zz _ => zz = .int .i64 ((S.T r j).num.sign), fun zz _ => zz = .bool true] (by kernel_rfl) ⟨rfl, rfl, trivial⟩ ?_ ?_ ?_
        · exact ⟨fun _ _ _ h _ => h, fun _ _ _ h _ => h, fun _ _ _ h _ => h, fun _ _ _ h hb => h.new hb, fun _ _ _ h _ => h, fun _ _ _ h _ => h, trivial⟩
        · refine ⟨?_, ?_, ?_, ?_, ?_, ?_, trivial⟩
          · exact fun aa ww hb he hd => ob_plain rfl (gives_move _ rfl ⟨he.1, Below.refl _ _⟩)
          · exact fun aa ww hb he hd => ob_plain rfl (gives_move _ rfl ⟨he.2.1, Below.refl _ _⟩)
          · exact fun aa ww hb he hd => ob_plain rfl (idx_rs (by omega) rfl hd.1 hd.2.1)
          · exact fun aa ww hb he hd => ob_plain rfl (load_rp rfl hd.1 (HE.out _ hb) (by omega) (fun _ h => h rfl))
          · exact fun aa ww hb he hd => ob_plain rfl (gives_call1 _ _ _ rfl (by kernel_rfl) (sign_v (hd.1.rw)))
          · exact fun aa ww hb he hd => ob_plain rfl (gives_ne_int ((S.T r j).num.sign) 0 .i64 _ _ _ _ rfl hd.1 rfl ⟨congrArg Value.bool (hs1), Below.refl _ _⟩)
        intro vs w3 hb hR
        have e42 : vs 5 = .bool true := hR 5 (by decide)
        clear hR
        simp only [putsL, Nat.zero_add, Nat.reduceAdd, List.take_succ_cons, List.take_zero, Act.put, List.setIfInBounds_toArray, List.set_cons_zero, List.set_cons_succ]
        rw [e42]
        clear e42
-- %end R6b
        go_upto_region 7 with (fail)
        have HR3 := Lib.hid (HRW.out _ hb)
        replace HD := Lib.hid (HD.out.new hb); replace HB := Lib.hid (bthen HB.out hb HB.out.size)
        clear hb HR HE HRW
        have HRW := Lib.hid (fun (ww : World) (hb : Below w3.heap.size w3 ww) => HR3.out.below hb (Q := fun i u => (i < j → Rv (b + b) (S.T r i / S.T r k) u ww) ∧ (j ≤ i → Rv b (S.T r i) u ww)) (fun i u _ h => ⟨fun hi => (h.1 hi).new hb, fun hi => (h.2 hi).new hb⟩))
        have HE := Lib.hid (fun (ww : World) (hb : Below w3.heap.size w3 ww) => (Rs.of_rb (HRW.out ww hb)).mono (Q := fun i v => i = j → Rv b (S.T r j) v ww) (fun i v _ h hij => by subst hij; exact h.2 (Nat.le_refl _)))
        have hne := HNE.out
-- %R7
        refine wp_region_join (kss := [[], [], [], [], [(2, 46), (3, 47)], [(4, 48)], [], [(5, 49), (6, 50)], [(7, 51)], [(8, 43)], [(8, 43)], [(0, 44), (1, 45)]]) [(6, .slice (some (⟨g6, 0, none⟩)) N N), (8, .int .i64 ((j : Int))), (7, .pointer (some ⟨g7, 0, none⟩))] [fun zz _ => zz = .slice (some (⟨g6, 0, none⟩)) N N, fun zz _ => zz = .int .i64 ((j : Int)), fun zz _ => zz = .slice (some (⟨g6, 0, none⟩)) N N, fun zz _ => zz = .int .i64 ((j : Int)), fun zz _ => zz = .pointer (some (Addr.add (⟨g6, 0, none⟩) (j * 3))), Rv (b) (S.T r j), Rv (b) (S.T r k), Dv (b + b) ((S.T r j) / (S.T r k)), Dv (b + b) ((S.T r j) / (S.T r k)), Rv (b + b) ((S.T r j) / (S.T r k)), fun zz _ => zz = .int .i64 0, fun zz _ => zz = .pointer (some (Addr.add (⟨g6, 0, none⟩) (j * 3)))] 12 [10] (by kernel_rfl) (by kernel_rfl) ⟨rfl, rfl, rfl, trivial⟩ [false, false, false, false, false, false, false, false, false, false, false, false] ?_ ?_ ?_ ?_
        · intro i hi
          simp only [List.mem_cons, List.not_mem_nil, or_false] at hi
          subst hi
          exact ⟨rfl, fun o ks ho hk => by cases ho; cases hk; exact fun a w _ _ hd => late_e rfl rfl hd.1⟩
        · exact ⟨fun _ _ _ h _ => h, fun _ _ _ h _ => h, fun _ _ _ h _ => h, fun _ _ _ h _ => h, fun _ _ _ h _ => h, fun _ _ _ h hb => h.new hb, fun _ _ _ h hb => h.new hb, fun _ _ _ h hb => h.new hb, fun _ _ _ h hb => h.new hb, fun _ _ _ h hb => h.new hb, fun _ _ _ h _ => h, fun _ _ _ h _ => h, trivial⟩
        · refine ⟨?_, ?_, ?_, ?_, ?_, ?_, ?_, ?_, ?_, ?_, ?_, ?_, trivial⟩
          · exact fun aa ww hb he hd => ob_plain rfl (gives_move _ rfl ⟨he.1, Below.refl _ _⟩)
          · exact fun aa ww hb he hd => ob_plain rfl (gives_move _ rfl ⟨he.2.1, Below.refl _ _⟩)
          · exact fun aa ww hb he hd => ob_plain rfl (gives_move _ rfl ⟨he.1, Below.refl _ _⟩)
          · exact fun aa ww hb he hd => ob_plain rfl (gives_move _ rfl ⟨he.2.1, Below.refl _ _⟩)
          · exact fun aa ww hb he hd => ob_plain rfl (idx_rs (by omega) rfl hd.1 hd.2.1)
          · exact fun aa ww hb he hd => ob_plain rfl (load_rp rfl hd.1 (HE.out _ hb) (by omega) (fun _ h => h rfl))
          · exact fun aa ww hb he hd => ob_plain rfl (load_bn rfl he.2.2.1 (Bn.new HD.out hb))
          · exact fun aa ww hb he hd => ob_plain rfl (gives_call2 _ _ _ _ rfl (by kernel_rfl) (div_v (hd.1.rw) (hd.2.1.rw) (by omega) hne))
          · exact fun aa ww hb he hd => ob_plain rfl (gives_move _ rfl ⟨hd.1, Below.refl _ _⟩)
          · exact fun aa ww hb he hd => ob_plain rfl (ext_q rfl hd.1)
          · exact fun aa ww hb he hd => ob_plain rfl (ext_e rfl hd.1)
          · exact fun aa ww hb he hd => ob_plain rfl (idx_rs (by omega) rfl hd.1 hd.2.1)
        intro vs w4 hb hR _
        have e54 : vs 11 = .pointer (some (Addr.add (⟨g6, 0, none⟩) (j * 3))) := hR 11 (by decide)
        have r52 : Rv (b + b) ((S.T r j) / (S.T r k)) (vs 9) w4 := hR 9 (by decide)
        clear hR
        simp only [putsL, Nat.zero_add, Nat.reduceAdd, List.take_succ_cons, List.take_zero, Act.put, List.setIfInBounds_toArray, List.set_cons_zero, List.set_cons_succ]
        rw [e54]
        clear e54
        show wpAny _ _ _ _ 1 _ _ _
        refine wpAny_next (i := 12) (by kernel_rfl) rfl rfl (store_row (v := vs 9) (g := g6) (j := j) (b := b + b) (x := S.T r j / S.T r k) rfl rfl rfl rfl (HRW.out _ hb) hjN r52.rw ?_)
-- %end R7
        clear hne
        intro w5 kp hg hsz hR
        refine wpAny_end (by kernel_rfl) (calm_normal ?_) _
        go_wp2_with fail
        have HB4 := Lib.hid (bthen HB.out hb HB.out.size)
        refine ⟨⟨j + 1, by go_num, by omega, Lib.hid ⟨hR _ (fun i u hi hne h => ⟨fun h1 => (h.1 (by omega)).keepN kp, fun h1 => (h.2 (by omega)).keepN kp⟩) ⟨fun _ => r52.keepN kp, fun h1 => absurd h1 (by omega)⟩, (HD.out.new hb).kept hg (by omega) kp, ?_⟩⟩, by simp [intOf]; omega⟩
        exact HB4.out.grown hg HB4.out.size (fun x hx => by cases hx; have := HG6.out; omega)
    · have hjN' : j = N := by omega
      subst hjN'
      clear hjN hj
      have HTr := Lib.hid (HT.out.new HI.out.2.2)
      have HPr := Lib.hid (HI.out.1.mono (Q := PN wr b (fun j => S.T r j / S.T r k)) (fun i u hi h => (h.1 hi).fit (by have := (HF.out r hr i hi).1; rwa [piv_row] at this) (by have := (HF.out r hr i hi).2; rwa [piv_row] at this) hb1))
      have HBr := Lib.hid (show Below base w wr from HI.out.2.2.mono hbw)
      clear HI
      have c2 := HTr.out.c2; have pl := HTr.out.blk.lt
      go_wp2_with fail
      clear c2 pl
      go_loopw [61] (fun iv wr => ∃ i : Nat, iv = .int .i64 i ∧ i ≤ m ∧ Hid (∃ rs1, TabW base wr p n m j b gg (some ⟨gr, 0, none⟩) cr (some ⟨gb, 0, none⟩) cb rs1 ⟨stT S r k i, S.G, S.b⟩ ∧ RB wr g6 j (PN wr b (fun l => S.T r l / S.T r k)) ∧ Below base w wr)) (fun iv _ => m - (intOf iv).toNat)
      case atStart => exact ⟨0, rfl, Nat.zero_le _, Lib.hid ⟨rs, by rw [stT_zero]; exact HTr.out, HPr.out, HBr.out⟩⟩
      case round =>
        obtain ⟨i, rfl, hi, HI⟩ := hrel
        obtain ⟨rs1, hI⟩ := HI.out
        have HJ := Lib.hid hI; clear hI HI
        by_cases him : i < m
        · by_cases hir : i = r
          · have t0 : ((i : Int) != (r : Int)) = false := by simp [hir]
            have HE := Lib.hid (stT_skip S (k := k) hir); clear hir
            go_wp2_with fail
            exact ⟨⟨i + 1, by go_num, by omega, Lib.hid ⟨rs1, by rw [HE.out]; exact HJ.out.1, HJ.out.2⟩⟩, by simp [intOf]; omega⟩
          · have t0 : ((i : Int) != (r : Int)) = true := by rw [bne_iff_ne]; omega
            have HE := Lib.hid (stT_next S (k := k) hir)
            have HS1 := Lib.hid (stT_self S r k i)
            have HPO := Lib.hid (fun jj => piv_oth S k jj hir)
            clear hir
            obtain ⟨S1, hS1⟩ : ∃ S1 : Tab, S1 = ⟨stT S r k i, S.G, S.b⟩ := ⟨_, rfl⟩
            have HT := Lib.hid (show TabW base wr p n m j b gg (some ⟨gr, 0, none⟩) cr (some ⟨gb, 0, none⟩) cb rs1 S1 by rw [hS1]; exact HJ.out.1)
            have HP := Lib.hid HJ.out.2.1; have HB := Lib.hid HJ.out.2.2
            have HSE := Lib.hid hS1
            clear HJ hS1
            go_upto_region 13 with (fail)
-- %R13
            refine wp_region_join (kss := [[], [(0, 67)], [(1, 68)], [(2, 69)], [], [], [(5, 72)], [(6, 73)], [(7, 74)], [], [(8, 75), (9, 76)], [(10, 77)], [], [], [(13, 80)], [(14, 81)], [(15, 82)], [], [(16, 83), (17, 84)], [(18, 85)], [], [(19, 86), (20, 87)], [(21, 88)], [(11, 78), (12, 79), (22, 89)], [(3, 70), (4, 71)]]) [(0, .pointer (some ⟨p, 0, none⟩)), (9, .int .i64 ((i : Int))), (6, .slice (some (⟨g6, 0, none⟩)) j j), (2, .int .i64 ((k : Int)))] [fun zz _ => zz = .pointer (some ⟨p, 0, none⟩), fun zz _ => zz = .pointer (some ⟨p, 0, none⟩), fun zz _ => zz = .pointer (some ⟨p, 2, none⟩), fun zz _ => zz = .slice (some ⟨gr, 0, none⟩) m cr, fun zz _ => zz = .int .i64 ((i : Int)), fun zz _ => zz = .pointer (some ⟨p, 0, none⟩), fun zz _ => zz = .pointer (some ⟨p, 0, none⟩), fun zz _ => zz = .pointer (some ⟨p, 2, none⟩), fun zz _ => zz = .slice (some ⟨gr, 0, none⟩) m cr, fun zz _ => zz = .int .i64 ((i : Int)), fun zz _ => zz = .pointer (some (Addr.add ⟨gr, 0, none⟩ i)), fun zz _ => zz = .slice (some (⟨rs1 i, 0, none⟩)) j j, fun zz _ => zz = .slice (some (⟨g6, 0, none⟩)) j j, fun zz _ => zz = .pointer (some ⟨p, 0, none⟩), fun zz _ => zz = .pointer (some ⟨p, 0, none⟩), fun zz _ => zz = .pointer (some ⟨p, 2, none⟩), fun zz _ => zz = .slice (some ⟨gr, 0, none⟩) m cr, fun zz _ => zz = .int .i64 ((i : Int)), fun zz _ => zz = .pointer (some (Addr.add ⟨gr, 0, none⟩ i)), fun zz _ => zz = .slice (some (⟨rs1 i, 0, none⟩)) j j, fun zz _ => zz = .int .i64 ((k : Int)), fun zz _ => zz = .pointer (some (Addr.add (⟨rs1 i, 0, none⟩) (k * 3))), Rv (b) ((S1.T i) k), fun v w' => ∃ g0 : Nat, v = .slice (some ⟨g0, 0, none⟩) j j ∧ RB w' g0 j (PN w' (b + (b + b) + 1) (fun l => S1.T i l - S1.T i k * (S.T r l / S.T r k))), fun zz _ => zz = .pointer (some (Addr.add ⟨gr, 0, none⟩ i))] 25 [] (by kernel_rfl) (by kernel_rfl) ⟨rfl, rfl, rfl, rfl, trivial⟩ [false, false, false, false, false, false, false, false, false, false, false, false, false, false, false, false, false, false, false, false, false, false, false, false, false] ?_ ?_ ?_ ?_
            · exact fun i hi => absurd hi (by simp)
            · exact ⟨fun _ _ _ h _ => h, fun _ _ _ h _ => h, fun _ _ _ h _ => h, fun _ _ _ h _ => h, fun _ _ _ h _ => h, fun _ _ _ h _ => h, fun _ _ _ h _ => h, fun _ _ _ h _ => h, fun _ _ _ h _ => h, fun _ _ _ h _ => h, fun _ _ _ h _ => h, fun _ _ _ h _ => h, fun _ _ _ h _ => h, fun _ _ _ h _ => h, fun _ _ _ h _ => h, fun _ _ _ h _ => h, fun _ _ _ h _ => h, fun _ _ _ h _ => h, fun _ _ _ h _ => h, fun _ _ _ h _ => h, fun _ _ _ h _ => h, fun _ _ _ h _ => h, fun _ _ _ h hb => h.new hb, fun _ _ _ ⟨g0, h1, h2⟩ hb => ⟨g0, h1, h2.newN hb⟩, fun _ _ _ h _ => h, trivial⟩
            · refine ⟨?_, ?_, ?_, ?_, ?_, ?_, ?_, ?_, ?_, ?_, ?_, ?_, ?_, ?_, ?_, ?_, ?_, ?_, ?_, ?_, ?_, ?_, ?_, ?_, ?_, trivial⟩
              · exact fun aa ww hb he hd => ob_plain rfl (gives_move _ rfl ⟨he.1, Below.refl _ _⟩)
              · exact fun aa ww hb he hd => ob_plain rfl (nil_c rfl hd.1)
              · exact fun aa ww hb he hd => ob_plain rfl (fld_tab rfl (by decide) hd.1)
              · exact fun aa ww hb he hd => ob_plain rfl (load_c29 rfl hd.1 (TabW.new HT.out hb).c2)
              · exact fun aa ww hb he hd => ob_plain rfl (gives_move _ rfl ⟨he.2.1, Below.refl _ _⟩)
              · exact fun aa ww hb he hd => ob_plain rfl (gives_move _ rfl ⟨he.1, Below.refl _ _⟩)
              · exact fun aa ww hb he hd => ob_plain rfl (nil_c rfl hd.1)
              · exact fun aa ww hb he hd => ob_plain rfl (fld_tab rfl (by decide) hd.1)
              · exact fun aa ww hb he hd => ob_plain rfl (load_c29 rfl hd.1 (TabW.new HT.out hb).c2)
              · exact fun aa ww hb he hd => ob_plain rfl (gives_move _ rfl ⟨he.2.1, Below.refl _ _⟩)
              · exact fun aa ww hb he hd => ob_plain rfl (idx_rws (by omega) rfl hd.1 hd.2.1)
              · exact fun aa ww hb he hd => ob_plain rfl (load_c28 rfl hd.1 ((TabW.new HT.out hb).rcell (by omega)))
              · exact fun aa ww hb he hd => ob_plain rfl (gives_move _ rfl ⟨he.2.2.1, Below.refl _ _⟩)
              · exact fun aa ww hb he hd => ob_plain rfl (gives_move _ rfl ⟨he.1, Below.refl _ _⟩)
              · exact fun aa ww hb he hd => ob_plain rfl (nil_c rfl hd.1)
              · exact fun aa ww hb he hd => ob_plain rfl (fld_tab rfl (by decide) hd.1)
              · exact fun aa ww hb he hd => ob_plain rfl (load_c29 rfl hd.1 (TabW.new HT.out hb).c2)
              · exact fun aa ww hb he hd => ob_plain rfl (gives_move _ rfl ⟨he.2.1, Below.refl _ _⟩)
              · exact fun aa ww hb he hd => ob_plain rfl (idx_rws (by omega) rfl hd.1 hd.2.1)
              · exact fun aa ww hb he hd => ob_plain rfl (load_c28 rfl hd.1 ((TabW.new HT.out hb).rcell (by omega)))
              · exact fun aa ww hb he hd => ob_plain rfl (gives_move _ rfl ⟨he.2.2.2.1, Below.refl _ _⟩)
              · exact fun aa ww hb he hd => ob_plain rfl (idx_rs (by omega) rfl hd.1 hd.2.1)
              · exact fun aa ww hb he hd => ob_plain rfl (load_rn rfl hd.1 (Rs.of_rb ((TabW.new HT.out hb).row (by omega))) (by omega))
              · exact fun aa ww hb he hd => ob_plain rfl (gives_comb (b := b) (bq := b) (f := S1.T i) (g := fun l => S.T r l / S.T r k) (q := S1.T i k) rfl hd.1 (Rs.of_rb ((TabW.new HT.out hb).row (by omega))) hd.2.1 (Rs.of_rb (RB.newN HP.out hb)) hd.2.2.1.rw (by omega) (by omega) (by omega) hb1 (fun _ => rfl))
              · exact fun aa ww hb he hd => ob_plain rfl (idx_rws (by omega) rfl hd.1 hd.2.1)
            intro vs w4 hb hR _
            have e91 : vs 24 = .pointer (some (Addr.add ⟨gr, 0, none⟩ i)) := hR 24 (by decide)
            have r90 := hR 23 (by decide)
            clear hR
            simp only [putsL, Nat.zero_add, Nat.reduceAdd, List.take_succ_cons, List.take_zero, Act.put, List.setIfInBounds_toArray, List.set_cons_zero, List.set_cons_succ]
            rw [e91]
            clear e91
-- %end R13
            obtain ⟨g0, e90, hr0⟩ := (show ∃ g0 : Nat, vs 23 = .slice (some ⟨g0, 0, none⟩) j j ∧ RB w4 g0 j (PN w4 (b + (b + b) + 1) (fun l => S1.T i l - S1.T i k * (S.T r l / S.T r k))) from r90)
            rw [e90]
            clear r90 e90
            have HT4 := Lib.hid (HT.out.new hb)
            have HP4 := Lib.hid (HP.out.newN hb)
            have HB4 := Lib.hid (show Below base w w4 from HB.out.trans (hb.mono HT.out.low.2.1))
            have HE1 := Lib.hid (show ∀ l, S1.T i l - S1.T i k * (S.T r l / S.T r k) = (S.piv r k).T i l from fun l => by
              have e1 : S1.T i = S.T i := by rw [HSE.out]; exact HS1.out
              rw [e1, HPO.out l])
            have HR0 := Lib.hid (hr0.mono (Q := PN w4 b ((S.piv r k).T i)) (fun l u hl h => by
              have h' : Rv (b + (b + b) + 1) (S1.T i l - S1.T i k * (S.T r l / S.T r k)) u w4 := h
              rw [HE1.out l] at h'
              exact h'.fit (HF.out i him l hl).1 (HF.out i him l hl).2 hb1))
            clear hr0 hb
            obtain ⟨s1, s2, s3⟩ := HT4.out.setRow him HR0.out
            have hfar := HP4.out.setFar (i := i) HT4.out.rows s3
            have HN1 := Lib.hid s1; have HN3 := Lib.hid hfar
            have HN2 := Lib.hid (show Below base w (w4.setCell ⟨gr, i, none⟩ (.slice (some ⟨g0, 0, none⟩) j j)) from HB4.out.setCell (p := ⟨gr, i, none⟩) (by show base ≤ gr; obtain ⟨⟨g', e', h', _⟩, _⟩ := HT4.out.some_ (by omega); injection e' with e'; injection e' with e'; omega) _)
            clear s1 s2 s3 hfar
            show wpAny _ _ _ _ 1 _ _ _
            refine wpAny_next (i := 25) (by kernel_rfl) rfl rfl (store_c28 rfl rfl rfl rfl (HT4.out.rcell him) (HT4.out.rfz i) ?_)
            rw [addr_zero]
            refine wpAny_end (by kernel_rfl) (calm_normal ?_) _
            generalize w4.setCell ⟨gr, i, none⟩ (.slice (some ⟨g0, 0, none⟩) j j) = w5 at *
            go_wp2_with fail
            refine ⟨⟨i + 1, by go_num, by omega, Lib.hid ⟨fun l => if l = i then g0 else rs1 l, ?_, HN3.out, HN2.out⟩⟩, by simp [intOf]; omega⟩
            refine HN1.out.congr (fun l _ jj _ => ?_) (fun jj _ => by rw [HSE.out]) (fun l _ => by rw [HSE.out])
            rw [HE.out]
            by_cases hli : l = i
            · simp only [if_pos hli]
            · simp only [if_neg hli]; rw [HSE.out]
        · have him' : i = m := by omega
          subst him'
          clear him hi
          have HT := Lib.hid HJ.out.1; have HP := Lib.hid HJ.out.2.1; have HB := Lib.hid HJ.out.2.2
          clear HJ
          obtain ⟨S1, hS1⟩ : ∃ S1 : Tab, S1 = ⟨stT S r k i, S.G, S.b⟩ := ⟨_, rfl⟩
          rw [← hS1] at HT
          have HSE := Lib.hid hS1; clear hS1
          go_upto_region 15 with (fail)
-- %R15
          refine wp_region_join (kss := [[], [], [(1, 94)], [(2, 95)], [(3, 96)], [], [], [(6, 99)], [(7, 100)], [(8, 101)], [], [(9, 102), (10, 103)], [(11, 104)], [(4, 97), (5, 98), (12, 105)], [(0, 93)], [(14, 107)]]) [(0, .pointer (some ⟨p, 0, none⟩)), (6, .slice (some (⟨g6, 0, none⟩)) j j), (2, .int .i64 ((k : Int)))] [fun zz _ => zz = .pointer (some ⟨p, 0, none⟩), fun zz _ => zz = .pointer (some ⟨p, 0, none⟩), fun zz _ => zz = .pointer (some ⟨p, 0, none⟩), fun zz _ => zz = .pointer (some ⟨p, 3, none⟩), fun zz _ => zz = .slice (some (⟨gg, 0, none⟩)) j j, fun zz _ => zz = .slice (some (⟨g6, 0, none⟩)) j j, fun zz _ => zz = .pointer (some ⟨p, 0, none⟩), fun zz _ => zz = .pointer (some ⟨p, 0, none⟩), fun zz _ => zz = .pointer (some ⟨p, 3, none⟩), fun zz _ => zz = .slice (some (⟨gg, 0, none⟩)) j j, fun zz _ => zz = .int .i64 ((k : Int)), fun zz _ => zz = .pointer (some (Addr.add (⟨gg, 0, none⟩) (k * 3))), Rv (b) ((S1.G) k), fun v w' => ∃ g0 : Nat, v = .slice (some ⟨g0, 0, none⟩) j j ∧ RB w' g0 j (PN w' (b + (b + b) + 1) (fun l => S1.G l - S1.G k * (S.T r l / S.T r k))), fun zz _ => zz = .pointer (some ⟨p, 0, none⟩), fun zz _ => zz = .pointer (some ⟨p, 3, none⟩)] 16 [] (by kernel_rfl) (by kernel_rfl) ⟨rfl, rfl, rfl, trivial⟩ [false, false, false, false, false, false, false, false, false, false, false, false, false, false, false, false] ?_ ?_ ?_ ?_
          · exact fun i hi => absurd hi (by simp)
          · exact ⟨fun _ _ _ h _ => h, fun _ _ _ h _ => h, fun _ _ _ h _ => h, fun _ _ _ h _ => h, fun _ _ _ h _ => h, fun _ _ _ h _ => h, fun _ _ _ h _ => h, fun _ _ _ h _ => h, fun _ _ _ h _ => h, fun _ _ _ h _ => h, fun _ _ _ h _ => h, fun _ _ _ h _ => h, fun _ _ _ h hb => h.new hb, fun _ _ _ ⟨g0, h1, h2⟩ hb => ⟨g0, h1, h2.newN hb⟩, fun _ _ _ h _ => h, fun _ _ _ h _ => h, trivial⟩
          · refine ⟨?_, ?_, ?_, ?_, ?_, ?_, ?_, ?_, ?_, ?_, ?_, ?_, ?_, ?_, ?_, ?_, trivial⟩
            · exact fun aa ww hb he hd => ob_plain rfl (gives_move _ rfl ⟨he.1, Below.refl _ _⟩)
            · exact fun aa ww hb he hd => ob_plain rfl (gives_move _ rfl ⟨he.1, Below.refl _ _⟩)
            · exact fun aa ww hb he hd => ob_plain rfl (nil_c rfl hd.1)
            · exact fun aa ww hb he hd => ob_plain rfl (fld_tab rfl (by decide) hd.1)
            · exact fun aa ww hb he hd => ob_plain rfl (load_c28 rfl hd.1 (TabW.new HT.out hb).c3)
            · exact fun aa ww hb he hd => ob_plain rfl (gives_move _ rfl ⟨he.2.1, Below.refl _ _⟩)
            · exact fun aa ww hb he hd => ob_plain rfl (gives_move _ rfl ⟨he.1, Below.refl _ _⟩)
            · exact fun aa ww hb he hd => ob_plain rfl (nil_c rfl hd.1)
            · exact fun aa ww hb he hd => ob_plain rfl (fld_tab rfl (by decide) hd.1)
            · exact fun aa ww hb he hd => ob_plain rfl (load_c28 rfl hd.1 (TabW.new HT.out hb).c3)
            · exact fun aa ww hb he hd => ob_plain rfl (gives_move _ rfl ⟨he.2.2.1, Below.refl _ _⟩)
            · exact fun aa ww hb he hd => ob_plain rfl (idx_rs (by omega) rfl hd.1 hd.2.1)
            · exact fun aa ww hb he hd => ob_plain rfl (load_rn rfl hd.1 (Rs.of_rb (TabW.new HT.out hb).goal) (by omega))
            · exact fun aa ww hb he hd => ob_plain rfl (gives_comb (b := b) (bq := b) (f := S1.G) (g := fun l => S.T r l / S.T r k) (q := S1.G k) rfl hd.1 (Rs.of_rb (TabW.new HT.out hb).goal) hd.2.1 (Rs.of_rb (RB.newN HP.out hb)) hd.2.2.1.rw (by omega) (by omega) (by omega) hb1 (fun _ => rfl))
            · exact fun aa ww hb he hd => ob_plain rfl (nil_c rfl hd.1)
            · exact fun aa ww hb he hd => ob_plain rfl (fld_tab rfl (by decide) hd.1)
          intro vs w4 hb hR _
          have e108 : vs 15 = .pointer (some ⟨p, 3, none⟩) := hR 15 (by decide)
          have r106 := hR 13 (by decide)
          clear hR
          simp only [putsL, Nat.zero_add, Nat.reduceAdd, List.take_succ_cons, List.take_zero, Act.put, List.setIfInBounds_toArray, List.set_cons_zero, List.set_cons_succ]
          rw [e108]
          clear e108
-- %end R15
          obtain ⟨g0, e106, hr0⟩ := (show ∃ g0 : Nat, vs 13 = .slice (some ⟨g0, 0, none⟩) j j ∧ RB w4 g0 j (PN w4 (b + (b + b) + 1) (fun l => S1.G l - S1.G k * (S.T r l / S.T r k))) from r106)
          rw [e106]
          clear r106 e106
          have HT4 := Lib.hid (HT.out.new hb)
          have HP4 := Lib.hid (HP.out.newN hb)
          have HB4 := Lib.hid (show Below base w w4 from HB.out.trans (hb.mono HT.out.low.2.1))
          have HR0 := Lib.hid (hr0.mono (Q := PN w4 b (S.piv r k).G) (fun l u hl h => by
            have h' : Rv (b + (b + b) + 1) (S1.G l - S1.G k * (S.T r l / S.T r k)) u w4 := h
            have e1 : S1.G l - S1.G k * (S.T r l / S.T r k) = (S.piv r k).G l := by rw [HSE.out]; rfl
            rw [e1] at h'
            exact h'.fit (HFG.out l hl).1 (HFG.out l hl).2 hb1))
          clear hr0 hb
          obtain ⟨s1, s2⟩ := HT4.out.setGoal HR0.out
          have HN1 := Lib.hid s1
          have HN2 := Lib.hid (show Below base w (w4.setCell ⟨p, 3, none⟩ (.slice (some ⟨g0, 0, none⟩) j j)) from HB4.out.setCell (p := ⟨p, 3, none⟩) HT4.out.low.1 _)
          have kp := KeepsN.setCell HT4.out.c3 (by intro x; simp) (.slice (some ⟨g0, 0, none⟩) j j)
          have HN3 := Lib.hid (HP4.out.far (p := ⟨p, 3, none⟩) (by obtain ⟨cs, hb', _⟩ := HP4.out; exact Blk.ne_ hb' HT4.out.blk (by decide)) (u := .slice (some ⟨g0, 0, none⟩) j j) (Q := PN (w4.setCell ⟨p, 3, none⟩ (.slice (some ⟨g0, 0, none⟩) j j)) b (fun l => S.T r l / S.T r k)) (fun _ v _ hv => PN.keep hv kp))
          clear s1 s2 kp
          show wpAny _ _ _ _ 1 _ _ _
          refine wpAny_next (i := 16) (by kernel_rfl) rfl rfl (store_c28 rfl rfl rfl rfl HT4.out.c3 (HT4.out.blk.frozen 3) ?_)
          refine wpAny_end (by kernel_rfl) (calm_normal ?_) _
          generalize w4.setCell ⟨p, 3, none⟩ (.slice (some ⟨g0, 0, none⟩) j j) = w5 at *
          have c2 := HN1.out.c2; have pl := HN1.out.blk.lt
          have rc := HN1.out.rcell hr; have rf := HN1.out.rfz r
          rw [addr_zero] at rc rf
          have j1 : (0 : Int) ≤ (r : Int) := by omega
          have j2 : (r : Int) < (i : Int) := by omega
          go_upto_region 17 with (fail)
          obtain ⟨s1, s2, s3⟩ := HN1.out.setRow hr HN3.out
          have HM1 := Lib.hid s1
          have HM2 := Lib.hid (show Below base w (w5.setCell ⟨gr, r, none⟩ (.slice (some ⟨g6, 0, none⟩) j j)) from HN2.out.setCell (p := ⟨gr, r, none⟩) (by show base ≤ gr; obtain ⟨⟨g', e', h', _⟩, _⟩ := HN1.out.some_ (by omega); injection e' with e'; injection e' with e'; omega) _)
          clear s1 s2 s3 c2 pl rc rf
          generalize w5.setCell ⟨gr, r, none⟩ (.slice (some ⟨g6, 0, none⟩) j j) = w6 at *
          have c4 := HM1.out.c4; have pl := HM1.out.blk.lt
          have bc := HM1.out.bcell hr; have bf := HM1.out.bas.frozenAt r
          rw [addr_zero] at bc
          go_wp2_with fail
          obtain ⟨s1, s2⟩ := HM1.out.setBas (k := k) hr
          refine bodyPost_ret (v := .tuple #[]) (results_none Try.results73 _ _ _) rfl ?_
          refine ⟨g0, _, rfl, s1.congr (fun l hl jj hjj => ?_) (fun jj _ => rfl) (fun l _ => ?_), HM2.out.setCell (p := ⟨gb, r, none⟩) (by show base ≤ gb; obtain ⟨_, g', e', h', _⟩ := HM1.out.some_ (by omega); injection e' with e'; injection e' with e'; omega) _⟩
          · show (if l = r then (fun l => S.T r l / S.T r k) else S1.T l) jj = _
            by_cases hlr : l = r
            · rw [if_pos hlr, hlr, piv_row]
            · rw [if_neg hlr, HSE.out]
              show stT S r k i l jj = _
              simp [stT, hl, hlr]
          · rw [HSE.out]; rfl
end Go.Proofs.Ytamcibmjpmibdaa
namespace Go.Proofs.Ytamcibmjpmibdaa
open Go.RowKit
set_option linter.unusedVariables false
set_option linter.unusedSimpArgs false

/-- The row that leaves, among the first i. -/
structure Lv (R : Nat) (S : Tab) (k i r : Nat) : Prop where
  lt : r < i
  pos : 0 < S.T r k
  least : ∀ l, l < i → 0 < S.T l k → S.T r R / S.T r k ≤ S.T l R / S.T l k ∧ (S.T l R / S.T l k ≤ S.T r R / S.T r k → S.b r ≤ S.b l)
theorem Lv.first {R : Nat} {S : Tab} {k i : Nat} (h : ∀ l, l < i → S.T l k ≤ 0) (hp : 0 < S.T i k) : Lv R S k (i + 1) i := by
  refine ⟨by omega, hp, fun l hl hlp => ?_⟩
  by_cases hli : l = i
  · subst hli; exact ⟨Rat.le_refl, fun _ => Nat.le_refl _⟩
  · have := h l (by omega); grind
theorem Lv.skip {R : Nat} {S : Tab} {k i r : Nat} (h : Lv R S k i r) (hp : S.T i k ≤ 0) : Lv R S k (i + 1) r := by
  refine ⟨by have := h.lt; omega, h.pos, fun l hl hlp => ?_⟩
  by_cases hli : l = i
  · subst hli; grind
  · exact h.least l (by omega) hlp
theorem Lv.less {R : Nat} {S : Tab} {k i r : Nat} (h : Lv R S k i r) (hp : 0 < S.T i k) (hq : S.T i R / S.T i k < S.T r R / S.T r k) : Lv R S k (i + 1) i := by
  refine ⟨by omega, hp, fun l hl hlp => ?_⟩
  by_cases hli : l = i
  · subst hli; exact ⟨Rat.le_refl, fun _ => Nat.le_refl _⟩
  · obtain ⟨h1, h2⟩ := h.least l (by omega) hlp
    exact ⟨by grind, fun h3 => by grind⟩
theorem Lv.tie {R : Nat} {S : Tab} {k i r : Nat} (h : Lv R S k i r) (hp : 0 < S.T i k) (hq : S.T i R / S.T i k = S.T r R / S.T r k) (hb : S.b i < S.b r) : Lv R S k (i + 1) i := by
  refine ⟨by omega, hp, fun l hl hlp => ?_⟩
  by_cases hli : l = i
  · subst hli; exact ⟨Rat.le_refl, fun _ => Nat.le_refl _⟩
  · obtain ⟨h1, h2⟩ := h.least l (by omega) hlp
    rw [hq]
    exact ⟨h1, fun h3 => by have := h2 h3; omega⟩
theorem Lv.keep {R : Nat} {S : Tab} {k i r : Nat} (h : Lv R S k i r) (hq : S.T r R / S.T r k < S.T i R / S.T i k ∨ (S.T i R / S.T i k = S.T r R / S.T r k ∧ ¬ S.b i < S.b r)) : Lv R S k (i + 1) r := by
  refine ⟨by have := h.lt; omega, h.pos, fun l hl hlp => ?_⟩
  by_cases hli : l = i
  · subst hli
    rcases hq with h1 | ⟨h1, h2⟩
    · exact ⟨by grind, fun h3 => by grind⟩
    · rw [h1]; exact ⟨Rat.le_refl, fun _ => by omega⟩
  · exact h.least l (by omega) hlp
theorem sign_le {x : Rat} : decide (x.num.sign ≤ 0) = decide (x ≤ 0) := by
  rcases sign_cases x with ⟨h1, h2⟩ | ⟨h1, h2⟩ | ⟨h1, h2⟩ <;> rw [h2]
  · rw [decide_eq_true (show x ≤ 0 by grind)]; rfl
  · rw [decide_eq_true (show x ≤ 0 by grind)]; rfl
  · rw [decide_eq_false (show ¬ x ≤ 0 by grind)]; rfl
theorem Bx.rb {b g : Nat} {x : Rat} {w : World} (h : Bx b x g w) : RB w g 1 (fun _ v => Rw b x v w) := by
  obtain ⟨s, A, n, c, B, m, d, h1, h2⟩ := h
  refine ⟨_, h1, by simp, fun j hj => ?_⟩
  obtain rfl : j = 0 := by omega
  exact ⟨s, A, n, c, B, m, d, rfl, rfl, rfl, s, A, n, c, B, m, d, rfl, h2⟩
theorem Zx.rb {B g : Nat} {w : World} (h : Zx B g w) : RB w g 1 (fun _ _ => True) := by
  refine ⟨_, h.2, by simp, fun j hj => ?_⟩
  obtain rfl : j = 0 := by omega
  exact ⟨false, none, 0, 0, none, 0, 0, rfl, rfl, rfl, trivial⟩
theorem RB.bx {b g : Nat} {x : Rat} {w : World} (h : RB w g 1 (fun _ v => Rw b x v w)) : Bx b x g w := by
  obtain ⟨cs, h1, h2, h3⟩ := h
  obtain ⟨s, A, k, c, B, m, d, q0, q1, q2, q3⟩ := h3 0 (by omega)
  have e : cs = #[.bool s, .slice A k c, .slice B m d] := by
    have hl : cs.toList.length = 3 := by rw [h2]
    apply Array.ext'
    match hcs : cs.toList, hl with
    | [a0, a1, a2], _ =>
      rw [hcs] at q0 q1 q2
      simp at q0 q1 q2
      rw [q0, q1, q2]
  subst e
  obtain ⟨s', A', n', c', B', m', d', e, h⟩ := q3
  injection e with e; injection e with e; injection e with e0 e; injection e with e1 e; injection e with e2 _
  injection e0 with e0; injection e1 with e1 e1' e1''; injection e2 with e2 e2' e2''
  subst e0 e1 e1' e1'' e2 e2' e2''
  exact ⟨_, _, _, _, _, _, _, h1, h⟩
theorem RB.grown {w w' : World} {g g' n : Nat} {P Q : Nat → Value → Prop} (h : RB w g n P) (hg : w.grownBy w' (some g')) (hne : g ≠ g') (hq : ∀ j v, j < n → P j v → Q j v) : RB w' g n Q := by
  obtain ⟨cs, h1, h2⟩ := h
  exact ⟨cs, h1.grown hg (fun e => hne (by injection e)), h2.mono hq⟩
/-- One step of a region that leaves the world alone. -/
theorem still_val {ops : Array Oper} {o : Oper} {rest : List Oper} {a : Act} {w : World} {Q : Act → Prop} {v : Value} (hg : o.guard = none) (h : (execOp a.eval o).run Try.prog w = .ok (.value v) w) (hK : wpStill Try.prog ops w Q rest (a.put o.dst v)) : wpStill Try.prog ops w Q (o :: rest) a := by
  unfold wpStill
  rw [if_pos (by simp [Region.wanted, hg])]
  unfold Oper.still
  rw [h]
  exact ⟨rfl, hK⟩
/-- The load of a boxed Rat, exactly. -/
theorem exec_bx {w : World} {b g : Nat} {x : Rat} (h : Bx b x g w) : ∃ v, Rw b x v w ∧ ∀ {o : Oper} {a : Act} {t : Tmp}, o.op = .load 41 (.tmp t) → tv a t = .pointer (some ⟨g, 0, none⟩) → (execOp a.eval o).run Try.prog w = .ok (.value v) w := by
  obtain ⟨s, A, n, c, B, m, d, h1, h⟩ := h
  refine ⟨_, ⟨s, A, n, c, B, m, d, rfl, h⟩, fun {o a t} ho ht => ?_⟩
  have ht' : a.eval (.tmp t) = .pointer (some ⟨g, 0, none⟩) := ht
  unfold execOp
  rw [ho]
  simp only [ht', Instr.loadAt, Instr.sureAddr, Sem.run_bind, Sem.run_pure, Result.andThen_ok, run_loadVar_row w g _ _ _ (0, 0) _ h1 Try.underlying41 rfl (by kernel_rfl)]
def LvRet (m R : Nat) (S : Tab) (k : Nat) (w : World) (e : Ending) (w' : World) : Prop := ∃ z : Int, e = .returned (.int .i64 z) ∧ Below w.heap.size w w' ∧ ((z = -1 ∧ ∀ i, i < m → S.T i k ≤ 0) ∨ ∃ r : Nat, z = (r : Int) ∧ Lv R S k m r)
set_option maxRecDepth 100000 in
set_option maxHeartbeats 8000000 in
theorem leaving_any (base p n m N b gg cr cb k : Nat) (Ar Ab : Option Addr) (rs : Nat → Nat) (S : Tab) (w : World) (hT : TabW base w p n m N b gg Ar cr Ab cb rs S) (hk : k < N) (hN2 : N ≤ 1000) (hb0 : b ≤ 1000) (hb1 : 1 ≤ b) (R : Nat) (hR : R = n + m + 1) :
    Calls Try.prog 75 #[.pointer (some ⟨p, 0, none⟩), .int .i64 k] w (LvRet m R S k w) := by
  have HNn := Lib.hid hT.low.2.2
  have hmm : m ≤ 1000 := by have := hT.low.2.2; omega
  have hnm : n ≤ 1000 := by have := hT.low.2.2; omega
  have HT0 := Lib.hid hT; clear hT
  have hRN : n + m + 1 < N := by have := HNn.out; omega
  have HRR := Lib.hid hR; clear hR
  go_enter Try.func75, Try.ntmps75
  go_upto_region 3 with (fail)
  have HB0 := Lib.hid (al w (.cells #[.bool false, .slice none 0 0, .slice none 0 0] 41))
  have HZ0 := Lib.hid (Zx.rb (show Zx w.heap.size w.heap.size (w.alloc (.cells #[.bool false, .slice none 0 0, .slice none 0 0] 41)) from ⟨Nat.le_refl _, TB.made w _ _ _ _⟩))
  obtain ⟨g6, hg6⟩ : ∃ g6, g6 = w.heap.size := ⟨_, rfl⟩
  have HG6 := Lib.hid hg6
  rw [← hg6] at HZ0 ⊢
  clear hg6
  generalize w.alloc (.cells #[.bool false, .slice none 0 0, .slice none 0 0] 41) = W0 at *
  have HT := Lib.hid (HT0.out.new HB0.out)
  have c2 := HT.out.c2; have pl := HT.out.blk.lt
  go_wp2_with fail
  clear c2 pl HT
  go_loopw [5, 17] (fun bv iv wr => ∃ (z : Int) (i : Nat), bv = .int .i64 z ∧ iv = .int .i64 i ∧ i ≤ m ∧ Hid (Below w.heap.size w wr ∧ ((z = -1 ∧ (∀ l, l < i → S.T l k ≤ 0) ∧ RB wr g6 1 (fun _ _ => True)) ∨ ∃ r : Nat, z = (r : Int) ∧ Lv R S k i r ∧ Bx (b + b) (S.T r R / S.T r k) g6 wr))) (fun _ iv _ => m - (intOf iv).toNat)
  case atStart => exact ⟨-1, 0, rfl, rfl, Nat.zero_le _, Lib.hid ⟨HB0.out, .inl ⟨rfl, fun l hl => absurd hl (by omega), HZ0.out⟩⟩⟩
  case round =>
    obtain ⟨z, i, rfl, rfl, hi, HI⟩ := hrel
    by_cases him : i < m
    · obtain ⟨⟨gr, rfl, -, -⟩, gb, rfl, -, -⟩ := HT0.out.some_ (by omega)
      have HT := Lib.hid (HT0.out.new HI.out.1)
      have HB := Lib.hid HI.out.1
      have HS := Lib.hid HI.out.2
      clear HI
      have rc := HT.out.rcell him
      rw [addr_zero] at rc
      have i1 : (0 : Int) ≤ (i : Int) := by omega
      have i2 : (i : Int) < (m : Int) := by omega
      by_cases hp : S.T i k ≤ 0
      · have hs : decide ((S.T i k).num.sign ≤ 0) = true := sign_le.trans (decide_eq_true hp)
        go_upto_region 6 with (fail)
-- %R6a
        refine wp_region_seq (kss := [[], [], [(0, 22), (1, 23)], [(2, 24)], [(3, 25)], [(4, 26)]]) [(8, .slice (some (⟨rs i, 0, none⟩)) N N), (1, .int .i64 ((k : Int)))] [fun zz _ => zz = .slice (some (⟨rs i, 0, none⟩)) N N, fun zz _ => zz = .int .i64 ((k : Int)), fun zz _ => zz = .pointer (some (Addr.add (⟨rs i, 0, none⟩) (k * 3))), Rv (b) ((S.T i) k), fun zz _ => zz = .int .i64 (((S.T i) k).num.sign), fun zz _ => zz = .bool true] (by kernel_rfl) ⟨rfl, rfl, trivial⟩ ?_ ?_ ?_
        · exact ⟨fun _ _ _ h _ => h, fun _ _ _ h _ => h, fun _ _ _ h _ => h, fun _ _ _ h hb => h.new hb, fun _ _ _ h _ => h, fun _ _ _ h _ => h, trivial⟩
        · refine ⟨?_, ?_, ?_, ?_, ?_, ?_, trivial⟩
          · exact fun aa ww hb he hd => ob_plain rfl (gives_move _ rfl ⟨he.1, Below.refl _ _⟩)
          · exact fun aa ww hb he hd => ob_plain rfl (gives_move _ rfl ⟨he.2.1, Below.refl _ _⟩)
          · exact fun aa ww hb he hd => ob_plain rfl (idx_rs (by omega) rfl hd.1 hd.2.1)
          · exact fun aa ww hb he hd => ob_plain rfl (load_rn rfl hd.1 (Rs.of_rb ((TabW.new HT.out hb).row (by omega))) (by omega))
          · exact fun aa ww hb he hd => ob_plain rfl (gives_call1 _ _ _ rfl (by kernel_rfl) (sign_v (hd.1.rw)))
          · exact fun aa ww hb he hd => ob_plain rfl (gives_le_int (((S.T i) k).num.sign) 0 .i64 _ _ _ _ rfl hd.1 rfl ⟨congrArg Value.bool (hs), Below.refl _ _⟩)
        intro vs w3 hb hR
        have e27 : vs 5 = .bool true := hR 5 (by decide)
        clear hR
        simp only [putsL, Nat.zero_add, Nat.reduceAdd, List.take_succ_cons, List.take_zero, Act.put, List.setIfInBounds_toArray, List.set_cons_zero, List.set_cons_succ]
        rw [e27]
        clear e27
-- %end R6a
        go_wp2_with fail
        refine ⟨⟨z, i + 1, rfl, by go_num, by omega, Lib.hid ⟨bthen HB.out hb HB.out.size, ?_⟩⟩, by simp [intOf]; omega⟩
        rcases HS.out with ⟨h1, h2, h3⟩ | ⟨r, h1, h2, h3⟩
        · refine .inl ⟨h1, fun l hl => ?_, h3.below hb (fun _ _ _ _ => trivial)⟩
          by_cases hli : l = i
          · rw [hli]; exact hp
          · exact h2 l (by omega)
        · exact .inr ⟨r, h1, h2.skip hp, h3.new hb⟩
      · have hs : decide ((S.T i k).num.sign ≤ 0) = false := sign_le.trans (decide_eq_false hp)
        have hpos : 0 < S.T i k := by grind
        go_upto_region 6 with (fail)
-- %R6b
        refine wp_region_seq (kss := [[], [], [(0, 22), (1, 23)], [(2, 24)], [(3, 25)], [(4, 26)]]) [(8, .slice (some (⟨rs i, 0, none⟩)) N N), (1, .int .i64 ((k : Int)))] [fun zz _ => zz = .slice (some (⟨rs i, 0, none⟩)) N N, fun zz _ => zz = .int .i64 ((k : Int)), fun zz _ => zz = .pointer (some (Addr.add (⟨rs i, 0, none⟩) (k * 3))), Rv (b) ((S.T i) k), fun zz _ => zz = .int .i64 (((S.T i) k).num.sign), fun zz _ => zz = .bool false] (by kernel_rfl) ⟨rfl, rfl, trivial⟩ ?_ ?_ ?_
        · exact ⟨fun _ _ _ h _ => h, fun _ _ _ h _ => h, fun _ _ _ h _ => h, fun _ _ _ h hb => h.new hb, fun _ _ _ h _ => h, fun _ _ _ h _ => h, trivial⟩
        · refine ⟨?_, ?_, ?_, ?_, ?_, ?_, trivial⟩
          · exact fun aa ww hb he hd => ob_plain rfl (gives_move _ rfl ⟨he.1, Below.refl _ _⟩)
          · exact fun aa ww hb he hd => ob_plain rfl (gives_move _ rfl ⟨he.2.1, Below.refl _ _⟩)
          · exact fun aa ww hb he hd => ob_plain rfl (idx_rs (by omega) rfl hd.1 hd.2.1)
          · exact fun aa ww hb he hd => ob_plain rfl (load_rn rfl hd.1 (Rs.of_rb ((TabW.new HT.out hb).row (by omega))) (by omega))
          · exact fun aa ww hb he hd => ob_plain rfl (gives_call1 _ _ _ rfl (by kernel_rfl) (sign_v (hd.1.rw)))
          · exact fun aa ww hb he hd => ob_plain rfl (gives_le_int (((S.T i) k).num.sign) 0 .i64 _ _ _ _ rfl hd.1 rfl ⟨congrArg Value.bool (hs), Below.refl _ _⟩)
        intro vs w3 hb hR
        have e27 : vs 5 = .bool false := hR 5 (by decide)
        clear hR
        simp only [putsL, Nat.zero_add, Nat.reduceAdd, List.take_succ_cons, List.take_zero, Act.put, List.setIfInBounds_toArray, List.set_cons_zero, List.set_cons_succ]
        rw [e27]
        clear e27
-- %end R6b
        go_upto_region 7 with (fail)
        replace HT := Lib.hid (HT.out.new hb)
        replace HB := Lib.hid (bthen HB.out hb HB.out.size)
        have HS3 := Lib.hid (show ((z = -1 ∧ (∀ l, l < i → S.T l k ≤ 0) ∧ RB w3 g6 1 (fun _ _ => True)) ∨ ∃ r : Nat, z = (r : Int) ∧ Lv R S k i r ∧ Bx (b + b) (S.T r R / S.T r k) g6 w3) by
          rcases HS.out with ⟨h1, h2, h3⟩ | ⟨r, h1, h2, h3⟩
          · exact .inl ⟨h1, h2, h3.below hb (fun _ _ _ _ => trivial)⟩
          · exact .inr ⟨r, h1, h2, h3.new hb⟩)
        clear HS hb rc hs
        have hne : S.T i k ≠ 0 := by grind
-- %R7
        refine wp_region_join (kss := [[], [], [(1, 30)], [(0, 29), (2, 31)], [(3, 32)], [], [], [(5, 34), (6, 35)], [(7, 36)], [(4, 33), (8, 37)], [(9, 38)], [(10, 28)], [(10, 28)], []]) [(8, .slice (some (⟨rs i, 0, none⟩)) N N), (0, .pointer (some ⟨p, 0, none⟩)), (1, .int .i64 ((k : Int)))] [fun zz _ => zz = .slice (some (⟨rs i, 0, none⟩)) N N, fun zz _ => zz = .pointer (some ⟨p, 0, none⟩), fun zz _ => zz = .int .i64 (((n + m + 1 : Nat) : Int)), fun zz _ => zz = .pointer (some (Addr.add (⟨rs i, 0, none⟩) ((n + m + 1) * 3))), Rv (b) ((S.T i) (n + m + 1)), fun zz _ => zz = .slice (some (⟨rs i, 0, none⟩)) N N, fun zz _ => zz = .int .i64 ((k : Int)), fun zz _ => zz = .pointer (some (Addr.add (⟨rs i, 0, none⟩) (k * 3))), Rv (b) ((S.T i) k), Dv (b + b) (((S.T i) (n + m + 1)) / ((S.T i) k)), Dv (b + b) (((S.T i) (n + m + 1)) / ((S.T i) k)), Rv (b + b) (((S.T i) (n + m + 1)) / ((S.T i) k)), fun zz _ => zz = .int .i64 0, Zb w3.heap.size] 14 [12] (by kernel_rfl) (by kernel_rfl) ⟨rfl, rfl, rfl, trivial⟩ [false, false, false, false, false, false, false, false, false, false, false, false, false, true] ?_ ?_ ?_ ?_
        · intro i hi
          simp only [List.mem_cons, List.not_mem_nil, or_false] at hi
          subst hi
          exact ⟨rfl, fun o ks ho hk => by cases ho; cases hk; exact fun a w _ _ hd => late_e rfl rfl hd.1⟩
        · exact ⟨fun _ _ _ h _ => h, fun _ _ _ h _ => h, fun _ _ _ h _ => h, fun _ _ _ h _ => h, fun _ _ _ h hb => h.new hb, fun _ _ _ h _ => h, fun _ _ _ h _ => h, fun _ _ _ h _ => h, fun _ _ _ h hb => h.new hb, fun _ _ _ h hb => h.new hb, fun _ _ _ h hb => h.new hb, fun _ _ _ h hb => h.new hb, fun _ _ _ h _ => h, fun _ _ _ h hb => Zb.new h hb, trivial⟩
        · refine ⟨?_, ?_, ?_, ?_, ?_, ?_, ?_, ?_, ?_, ?_, ?_, ?_, ?_, ?_, trivial⟩
          · exact fun aa ww hb he hd => ob_plain rfl (gives_move _ rfl ⟨he.1, Below.refl _ _⟩)
          · exact fun aa ww hb he hd => ob_plain rfl (gives_move _ rfl ⟨he.2.1, Below.refl _ _⟩)
          · exact fun aa ww hb he hd => ob_plain rfl (gives_call1 _ _ _ rfl (by kernel_rfl) (by rw [show aa.eval (.tmp 30) = .pointer (some ⟨p, 0, none⟩) from hd.1]; exact rv_one (right_any (TabW.new HT.out hb).blk (by omega) (by omega))))
          · exact fun aa ww hb he hd => ob_plain rfl (idx_rs (by omega) rfl hd.1 hd.2.1)
          · exact fun aa ww hb he hd => ob_plain rfl (load_rn rfl hd.1 (Rs.of_rb ((TabW.new HT.out hb).row (by omega))) (by omega))
          · exact fun aa ww hb he hd => ob_plain rfl (gives_move _ rfl ⟨he.1, Below.refl _ _⟩)
          · exact fun aa ww hb he hd => ob_plain rfl (gives_move _ rfl ⟨he.2.2.1, Below.refl _ _⟩)
          · exact fun aa ww hb he hd => ob_plain rfl (idx_rs (by omega) rfl hd.1 hd.2.1)
          · exact fun aa ww hb he hd => ob_plain rfl (load_rn rfl hd.1 (Rs.of_rb ((TabW.new HT.out hb).row (by omega))) (by omega))
          · exact fun aa ww hb he hd => ob_plain rfl (gives_call2 _ _ _ _ rfl (by kernel_rfl) (div_v (hd.1.rw) (hd.2.1.rw) (by omega) hne))
          · exact fun aa ww hb he hd => ob_plain rfl (gives_move _ rfl ⟨hd.1, Below.refl _ _⟩)
          · exact fun aa ww hb he hd => ob_plain rfl (ext_q rfl hd.1)
          · exact fun aa ww hb he hd => ob_plain rfl (ext_e rfl hd.1)
          · exact fun aa ww hb he hd => ⟨by simp [Region.wanted], alloc_rat rfl hb⟩
        intro vs w4 hb hR _
        have r39 : Rv (b + b) (((S.T i) (n + m + 1)) / ((S.T i) k)) (vs 11) w4 := hR 11 (by decide)
        have r9 : Zb w3.heap.size (vs 13) w4 := hR 13 (by decide)
        have e40 : vs 12 = .int .i64 0 := hR 12 (by decide)
        clear hR
        simp only [putsL, Nat.zero_add, Nat.reduceAdd, List.take_succ_cons, List.take_zero, Act.put, List.setIfInBounds_toArray, List.set_cons_zero, List.set_cons_succ]
        rw [e40]
        clear e40
-- %end R7
        obtain ⟨g9, k9, z9⟩ := r9
        rw [k9]
        clear k9 hne
        show wpAny _ _ _ _ 2 _ _ _
        refine wpAny_next (i := 14) (by kernel_rfl) rfl rfl (store_row (v := vs 11) (g := g9) (j := 0) (n := 1) (b := b + b) (x := S.T i (n + m + 1) / S.T i k) rfl rfl rfl rfl z9.rb (by omega) r39.rw ?_)
        intro w5 kp hg hsz hR5
        have HX9 := Lib.hid (RB.bx (hR5 (fun _ v => Rw (b + b) (S.T i (n + m + 1) / S.T i k) v w5) (fun l u hl hne _ => absurd hl (by omega)) (r39.rw.keepN kp)))
        have hlow : w.heap.size ≤ w3.heap.size := HB.out.size
        have HB5 := Lib.hid (show Below w.heap.size w w5 from (bthen HB.out hb hlow).grown hg (bthen HB.out hb hlow).size (fun x hx => by cases hx; have := z9.1; omega))
        have HS5 := Lib.hid (show ((z = -1 ∧ (∀ l, l < i → S.T l k ≤ 0) ∧ RB w5 g6 1 (fun _ _ => True)) ∨ ∃ r : Nat, z = (r : Int) ∧ Lv R S k i r ∧ Bx (b + b) (S.T r R / S.T r k) g6 w5) by
          rcases HS3.out with ⟨h1, h2, h3⟩ | ⟨r, h1, h2, h3⟩
          · have hl := h3.lt
            exact .inl ⟨h1, h2, (h3.below hb (Q := fun _ _ => True) (fun _ _ _ _ => trivial)).grown hg (by have := z9.1; omega) (fun _ _ _ _ => trivial)⟩
          · have hl := h3.lt
            exact .inr ⟨r, h1, h2, (h3.new hb).kept hg (by have := z9.1; omega) kp⟩)
        rw [← HRR.out] at HX9
        clear kp hg hsz hR5 hb r39 z9 hlow HS3 HT HB
        refine wpAny_next (i := 15) (by kernel_rfl) rfl rfl (wp_assign 10 (.tmp 40) rfl rfl (.int .i64 0) rfl ?_)
        simp only [Act.put, List.setIfInBounds_toArray, List.set_cons_zero, List.set_cons_succ]
        refine wpAny_end (by kernel_rfl) (calm_normal ?_) _
        rcases HS5.out with ⟨h1, h2, h3⟩ | ⟨r, h1, h2, h3⟩
        · have HZ := Lib.hid h3
          have HLV := Lib.hid (Lv.first (R := R) h2 hpos)
          have tz : decide (z ≥ 0) = false := by rw [h1]; rfl
          have HT := Lib.hid (HT0.out.new HB5.out)
          clear HS5 h1 h2 h3
          go_upto_region 11 with (fail)
-- %R11z
          refine wp_region_each (kss := [[], [(0, 46)], [(1, 47)], [(2, 48)], [(2, 48), (3, 49)], [(2, 48), (4, 50)], [(5, 51)], [(5, 51), (6, 52)], [(5, 51), (7, 53)], [(5, 51), (8, 54)], [(5, 51)], [(5, 51), (9, 55), (10, 56)], [(5, 51), (11, 57)], [(5, 51)], [(5, 51), (13, 59)], [(5, 51), (14, 60)], [(5, 51), (15, 61)], [(5, 51)], [(5, 51), (16, 62), (17, 63)], [(5, 51), (18, 64)], [(5, 51), (12, 58), (19, 65)], [(2, 48), (5, 51), (20, 66)], [(2, 48), (21, 67)]]) [(11, .int .i64 (-1)), (0, .pointer (some ⟨p, 0, none⟩)), (7, .int .i64 ((i : Int))), (5, .int .i64 z)] [fun zz _ => zz = .int .i64 (-1), fun zz _ => zz = .bool true, fun zz _ => zz = .bool true, fun zz _ => zz = undef, fun zz _ => zz = undef, fun zz _ => zz = undef, fun zz _ => zz = undef, fun zz _ => zz = undef, fun zz _ => zz = undef, fun zz _ => zz = undef, fun zz _ => zz = undef, fun zz _ => zz = undef, fun zz _ => zz = undef, fun zz _ => zz = undef, fun zz _ => zz = undef, fun zz _ => zz = undef, fun zz _ => zz = undef, fun zz _ => zz = undef, fun zz _ => zz = undef, fun zz _ => zz = undef, fun zz _ => zz = undef, fun zz _ => zz = undef, fun zz _ => zz = .bool true] (by kernel_rfl) (by kernel_rfl) ⟨rfl, rfl, rfl, rfl, trivial⟩ ?_ ?_ ?_
          · exact ⟨fun _ _ _ h _ => h, fun _ _ _ h _ => h, fun _ _ _ h _ => h, fun _ _ _ h _ => h, fun _ _ _ h _ => h, fun _ _ _ h _ => h, fun _ _ _ h _ => h, fun _ _ _ h _ => h, fun _ _ _ h _ => h, fun _ _ _ h _ => h, fun _ _ _ h _ => h, fun _ _ _ h _ => h, fun _ _ _ h _ => h, fun _ _ _ h _ => h, fun _ _ _ h _ => h, fun _ _ _ h _ => h, fun _ _ _ h _ => h, fun _ _ _ h _ => h, fun _ _ _ h _ => h, fun _ _ _ h _ => h, fun _ _ _ h _ => h, fun _ _ _ h _ => h, fun _ _ _ h _ => h, trivial⟩
          · refine ⟨?_, ?_, ?_, ?_, ?_, ?_, ?_, ?_, ?_, ?_, ?_, ?_, ?_, ?_, ?_, ?_, ?_, ?_, ?_, ?_, ?_, ?_, ?_, trivial⟩
            · exact fun aa ww hb he hd => ob_plain rfl (gives_move _ rfl ⟨he.1, Below.refl _ _⟩)
            · exact fun aa ww hb he hd => ob_plain rfl (gives_lt_int (-1) 0 .i64 _ _ _ _ rfl hd.1 rfl ⟨congrArg Value.bool (by decide), Below.refl _ _⟩)
            · exact fun aa ww hb he hd => ob_plain rfl (gives_move _ rfl ⟨hd.1, Below.refl _ _⟩)
            · exact fun aa ww hb he hd => ob_off 48 rfl (by kernel_rfl) hd.1 rfl
            · exact fun aa ww hb he hd => ob_off 48 rfl (by kernel_rfl) hd.1 rfl
            · exact fun aa ww hb he hd => ob_off 48 rfl (by kernel_rfl) hd.1 rfl
            · exact fun aa ww hb he hd => ob_undef 51 rfl (by kernel_rfl) hd.1 rfl
            · exact fun aa ww hb he hd => ob_undef 51 rfl (by kernel_rfl) hd.1 rfl
            · exact fun aa ww hb he hd => ob_undef 51 rfl (by kernel_rfl) hd.1 rfl
            · exact fun aa ww hb he hd => ob_undef 51 rfl (by kernel_rfl) hd.1 rfl
            · exact fun aa ww hb he hd => ob_undef 51 rfl (by kernel_rfl) hd.1 rfl
            · exact fun aa ww hb he hd => ob_undef 51 rfl (by kernel_rfl) hd.1 rfl
            · exact fun aa ww hb he hd => ob_undef 51 rfl (by kernel_rfl) hd.1 rfl
            · exact fun aa ww hb he hd => ob_undef 51 rfl (by kernel_rfl) hd.1 rfl
            · exact fun aa ww hb he hd => ob_undef 51 rfl (by kernel_rfl) hd.1 rfl
            · exact fun aa ww hb he hd => ob_undef 51 rfl (by kernel_rfl) hd.1 rfl
            · exact fun aa ww hb he hd => ob_undef 51 rfl (by kernel_rfl) hd.1 rfl
            · exact fun aa ww hb he hd => ob_undef 51 rfl (by kernel_rfl) hd.1 rfl
            · exact fun aa ww hb he hd => ob_undef 51 rfl (by kernel_rfl) hd.1 rfl
            · exact fun aa ww hb he hd => ob_undef 51 rfl (by kernel_rfl) hd.1 rfl
            · exact fun aa ww hb he hd => ob_undef 51 rfl (by kernel_rfl) hd.1 rfl
            · exact fun aa ww hb he hd => ob_off 48 rfl (by kernel_rfl) hd.1 rfl
            · exact fun aa ww hb he hd => ob_plain rfl (gives_pick true _ _ _ rfl hd.1 ⟨rfl, Below.refl _ _⟩)
          intro vs w8 hb hR
          have e68 : vs 22 = .bool true := hR 22 (by decide)
          clear hR
          simp only [putsL, Nat.zero_add, Nat.reduceAdd, List.take_succ_cons, List.take_zero, Act.put, List.setIfInBounds_toArray, List.set_cons_zero, List.set_cons_succ]
          rw [e68]
          clear e68
-- %end R11z
          go_upto_region 12 with (fail)
          replace HB5 := Lib.hid (bthen HB5.out hb HB5.out.size)
          replace HX9 := Lib.hid (HX9.out.new hb)
          have HX6 := Lib.hid (HZ.out.below hb (Q := fun _ _ => True) (fun _ _ _ _ => trivial))
          clear hb
          refine wp_region_still_tail (n := 3) (by kernel_rfl) (by kernel_rfl) ?_
          have hb : Below w8.heap.size w8 { w8 with drawn := w8.drawn + 1 } := (Below.refl _ _).drew
          generalize { w8 with drawn := w8.drawn + 1 } = w9 at hb ⊢
          obtain ⟨v70, r70, hl70⟩ := exec_bx (Bx.new HX9.out hb)
          have HX6w := Lib.hid (HX6.out.below hb (Q := fun _ _ => True) (fun _ _ _ _ => trivial))
          have HB9 := Lib.hid (bthen HB5.out hb HB5.out.size)
          refine still_val rfl rfl (still_val rfl (hl70 rfl rfl) (still_val rfl rfl ?_))
          simp only [Act.put, List.setIfInBounds_toArray, List.set_cons_zero, List.set_cons_succ]
          show wpList _ _ _ [_] _ _
          refine wpList_store_row (v := v70) (g := g6) (j := 0) (n := 1) (b := b + b) (x := S.T i R / S.T i k) rfl rfl rfl rfl rfl HX6w.out (by omega) r70 ?_
          intro wa kp hg hsz hR6
          go_wp2_with fail
          refine ⟨⟨(i : Int), i + 1, rfl, by go_num, by omega, Lib.hid ⟨HB9.out.grown hg HB9.out.size (fun x hx => by cases hx; have := HG6.out; omega), .inr ⟨i, rfl, HLV.out, RB.bx (hR6 (fun _ v => Rw (b + b) (S.T i R / S.T i k) v wa) (fun l u hl hne _ => absurd hl (by omega)) (r70.keepN kp))⟩⟩⟩, by simp [intOf]; omega⟩
        · subst h1
          have HX6 := Lib.hid h3
          have HL := Lib.hid h2
          have tz : decide ((r : Int) ≥ 0) = true := by simp
          have hri := h2.lt
          clear HS5 h2 h3
          go_upto_region 10 with (fail)
-- %R10
          refine wp_region_seq (kss := [[], [], [(0, 43), (1, 44)], [(2, 45)]]) [(9, .pointer (some ⟨g9, 0, none⟩)), (6, .pointer (some ⟨g6, 0, none⟩))] [Rw (b + b) (S.T i R / S.T i k), Rw (b + b) (S.T r R / S.T r k), fun zz _ => zz = .int .i64 (rcq (S.T i R / S.T i k) (S.T r R / S.T r k)), fun zz _ => zz = .int .i64 (rcq (S.T i R / S.T i k) (S.T r R / S.T r k))] (by kernel_rfl) ⟨rfl, rfl, trivial⟩ ?_ ?_ ?_
          · exact ⟨fun _ _ _ h hb => h.new hb, fun _ _ _ h hb => h.new hb, fun _ _ _ h _ => h, fun _ _ _ h _ => h, trivial⟩
          · refine ⟨?_, ?_, ?_, ?_, trivial⟩
            · exact fun aa ww hb he hd => ob_plain rfl (load_bx rfl he.1 (Bx.new HX9.out hb))
            · exact fun aa ww hb he hd => ob_plain rfl (load_bx rfl he.2.1 (Bx.new HX6.out hb))
            · exact fun aa ww hb he hd => ob_plain rfl (gives_call2 _ _ _ _ rfl (by kernel_rfl) (cmp_v (hd.1) (hd.2.1) (by omega)))
            · exact fun aa ww hb he hd => ob_plain rfl (gives_assign _ rfl ⟨hd.1, Below.refl _ _⟩)
          intro vs w7 hb hR
          have e11 : vs 3 = .int .i64 (rcq (S.T i R / S.T i k) (S.T r R / S.T r k)) := hR 3 (by decide)
          clear hR
          simp only [putsL, Nat.zero_add, Nat.reduceAdd, List.take_succ_cons, List.take_zero, Act.put, List.setIfInBounds_toArray, List.set_cons_zero, List.set_cons_succ]
          rw [e11]
          clear e11
-- %end R10
          replace HB5 := Lib.hid (bthen HB5.out hb HB5.out.size)
          replace HX9 := Lib.hid (HX9.out.new hb); replace HX6 := Lib.hid (HX6.out.new hb)
          have HT := Lib.hid (HT0.out.new HB5.out)
          clear hb
          rcases (show S.T i R / S.T i k < S.T r R / S.T r k ∨ S.T i R / S.T i k = S.T r R / S.T r k ∨ S.T r R / S.T r k < S.T i R / S.T i k by grind) with hq | hq | hq
          · rw [rcq_lt hq]
            have HLV := Lib.hid (HL.out.less hpos hq)
            clear hq
            go_upto_region 11 with (fail)
-- %R11a
            refine wp_region_each (kss := [[], [(0, 46)], [(1, 47)], [(2, 48)], [(2, 48), (3, 49)], [(2, 48), (4, 50)], [(5, 51)], [(5, 51), (6, 52)], [(5, 51), (7, 53)], [(5, 51), (8, 54)], [(5, 51)], [(5, 51), (9, 55), (10, 56)], [(5, 51), (11, 57)], [(5, 51)], [(5, 51), (13, 59)], [(5, 51), (14, 60)], [(5, 51), (15, 61)], [(5, 51)], [(5, 51), (16, 62), (17, 63)], [(5, 51), (18, 64)], [(5, 51), (12, 58), (19, 65)], [(2, 48), (5, 51), (20, 66)], [(2, 48), (21, 67)]]) [(11, .int .i64 (-1)), (0, .pointer (some ⟨p, 0, none⟩)), (7, .int .i64 ((i : Int))), (5, .int .i64 ((r : Int)))] [fun zz _ => zz = .int .i64 (-1), fun zz _ => zz = .bool true, fun zz _ => zz = .bool true, fun zz _ => zz = undef, fun zz _ => zz = undef, fun zz _ => zz = undef, fun zz _ => zz = undef, fun zz _ => zz = undef, fun zz _ => zz = undef, fun zz _ => zz = undef, fun zz _ => zz = undef, fun zz _ => zz = undef, fun zz _ => zz = undef, fun zz _ => zz = undef, fun zz _ => zz = undef, fun zz _ => zz = undef, fun zz _ => zz = undef, fun zz _ => zz = undef, fun zz _ => zz = undef, fun zz _ => zz = undef, fun zz _ => zz = undef, fun zz _ => zz = undef, fun zz _ => zz = .bool true] (by kernel_rfl) (by kernel_rfl) ⟨rfl, rfl, rfl, rfl, trivial⟩ ?_ ?_ ?_
            · exact ⟨fun _ _ _ h _ => h, fun _ _ _ h _ => h, fun _ _ _ h _ => h, fun _ _ _ h _ => h, fun _ _ _ h _ => h, fun _ _ _ h _ => h, fun _ _ _ h _ => h, fun _ _ _ h _ => h, fun _ _ _ h _ => h, fun _ _ _ h _ => h, fun _ _ _ h _ => h, fun _ _ _ h _ => h, fun _ _ _ h _ => h, fun _ _ _ h _ => h, fun _ _ _ h _ => h, fun _ _ _ h _ => h, fun _ _ _ h _ => h, fun _ _ _ h _ => h, fun _ _ _ h _ => h, fun _ _ _ h _ => h, fun _ _ _ h _ => h, fun _ _ _ h _ => h, fun _ _ _ h _ => h, trivial⟩
            · refine ⟨?_, ?_, ?_, ?_, ?_, ?_, ?_, ?_, ?_, ?_, ?_, ?_, ?_, ?_, ?_, ?_, ?_, ?_, ?_, ?_, ?_, ?_, ?_, trivial⟩
              · exact fun aa ww hb he hd => ob_plain rfl (gives_move _ rfl ⟨he.1, Below.refl _ _⟩)
              · exact fun aa ww hb he hd => ob_plain rfl (gives_lt_int (-1) 0 .i64 _ _ _ _ rfl hd.1 rfl ⟨congrArg Value.bool (by decide), Below.refl _ _⟩)
              · exact fun aa ww hb he hd => ob_plain rfl (gives_move _ rfl ⟨hd.1, Below.refl _ _⟩)
              · exact fun aa ww hb he hd => ob_off 48 rfl (by kernel_rfl) hd.1 rfl
              · exact fun aa ww hb he hd => ob_off 48 rfl (by kernel_rfl) hd.1 rfl
              · exact fun aa ww hb he hd => ob_off 48 rfl (by kernel_rfl) hd.1 rfl
              · exact fun aa ww hb he hd => ob_undef 51 rfl (by kernel_rfl) hd.1 rfl
              · exact fun aa ww hb he hd => ob_undef 51 rfl (by kernel_rfl) hd.1 rfl
              · exact fun aa ww hb he hd => ob_undef 51 rfl (by kernel_rfl) hd.1 rfl
              · exact fun aa ww hb he hd => ob_undef 51 rfl (by kernel_rfl) hd.1 rfl
              · exact fun aa ww hb he hd => ob_undef 51 rfl (by kernel_rfl) hd.1 rfl
              · exact fun aa ww hb he hd => ob_undef 51 rfl (by kernel_rfl) hd.1 rfl
              · exact fun aa ww hb he hd => ob_undef 51 rfl (by kernel_rfl) hd.1 rfl
              · exact fun aa ww hb he hd => ob_undef 51 rfl (by kernel_rfl) hd.1 rfl
              · exact fun aa ww hb he hd => ob_undef 51 rfl (by kernel_rfl) hd.1 rfl
              · exact fun aa ww hb he hd => ob_undef 51 rfl (by kernel_rfl) hd.1 rfl
              · exact fun aa ww hb he hd => ob_undef 51 rfl (by kernel_rfl) hd.1 rfl
              · exact fun aa ww hb he hd => ob_undef 51 rfl (by kernel_rfl) hd.1 rfl
              · exact fun aa ww hb he hd => ob_undef 51 rfl (by kernel_rfl) hd.1 rfl
              · exact fun aa ww hb he hd => ob_undef 51 rfl (by kernel_rfl) hd.1 rfl
              · exact fun aa ww hb he hd => ob_undef 51 rfl (by kernel_rfl) hd.1 rfl
              · exact fun aa ww hb he hd => ob_off 48 rfl (by kernel_rfl) hd.1 rfl
              · exact fun aa ww hb he hd => ob_plain rfl (gives_pick true _ _ _ rfl hd.1 ⟨rfl, Below.refl _ _⟩)
            intro vs w8 hb hR
            have e68 : vs 22 = .bool true := hR 22 (by decide)
            clear hR
            simp only [putsL, Nat.zero_add, Nat.reduceAdd, List.take_succ_cons, List.take_zero, Act.put, List.setIfInBounds_toArray, List.set_cons_zero, List.set_cons_succ]
            rw [e68]
            clear e68
-- %end R11a
            go_upto_region 12 with (fail)
            replace HB5 := Lib.hid (bthen HB5.out hb HB5.out.size)
            replace HX9 := Lib.hid (HX9.out.new hb)
            have HX6 := Lib.hid (HX6.out.rb.below hb (Q := fun _ _ => True) (fun _ _ _ _ => trivial))
            clear hb
            refine wp_region_still_tail (n := 3) (by kernel_rfl) (by kernel_rfl) ?_
            have hb : Below w8.heap.size w8 { w8 with drawn := w8.drawn + 1 } := (Below.refl _ _).drew
            generalize { w8 with drawn := w8.drawn + 1 } = w9 at hb ⊢
            obtain ⟨v70, r70, hl70⟩ := exec_bx (Bx.new HX9.out hb)
            have HX6w := Lib.hid (HX6.out.below hb (Q := fun _ _ => True) (fun _ _ _ _ => trivial))
            have HB9 := Lib.hid (bthen HB5.out hb HB5.out.size)
            refine still_val rfl rfl (still_val rfl (hl70 rfl rfl) (still_val rfl rfl ?_))
            simp only [Act.put, List.setIfInBounds_toArray, List.set_cons_zero, List.set_cons_succ]
            show wpList _ _ _ [_] _ _
            refine wpList_store_row (v := v70) (g := g6) (j := 0) (n := 1) (b := b + b) (x := S.T i R / S.T i k) rfl rfl rfl rfl rfl HX6w.out (by omega) r70 ?_
            intro wa kp hg hsz hR6
            go_wp2_with fail
            refine ⟨⟨(i : Int), i + 1, rfl, by go_num, by omega, Lib.hid ⟨HB9.out.grown hg HB9.out.size (fun x hx => by cases hx; have := HG6.out; omega), .inr ⟨i, rfl, HLV.out, RB.bx (hR6 (fun _ v => Rw (b + b) (S.T i R / S.T i k) v wa) (fun l u hl hne _ => absurd hl (by omega)) (r70.keepN kp))⟩⟩⟩, by simp [intOf]; omega⟩
          · rw [rcq_eq hq]
            by_cases hbs : S.b i < S.b r
            · have hbb : decide ((S.b i : Int) < (S.b r : Int)) = true := decide_eq_true (by omega)
              have HLV := Lib.hid (HL.out.tie hpos hq hbs)
              clear hq hbs
              go_upto_region 11 with (fail)
-- %R11b
              refine wp_region_each (kss := [[], [(0, 46)], [(1, 47)], [(2, 48)], [(2, 48), (3, 49)], [(2, 48), (4, 50)], [(5, 51)], [(5, 51), (6, 52)], [(5, 51), (7, 53)], [(5, 51), (8, 54)], [(5, 51)], [(5, 51), (9, 55), (10, 56)], [(5, 51), (11, 57)], [(5, 51)], [(5, 51), (13, 59)], [(5, 51), (14, 60)], [(5, 51), (15, 61)], [(5, 51)], [(5, 51), (16, 62), (17, 63)], [(5, 51), (18, 64)], [(5, 51), (12, 58), (19, 65)], [(2, 48), (5, 51), (20, 66)], [(2, 48), (21, 67)]]) [(11, .int .i64 0), (0, .pointer (some ⟨p, 0, none⟩)), (7, .int .i64 ((i : Int))), (5, .int .i64 ((r : Int)))] [fun zz _ => zz = .int .i64 0, fun zz _ => zz = .bool false, fun zz _ => zz = .bool false, fun zz _ => zz = .int .i64 0, fun zz _ => zz = .bool true, fun zz _ => zz = .bool true, fun zz _ => zz = .pointer (some ⟨p, 0, none⟩), fun zz _ => zz = .pointer (some ⟨p, 0, none⟩), fun zz _ => zz = .pointer (some ⟨p, 4, none⟩), fun zz _ => zz = .slice (some ⟨gb, 0, none⟩) m cb, fun zz _ => zz = .int .i64 ((i : Int)), fun zz _ => zz = .pointer (some (Addr.add ⟨gb, 0, none⟩ i)), fun zz _ => zz = .int .i64 ((S.b i : Int)), fun zz _ => zz = .pointer (some ⟨p, 0, none⟩), fun zz _ => zz = .pointer (some ⟨p, 0, none⟩), fun zz _ => zz = .pointer (some ⟨p, 4, none⟩), fun zz _ => zz = .slice (some ⟨gb, 0, none⟩) m cb, fun zz _ => zz = .int .i64 ((r : Int)), fun zz _ => zz = .pointer (some (Addr.add ⟨gb, 0, none⟩ r)), fun zz _ => zz = .int .i64 ((S.b r : Int)), fun zz _ => zz = .bool true, fun zz _ => zz = .bool true, fun zz _ => zz = .bool true] (by kernel_rfl) (by kernel_rfl) ⟨rfl, rfl, rfl, rfl, trivial⟩ ?_ ?_ ?_
              · exact ⟨fun _ _ _ h _ => h, fun _ _ _ h _ => h, fun _ _ _ h _ => h, fun _ _ _ h _ => h, fun _ _ _ h _ => h, fun _ _ _ h _ => h, fun _ _ _ h _ => h, fun _ _ _ h _ => h, fun _ _ _ h _ => h, fun _ _ _ h _ => h, fun _ _ _ h _ => h, fun _ _ _ h _ => h, fun _ _ _ h _ => h, fun _ _ _ h _ => h, fun _ _ _ h _ => h, fun _ _ _ h _ => h, fun _ _ _ h _ => h, fun _ _ _ h _ => h, fun _ _ _ h _ => h, fun _ _ _ h _ => h, fun _ _ _ h _ => h, fun _ _ _ h _ => h, fun _ _ _ h _ => h, trivial⟩
              · refine ⟨?_, ?_, ?_, ?_, ?_, ?_, ?_, ?_, ?_, ?_, ?_, ?_, ?_, ?_, ?_, ?_, ?_, ?_, ?_, ?_, ?_, ?_, ?_, trivial⟩
                · exact fun aa ww hb he hd => ob_plain rfl (gives_move _ rfl ⟨he.1, Below.refl _ _⟩)
                · exact fun aa ww hb he hd => ob_plain rfl (gives_lt_int 0 0 .i64 _ _ _ _ rfl hd.1 rfl ⟨congrArg Value.bool (by decide), Below.refl _ _⟩)
                · exact fun aa ww hb he hd => ob_plain rfl (gives_move _ rfl ⟨hd.1, Below.refl _ _⟩)
                · exact fun aa ww hb he hd => ob_on 48 rfl (by kernel_rfl) hd.1 (gives_move _ rfl ⟨he.1, Below.refl _ _⟩)
                · exact fun aa ww hb he hd => ob_on 48 rfl (by kernel_rfl) hd.1 (gives_eq_int 0 0 .i64 _ _ _ _ rfl hd.2.1 rfl ⟨congrArg Value.bool (by decide), Below.refl _ _⟩)
                · exact fun aa ww hb he hd => ob_on 48 rfl (by kernel_rfl) hd.1 (gives_move _ rfl ⟨hd.2.1, Below.refl _ _⟩)
                · exact fun aa ww hb he hd => ob_on 51 rfl (by kernel_rfl) hd.1 (gives_move _ rfl ⟨he.2.1, Below.refl _ _⟩)
                · exact fun aa ww hb he hd => ob_on 51 rfl (by kernel_rfl) hd.1 (nil_c rfl hd.2.1)
                · exact fun aa ww hb he hd => ob_on 51 rfl (by kernel_rfl) hd.1 (fld_tab rfl (by decide) hd.2.1)
                · exact fun aa ww hb he hd => ob_on 51 rfl (by kernel_rfl) hd.1 (load_c86 rfl hd.2.1 (TabW.new HT.out hb).c4)
                · exact fun aa ww hb he hd => ob_on 51 rfl (by kernel_rfl) hd.1 (gives_move _ rfl ⟨he.2.2.1, Below.refl _ _⟩)
                · exact fun aa ww hb he hd => ob_on 51 rfl (by kernel_rfl) hd.1 (idx_xs (by omega) rfl hd.2.1 hd.2.2.1)
                · exact fun aa ww hb he hd => ob_on 51 rfl (by kernel_rfl) hd.1 (load_c3 rfl hd.2.1 ((TabW.new HT.out hb).bcell (by omega)))
                · exact fun aa ww hb he hd => ob_on 51 rfl (by kernel_rfl) hd.1 (gives_move _ rfl ⟨he.2.1, Below.refl _ _⟩)
                · exact fun aa ww hb he hd => ob_on 51 rfl (by kernel_rfl) hd.1 (nil_c rfl hd.2.1)
                · exact fun aa ww hb he hd => ob_on 51 rfl (by kernel_rfl) hd.1 (fld_tab rfl (by decide) hd.2.1)
                · exact fun aa ww hb he hd => ob_on 51 rfl (by kernel_rfl) hd.1 (load_c86 rfl hd.2.1 (TabW.new HT.out hb).c4)
                · exact fun aa ww hb he hd => ob_on 51 rfl (by kernel_rfl) hd.1 (gives_move _ rfl ⟨he.2.2.2.1, Below.refl _ _⟩)
                · exact fun aa ww hb he hd => ob_on 51 rfl (by kernel_rfl) hd.1 (idx_xs (by omega) rfl hd.2.1 hd.2.2.1)
                · exact fun aa ww hb he hd => ob_on 51 rfl (by kernel_rfl) hd.1 (load_c3 rfl hd.2.1 ((TabW.new HT.out hb).bcell (by omega)))
                · exact fun aa ww hb he hd => ob_on 51 rfl (by kernel_rfl) hd.1 (gives_lt_int ((S.b i : Int)) ((S.b r : Int)) .i64 _ _ _ _ rfl hd.2.1 hd.2.2.1 ⟨congrArg Value.bool (hbb), Below.refl _ _⟩)
                · exact fun aa ww hb he hd => ob_on 48 rfl (by kernel_rfl) hd.1 (gives_pick true _ _ _ rfl hd.2.1 ⟨hd.2.2.1, Below.refl _ _⟩)
                · exact fun aa ww hb he hd => ob_plain rfl (gives_pick false _ _ _ rfl hd.1 ⟨hd.2.1, Below.refl _ _⟩)
              intro vs w8 hb hR
              have e68 : vs 22 = .bool true := hR 22 (by decide)
              clear hR
              simp only [putsL, Nat.zero_add, Nat.reduceAdd, List.take_succ_cons, List.take_zero, Act.put, List.setIfInBounds_toArray, List.set_cons_zero, List.set_cons_succ]
              rw [e68]
              clear e68
-- %end R11b
              go_upto_region 12 with (fail)
              replace HB5 := Lib.hid (bthen HB5.out hb HB5.out.size)
              replace HX9 := Lib.hid (HX9.out.new hb)
              have HX6 := Lib.hid (HX6.out.rb.below hb (Q := fun _ _ => True) (fun _ _ _ _ => trivial))
              clear hb
              refine wp_region_still_tail (n := 3) (by kernel_rfl) (by kernel_rfl) ?_
              have hb : Below w8.heap.size w8 { w8 with drawn := w8.drawn + 1 } := (Below.refl _ _).drew
              generalize { w8 with drawn := w8.drawn + 1 } = w9 at hb ⊢
              obtain ⟨v70, r70, hl70⟩ := exec_bx (Bx.new HX9.out hb)
              have HX6w := Lib.hid (HX6.out.below hb (Q := fun _ _ => True) (fun _ _ _ _ => trivial))
              have HB9 := Lib.hid (bthen HB5.out hb HB5.out.size)
              refine still_val rfl rfl (still_val rfl (hl70 rfl rfl) (still_val rfl rfl ?_))
              simp only [Act.put, List.setIfInBounds_toArray, List.set_cons_zero, List.set_cons_succ]
              show wpList _ _ _ [_] _ _
              refine wpList_store_row (v := v70) (g := g6) (j := 0) (n := 1) (b := b + b) (x := S.T i R / S.T i k) rfl rfl rfl rfl rfl HX6w.out (by omega) r70 ?_
              intro wa kp hg hsz hR6
              go_wp2_with fail
              refine ⟨⟨(i : Int), i + 1, rfl, by go_num, by omega, Lib.hid ⟨HB9.out.grown hg HB9.out.size (fun x hx => by cases hx; have := HG6.out; omega), .inr ⟨i, rfl, HLV.out, RB.bx (hR6 (fun _ v => Rw (b + b) (S.T i R / S.T i k) v wa) (fun l u hl hne _ => absurd hl (by omega)) (r70.keepN kp))⟩⟩⟩, by simp [intOf]; omega⟩
            · have hbb : decide ((S.b i : Int) < (S.b r : Int)) = false := decide_eq_false (by omega)
              have HLV := Lib.hid (HL.out.keep (.inr ⟨hq, hbs⟩))
              clear hq hbs
              go_upto_region 11 with (fail)
-- %R11c
              refine wp_region_each (kss := [[], [(0, 46)], [(1, 47)], [(2, 48)], [(2, 48), (3, 49)], [(2, 48), (4, 50)], [(5, 51)], [(5, 51), (6, 52)], [(5, 51), (7, 53)], [(5, 51), (8, 54)], [(5, 51)], [(5, 51), (9, 55), (10, 56)], [(5, 51), (11, 57)], [(5, 51)], [(5, 51), (13, 59)], [(5, 51), (14, 60)], [(5, 51), (15, 61)], [(5, 51)], [(5, 51), (16, 62), (17, 63)], [(5, 51), (18, 64)], [(5, 51), (12, 58), (19, 65)], [(2, 48), (5, 51), (20, 66)], [(2, 48), (21, 67)]]) [(11, .int .i64 0), (0, .pointer (some ⟨p, 0, none⟩)), (7, .int .i64 ((i : Int))), (5, .int .i64 ((r : Int)))] [fun zz _ => zz = .int .i64 0, fun zz _ => zz = .bool false, fun zz _ => zz = .bool false, fun zz _ => zz = .int .i64 0, fun zz _ => zz = .bool true, fun zz _ => zz = .bool true, fun zz _ => zz = .pointer (some ⟨p, 0, none⟩), fun zz _ => zz = .pointer (some ⟨p, 0, none⟩), fun zz _ => zz = .pointer (some ⟨p, 4, none⟩), fun zz _ => zz = .slice (some ⟨gb, 0, none⟩) m cb, fun zz _ => zz = .int .i64 ((i : Int)), fun zz _ => zz = .pointer (some (Addr.add ⟨gb, 0, none⟩ i)), fun zz _ => zz = .int .i64 ((S.b i : Int)), fun zz _ => zz = .pointer (some ⟨p, 0, none⟩), fun zz _ => zz = .pointer (some ⟨p, 0, none⟩), fun zz _ => zz = .pointer (some ⟨p, 4, none⟩), fun zz _ => zz = .slice (some ⟨gb, 0, none⟩) m cb, fun zz _ => zz = .int .i64 ((r : Int)), fun zz _ => zz = .pointer (some (Addr.add ⟨gb, 0, none⟩ r)), fun zz _ => zz = .int .i64 ((S.b r : Int)), fun zz _ => zz = .bool false, fun zz _ => zz = .bool false, fun zz _ => zz = .bool false] (by kernel_rfl) (by kernel_rfl) ⟨rfl, rfl, rfl, rfl, trivial⟩ ?_ ?_ ?_
              · exact ⟨fun _ _ _ h _ => h, fun _ _ _ h _ => h, fun _ _ _ h _ => h, fun _ _ _ h _ => h, fun _ _ _ h _ => h, fun _ _ _ h _ => h, fun _ _ _ h _ => h, fun _ _ _ h _ => h, fun _ _ _ h _ => h, fun _ _ _ h _ => h, fun _ _ _ h _ => h, fun _ _ _ h _ => h, fun _ _ _ h _ => h, fun _ _ _ h _ => h, fun _ _ _ h _ => h, fun _ _ _ h _ => h, fun _ _ _ h _ => h, fun _ _ _ h _ => h, fun _ _ _ h _ => h, fun _ _ _ h _ => h, fun _ _ _ h _ => h, fun _ _ _ h _ => h, fun _ _ _ h _ => h, trivial⟩
              · refine ⟨?_, ?_, ?_, ?_, ?_, ?_, ?_, ?_, ?_, ?_, ?_, ?_, ?_, ?_, ?_, ?_, ?_, ?_, ?_, ?_, ?_, ?_, ?_, trivial⟩
                · exact fun aa ww hb he hd => ob_plain rfl (gives_move _ rfl ⟨he.1, Below.refl _ _⟩)
                · exact fun aa ww hb he hd => ob_plain rfl (gives_lt_int 0 0 .i64 _ _ _ _ rfl hd.1 rfl ⟨congrArg Value.bool (by decide), Below.refl _ _⟩)
                · exact fun aa ww hb he hd => ob_plain rfl (gives_move _ rfl ⟨hd.1, Below.refl _ _⟩)
                · exact fun aa ww hb he hd => ob_on 48 rfl (by kernel_rfl) hd.1 (gives_move _ rfl ⟨he.1, Below.refl _ _⟩)
                · exact fun aa ww hb he hd => ob_on 48 rfl (by kernel_rfl) hd.1 (gives_eq_int 0 0 .i64 _ _ _ _ rfl hd.2.1 rfl ⟨congrArg Value.bool (by decide), Below.refl _ _⟩)
                · exact fun aa ww hb he hd => ob_on 48 rfl (by kernel_rfl) hd.1 (gives_move _ rfl ⟨hd.2.1, Below.refl _ _⟩)
                · exact fun aa ww hb he hd => ob_on 51 rfl (by kernel_rfl) hd.1 (gives_move _ rfl ⟨he.2.1, Below.refl _ _⟩)
                · exact fun aa ww hb he hd => ob_on 51 rfl (by kernel_rfl) hd.1 (nil_c rfl hd.2.1)
                · exact fun aa ww hb he hd => ob_on 51 rfl (by kernel_rfl) hd.1 (fld_tab rfl (by decide) hd.2.1)
                · exact fun aa ww hb he hd => ob_on 51 rfl (by kernel_rfl) hd.1 (load_c86 rfl hd.2.1 (TabW.new HT.out hb).c4)
                · exact fun aa ww hb he hd => ob_on 51 rfl (by kernel_rfl) hd.1 (gives_move _ rfl ⟨he.2.2.1, Below.refl _ _⟩)
                · exact fun aa ww hb he hd => ob_on 51 rfl (by kernel_rfl) hd.1 (idx_xs (by omega) rfl hd.2.1 hd.2.2.1)
                · exact fun aa ww hb he hd => ob_on 51 rfl (by kernel_rfl) hd.1 (load_c3 rfl hd.2.1 ((TabW.new HT.out hb).bcell (by omega)))
                · exact fun aa ww hb he hd => ob_on 51 rfl (by kernel_rfl) hd.1 (gives_move _ rfl ⟨he.2.1, Below.refl _ _⟩)
                · exact fun aa ww hb he hd => ob_on 51 rfl (by kernel_rfl) hd.1 (nil_c rfl hd.2.1)
                · exact fun aa ww hb he hd => ob_on 51 rfl (by kernel_rfl) hd.1 (fld_tab rfl (by decide) hd.2.1)
                · exact fun aa ww hb he hd => ob_on 51 rfl (by kernel_rfl) hd.1 (load_c86 rfl hd.2.1 (TabW.new HT.out hb).c4)
                · exact fun aa ww hb he hd => ob_on 51 rfl (by kernel_rfl) hd.1 (gives_move _ rfl ⟨he.2.2.2.1, Below.refl _ _⟩)
                · exact fun aa ww hb he hd => ob_on 51 rfl (by kernel_rfl) hd.1 (idx_xs (by omega) rfl hd.2.1 hd.2.2.1)
                · exact fun aa ww hb he hd => ob_on 51 rfl (by kernel_rfl) hd.1 (load_c3 rfl hd.2.1 ((TabW.new HT.out hb).bcell (by omega)))
                · exact fun aa ww hb he hd => ob_on 51 rfl (by kernel_rfl) hd.1 (gives_lt_int ((S.b i : Int)) ((S.b r : Int)) .i64 _ _ _ _ rfl hd.2.1 hd.2.2.1 ⟨congrArg Value.bool (hbb), Below.refl _ _⟩)
                · exact fun aa ww hb he hd => ob_on 48 rfl (by kernel_rfl) hd.1 (gives_pick true _ _ _ rfl hd.2.1 ⟨hd.2.2.1, Below.refl _ _⟩)
                · exact fun aa ww hb he hd => ob_plain rfl (gives_pick false _ _ _ rfl hd.1 ⟨hd.2.1, Below.refl _ _⟩)
              intro vs w8 hb hR
              have e68 : vs 22 = .bool false := hR 22 (by decide)
              clear hR
              simp only [putsL, Nat.zero_add, Nat.reduceAdd, List.take_succ_cons, List.take_zero, Act.put, List.setIfInBounds_toArray, List.set_cons_zero, List.set_cons_succ]
              rw [e68]
              clear e68
-- %end R11c
              go_wp2_with fail
              refine ⟨⟨(r : Int), i + 1, rfl, by go_num, by omega, Lib.hid ⟨bthen HB5.out hb HB5.out.size, .inr ⟨r, rfl, HLV.out, HX6.out.new hb⟩⟩⟩, by simp [intOf]; omega⟩
          · rw [rcq_gt hq]
            have HLV := Lib.hid (HL.out.keep (.inl hq))
            clear hq
            · skip
              go_upto_region 11 with (fail)
-- %R11d
              refine wp_region_each (kss := [[], [(0, 46)], [(1, 47)], [(2, 48)], [(2, 48), (3, 49)], [(2, 48), (4, 50)], [(5, 51)], [(5, 51), (6, 52)], [(5, 51), (7, 53)], [(5, 51), (8, 54)], [(5, 51)], [(5, 51), (9, 55), (10, 56)], [(5, 51), (11, 57)], [(5, 51)], [(5, 51), (13, 59)], [(5, 51), (14, 60)], [(5, 51), (15, 61)], [(5, 51)], [(5, 51), (16, 62), (17, 63)], [(5, 51), (18, 64)], [(5, 51), (12, 58), (19, 65)], [(2, 48), (5, 51), (20, 66)], [(2, 48), (21, 67)]]) [(11, .int .i64 1), (0, .pointer (some ⟨p, 0, none⟩)), (7, .int .i64 ((i : Int))), (5, .int .i64 ((r : Int)))] [fun zz _ => zz = .int .i64 1, fun zz _ => zz = .bool false, fun zz _ => zz = .bool false, fun zz _ => zz = .int .i64 1, fun zz _ => zz = .bool false, fun zz _ => zz = .bool false, fun zz _ => zz = undef, fun zz _ => zz = undef, fun zz _ => zz = undef, fun zz _ => zz = undef, fun zz _ => zz = undef, fun zz _ => zz = undef, fun zz _ => zz = undef, fun zz _ => zz = undef, fun zz _ => zz = undef, fun zz _ => zz = undef, fun zz _ => zz = undef, fun zz _ => zz = undef, fun zz _ => zz = undef, fun zz _ => zz = undef, fun zz _ => zz = undef, fun zz _ => zz = .bool false, fun zz _ => zz = .bool false] (by kernel_rfl) (by kernel_rfl) ⟨rfl, rfl, rfl, rfl, trivial⟩ ?_ ?_ ?_
              · exact ⟨fun _ _ _ h _ => h, fun _ _ _ h _ => h, fun _ _ _ h _ => h, fun _ _ _ h _ => h, fun _ _ _ h _ => h, fun _ _ _ h _ => h, fun _ _ _ h _ => h, fun _ _ _ h _ => h, fun _ _ _ h _ => h, fun _ _ _ h _ => h, fun _ _ _ h _ => h, fun _ _ _ h _ => h, fun _ _ _ h _ => h, fun _ _ _ h _ => h, fun _ _ _ h _ => h, fun _ _ _ h _ => h, fun _ _ _ h _ => h, fun _ _ _ h _ => h, fun _ _ _ h _ => h, fun _ _ _ h _ => h, fun _ _ _ h _ => h, fun _ _ _ h _ => h, fun _ _ _ h _ => h, trivial⟩
              · refine ⟨?_, ?_, ?_, ?_, ?_, ?_, ?_, ?_, ?_, ?_, ?_, ?_, ?_, ?_, ?_, ?_, ?_, ?_, ?_, ?_, ?_, ?_, ?_, trivial⟩
                · exact fun aa ww hb he hd => ob_plain rfl (gives_move _ rfl ⟨he.1, Below.refl _ _⟩)
                · exact fun aa ww hb he hd => ob_plain rfl (gives_lt_int 1 0 .i64 _ _ _ _ rfl hd.1 rfl ⟨congrArg Value.bool (by decide), Below.refl _ _⟩)
                · exact fun aa ww hb he hd => ob_plain rfl (gives_move _ rfl ⟨hd.1, Below.refl _ _⟩)
                · exact fun aa ww hb he hd => ob_on 48 rfl (by kernel_rfl) hd.1 (gives_move _ rfl ⟨he.1, Below.refl _ _⟩)
                · exact fun aa ww hb he hd => ob_on 48 rfl (by kernel_rfl) hd.1 (gives_eq_int 1 0 .i64 _ _ _ _ rfl hd.2.1 rfl ⟨congrArg Value.bool (by decide), Below.refl _ _⟩)
                · exact fun aa ww hb he hd => ob_on 48 rfl (by kernel_rfl) hd.1 (gives_move _ rfl ⟨hd.2.1, Below.refl _ _⟩)
                · exact fun aa ww hb he hd => ob_off 51 rfl (by kernel_rfl) hd.1 rfl
                · exact fun aa ww hb he hd => ob_off 51 rfl (by kernel_rfl) hd.1 rfl
                · exact fun aa ww hb he hd => ob_off 51 rfl (by kernel_rfl) hd.1 rfl
                · exact fun aa ww hb he hd => ob_off 51 rfl (by kernel_rfl) hd.1 rfl
                · exact fun aa ww hb he hd => ob_off 51 rfl (by kernel_rfl) hd.1 rfl
                · exact fun aa ww hb he hd => ob_off 51 rfl (by kernel_rfl) hd.1 rfl
                · exact fun aa ww hb he hd => ob_off 51 rfl (by kernel_rfl) hd.1 rfl
                · exact fun aa ww hb he hd => ob_off 51 rfl (by kernel_rfl) hd.1 rfl
                · exact fun aa ww hb he hd => ob_off 51 rfl (by kernel_rfl) hd.1 rfl
                · exact fun aa ww hb he hd => ob_off 51 rfl (by kernel_rfl) hd.1 rfl
                · exact fun aa ww hb he hd => ob_off 51 rfl (by kernel_rfl) hd.1 rfl
                · exact fun aa ww hb he hd => ob_off 51 rfl (by kernel_rfl) hd.1 rfl
                · exact fun aa ww hb he hd => ob_off 51 rfl (by kernel_rfl) hd.1 rfl
                · exact fun aa ww hb he hd => ob_off 51 rfl (by kernel_rfl) hd.1 rfl
                · exact fun aa ww hb he hd => ob_off 51 rfl (by kernel_rfl) hd.1 rfl
                · exact fun aa ww hb he hd => ob_on 48 rfl (by kernel_rfl) hd.1 (gives_pick false _ _ _ rfl hd.2.1 ⟨rfl, Below.refl _ _⟩)
                · exact fun aa ww hb he hd => ob_plain rfl (gives_pick false _ _ _ rfl hd.1 ⟨hd.2.1, Below.refl _ _⟩)
              intro vs w8 hb hR
              have e68 : vs 22 = .bool false := hR 22 (by decide)
              clear hR
              simp only [putsL, Nat.zero_add, Nat.reduceAdd, List.take_succ_cons, List.take_zero, Act.put, List.setIfInBounds_toArray, List.set_cons_zero, List.set_cons_succ]
              rw [e68]
              clear e68
-- %end R11d
              go_wp2_with fail
              refine ⟨⟨(r : Int), i + 1, rfl, by go_num, by omega, Lib.hid ⟨bthen HB5.out hb HB5.out.size, .inr ⟨r, rfl, HLV.out, HX6.out.new hb⟩⟩⟩, by simp [intOf]; omega⟩
    · obtain rfl : m = i := by omega
      go_wp2_with fail
      go_ret
      rcases HI.out.2 with ⟨h1, h2, h3⟩ | ⟨r, h1, h2, h3⟩
      · exact ⟨z, rfl, HI.out.1, .inl ⟨h1, h2⟩⟩
      · exact ⟨z, rfl, HI.out.1, .inr ⟨r, h1, h2⟩⟩
end Go.Proofs.Ytamcibmjpmibdaa
