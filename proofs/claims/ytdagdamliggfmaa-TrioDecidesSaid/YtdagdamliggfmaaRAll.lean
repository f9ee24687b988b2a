/-
  Contracts of the reference's All (trios) and of slices.Equal at trios.
-/
import Derived.Test.YtdagdamliggfmaaRIs
namespace Go.Proofs.Ytdagdamliggfmaa
open Go.RowKit

def rC (es : List Nat) (m a b c : Nat) : List (Nat × Nat × Nat) := ((List.range' c (m - c)).filter (isT es m a b)).map fun c => (a, b, c)
def rB (es : List Nat) (m a b : Nat) : List (Nat × Nat × Nat) := (List.range' b (m - b)).flatMap fun b => rC es m a b 0
def rA (es : List Nat) (m a : Nat) : List (Nat × Nat × Nat) := (List.range' a (m - a)).flatMap fun a => rB es m a 0
theorem rtrios_rA (es : List Nat) (m : Nat) : rtrios es m = rA es m 0 := by simp [rtrios, rA, rB, rC]
theorem rC_step {es : List Nat} {m a b c : Nat} (h : c < m) : rC es m a b c = (if isT es m a b c then [(a, b, c)] else []) ++ rC es m a b (c + 1) := by
  unfold rC; rw [range'_step h, List.filter_cons]; split <;> simp
theorem rC_end {es : List Nat} {m a b c : Nat} (h : m ≤ c) : rC es m a b c = [] := by unfold rC; rw [range'_end h]; rfl
theorem rB_step {es : List Nat} {m a b : Nat} (h : b < m) : rB es m a b = rC es m a b 0 ++ rB es m a (b + 1) := by unfold rB; rw [range'_step h, List.flatMap_cons]
theorem rB_end {es : List Nat} {m a b : Nat} (h : m ≤ b) : rB es m a b = [] := by unfold rB; rw [range'_end h]; rfl
theorem rA_step {es : List Nat} {m a : Nat} (h : a < m) : rA es m a = rB es m a 0 ++ rA es m (a + 1) := by unfold rA; rw [range'_step h, List.flatMap_cons]
theorem rA_end {es : List Nat} {m a : Nat} (h : m ≤ a) : rA es m a = [] := by unfold rA; rw [range'_end h]; rfl

/-- What stands at a loop's head of ref.All: the list so far, the graph's box. -/
def AllSt (w0 : World) (n : Int) (A : Option Addr) (len c : Nat) (v : Value) (l : List (Nat × Nat × Nat)) (wr : World) : Prop :=
  wr.ownsRow (w0.heap.size + 1) 40 3 v l.length (I3 l) ∧ GB wr w0.heap.size 31 (.int .i64 n) (.slice A len c) ∧ Below w0.heap.size w0 wr ∧ w0.heap.size + 1 ≤ wr.heap.size

set_option maxHeartbeats 4000000 in
theorem rall_any (n : Int) (m : Nat) (A : Option Addr) (es : List Nat) (len c : Nat) (w : World) (hr : Es w w.heap.size A len es) (hm : m ≤ 32) :
    Calls Try.prog 19 #[.agg #[.int .i64 n, .slice A len c], .int .i64 m] w fun e w' => ∃ A' c', e = .returned (.slice A' (rtrios es m).length c') ∧ Ts w' w'.heap.size A' (rtrios es m).length (rtrios es m) ∧ Below w.heap.size w w' := by
  have HR := Lib.hid hr; clear hr
  have hlen := rtrios_length es hm
  have HLEN := Lib.hid hlen; clear hlen
  go_enter Try.func19, Try.ntmps19
  go_wp2_with fail
  go_loopw [5, 6, 7, 8] (fun v i _ _ wr => ∃ (a : Nat) (l : List (Nat × Nat × Nat)), a ≤ m ∧ i = .int .i64 a ∧ Hid (l ++ rA es m a = rtrios es m ∧ AllSt w n A len c v l wr)) (fun _ i _ _ _ => m - (intOf i).toNat)
  case atStart => exact ⟨0, [], Nat.zero_le _, rfl, Lib.hid ⟨(rtrios_rA es m).symm, own_nil3 _ _ _, GB.made _ _ _ _, al _ _, by simp⟩⟩
  case round =>
    obtain ⟨a, l, ha, rfl, HI⟩ := hrel
    by_cases hlt : a < m
    · go_wp2_with fail
      obtain ⟨wo, rfl⟩ : ∃ wo : World, wo = wr := ⟨_, rfl⟩
      go_loopw [5, 7, 8] (fun v i _ wr => ∃ (b : Nat) (l : List (Nat × Nat × Nat)), b ≤ m ∧ i = .int .i64 b ∧ Hid (l ++ (rB es m a b ++ rA es m (a + 1)) = rtrios es m ∧ AllSt w n A len c v l wr)) (fun _ i _ _ => m - (intOf i).toNat)
      case atStart => exact ⟨0, l, Nat.zero_le _, rfl, Lib.hid ⟨by rw [← rA_step hlt]; exact HI.out.1, HI.out.2⟩⟩
      case round =>
        obtain ⟨b, l, hb, rfl, HI⟩ := hrel
        by_cases hlt2 : b < m
        · go_wp2_with fail
          obtain ⟨wo, rfl⟩ : ∃ wo : World, wo = wr := ⟨_, rfl⟩
          go_loopw [5, 8] (fun v i wr => ∃ (d : Nat) (l : List (Nat × Nat × Nat)), d ≤ m ∧ i = .int .i64 d ∧ Hid (l ++ (rC es m a b d ++ (rB es m a (b + 1) ++ rA es m (a + 1))) = rtrios es m ∧ AllSt w n A len c v l wr)) (fun _ i _ => m - (intOf i).toNat)
          case atStart => exact ⟨0, l, Nat.zero_le _, rfl, Lib.hid ⟨by rw [← List.append_assoc (rC es m a b 0), ← rB_step hlt2]; exact HI.out.1, HI.out.2⟩⟩
          case round =>
            obtain ⟨d, l, hd, rfl, HI⟩ := hrel
            by_cases hlt3 : d < m
            · obtain ⟨h1, h2, h3, h4, h5⟩ := HI.out
              have hll : l.length ≤ 32768 := by have := HLEN.out; rw [← h1] at this; simp at this; omega
              rw [rC_step hlt3] at h1
              have H1 := Lib.hid h1; clear h1
              obtain ⟨A1, c1, hv⟩ := own_form h2
              subst hv
              have H2 := Lib.hid h2; clear h2
              have g0 := h3.c0
              have g1 := h3.c1
              have H3 := Lib.hid h3; clear h3
              have H4 := Lib.hid h4; clear h4
              clear HI
              go_wp2_with fail
              refine (ris_any n m a b d A es len c _ (HR.out.new H4.out)).mono ?_
              rintro e w2 ⟨rfl, hb⟩
              have hown := own_below H2.out hb
              have hgb := H3.out.new hb
              have hbl := bthen H4.out hb H4.out.size
              have hsz : w.heap.size + 1 ≤ w2.heap.size := Nat.le_trans h5 hb.size
              have hris : rIsB es m a b d = isT es m a b d := by
                unfold rIsB
                by_cases hh : a < b ∧ b < d ∧ d < m
                · have : decide ((0:Int) ≤ a ∧ (a:Int) < b ∧ (b:Int) < d ∧ (d:Int) < m) = true := by simp; omega
                  rw [this]; simp
                · have h2 : isT es m a b d = false := by simp only [isT, hh, decide_false, Bool.false_and]
                  rw [h2]; simp [h2]
              rw [hris]
              clear hb H2 H3 H4 g0 g1 hris
              have HO := Lib.hid hown; clear hown
              have HG := Lib.hid hgb; clear hgb
              have HB := Lib.hid hbl; clear hbl
              cases ht : isT es m a b d with
              | false =>
                have HT := Lib.hid ht; clear ht
                go_wp2_with fail
                refine ⟨⟨d + 1, l, by omega, by go_num, Lib.hid ⟨?_, HO.out, HG.out, HB.out, hsz⟩⟩, by simp [intOf]; omega⟩
                have := H1.out
                rw [HT.out] at this
                simpa using this
              | true =>
                have HT := Lib.hid ht; clear ht
                go_wp2_with (at_builtin; refine app_trio rfl _ _ rfl (w.heap.size + 1) (Value.slice A1 l.length c1) l rfl (HO.out.alloc _) w2.heap.size (a, b, d) rfl (Blk.new _ _ _) (by omega) (by simp; omega) ?_; intro v' w3 hown' hgr hor; obtain ⟨A', c', rfl⟩ := own_form hown'; have HW := Lib.hid hown'; have HGR := Lib.hid hgr; clear hown' hgr hor)
                have hL : (l ++ [(a, b, d)]).length = l.length + 1 := by simp
                have hw := HW.out
                rw [hL] at hw
                refine ⟨⟨d + 1, l ++ [(a, b, d)], by omega, by go_num, Lib.hid ⟨?_, ?_, ?_, ?_, ?_⟩⟩, by simp [intOf]; omega⟩
                · have := H1.out
                  rw [HT.out] at this
                  simpa using this
                · rw [hL]; exact hw
                · exact (HG.out.alloc _).appended (HO.out.alloc _) HGR.out (by decide)
                · exact Below.appended (HB.out.alloc (by omega) _) (HO.out.alloc _) HGR.out (by simp; omega) (by omega)
                · have := HGR.out.size; simp at this; omega
            · go_wp2_with fail
              refine ⟨⟨b + 1, l, by omega, by go_num, Lib.hid ⟨?_, HI.out.2⟩⟩, by simp [intOf]; omega⟩
              have := HI.out.1
              rw [rC_end (by omega)] at this
              exact this
        · go_wp2_with fail
          refine ⟨⟨a + 1, l, by omega, by go_num, Lib.hid ⟨?_, HI.out.2⟩⟩, by simp [intOf]; omega⟩
          have := HI.out.1
          rw [rB_end (by omega)] at this
          exact this
    · obtain ⟨h1, h2, h3, h4, h5⟩ := HI.out
      rw [rA_end (by omega), List.append_nil] at h1
      obtain ⟨A1, c1, hv, hT⟩ := Ts.of_own h2 (by have := HLEN.out; rw [← h1] at this; omega)
      subst hv
      have H1 := Lib.hid h1; clear h1
      have H4 := Lib.hid h4; clear h4 h2 h3 HI
      have HT := Lib.hid hT; clear hT
      go_wp2_with fail
      go_ret
      rw [← H1.out]
      exact ⟨A1, c1, rfl, HT.out, H4.out⟩

theorem eq_arr3 (a b c x y z : Int) (w : World) : (Op.equalIn 10000 40 (.agg #[.int .i64 a, .int .i64 b, .int .i64 c]) (.agg #[.int .i64 x, .int .i64 y, .int .i64 z])).run Try.prog w = .ok (a == x && (b == y && c == z)) w := by
  have u3 := Try.underlying3
  obtain ⟨i, hi, hz, hs, hb⟩ := info_parts info_int
  have z3 : ∀ w, (sizeOf 3).run Try.prog w = .ok 1 w := fun w => by simp [sizeOf, typeInfo, hi, hs]
  have a3 : ∀ w, (isAgg 3).run Try.prog w = .ok false w := fun w => by unfold isAgg; rw [Sem.run_bind, run_underlying u3 w]; rfl
  rw [show (10000 : Nat) = 9999 + 1 from rfl, Op.equalIn]
  simp only [Sem.run_bind, run_underlying Try.underlying40, Result.andThen_ok]
  simp only [Std.Legacy.Range.forIn_eq_forIn_range', Std.Legacy.Range.size, Nat.sub_zero, Nat.add_sub_cancel, Nat.div_one, List.range'_succ, List.range'_zero, List.forIn_cons, List.forIn_nil]
  go_simp
  by_cases h1 : a = x <;> by_cases h2 : b = y <;> by_cases h3 : c = z <;> simp [h1, h2, h3]

theorem wpQuiet_load {P : Program} {ops : Array Oper} {C : World → Prop} {Q : Act → Prop} {a : Act} {o : Oper} {rest : List Oper} (hgd : o.guard = none) (ty : TypeId) (x : Operand) (ho : o.op = .load ty x) (p : Addr) (hx : a.eval x = .pointer (some p)) (v : Value)
    (hl : ∀ w, C w → (loadVar ty p).run P w = .ok v w) (h : wpQuiet P ops C Q rest (a.put o.dst v)) : wpQuiet P ops C Q (o :: rest) a := by
  have hw : Region.wanted o (yielded ops a.tmps) = true := by simp [Region.wanted, hgd]
  refine wpQuiet_step fun K hK => ?_
  rw [if_pos hw]
  refine ⟨v, fun w hC => ?_, hK _ h⟩
  unfold Oper.quietAt execOp
  simp only [ho, hx, Instr.loadAt, Instr.sureAddr, Sem.run_bind, Sem.run_pure, Result.andThen_ok, hl w hC]
  exact ⟨rfl, rfl⟩

theorem wpList_load_at {P : Program} {ops : Array Oper} {rest : List Oper} {o : Oper} {a : Act} {w : World} {Q : Exit → Act → World → Prop} (hgd : o.guard = none) (ty : TypeId) (x : Operand) (ho : o.op = .load ty x) (p : Addr) (hx : a.eval x = .pointer (some p)) (v : Value)
    (hl : (loadVar ty p).run P w = .ok v w) (h : wpList P ops Q rest (a.put o.dst v) w) : wpList P ops Q (o :: rest) a w :=
  wpList_plain hgd fun _ hK => by
    unfold Oper.wp execOp
    simp only [ho, hx, Instr.loadAt, Instr.sureAddr, Sem.run_bind, Sem.run_pure, Result.andThen_ok, hl]
    exact hK _ _ h
theorem run_load_int (w : World) (p : Addr) (v : Value) (h : w.cell? p = some v) : (loadVar 3 p).run Try.prog w = .ok v w := by
  have hagg : (isAgg 3).run Try.prog w = .ok false w := by unfold isAgg; rw [Sem.run_bind, run_underlying Try.underlying3 w]; rfl
  simp [loadVar, Sem.run_bind, hagg, h]
theorem wpQuiet_load' {P : Program} {ops : Array Oper} {C : World → Prop} {Q : Act → Prop} {a : Act} {o : Oper} {rest : List Oper} (hw : Region.wanted o (yielded ops a.tmps) = true) (ty : TypeId) (x : Operand) (ho : o.op = .load ty x) (p : Addr) (hx : a.eval x = .pointer (some p)) (v : Value)
    (hl : ∀ w, C w → (loadVar ty p).run P w = .ok v w) (h : wpQuiet P ops C Q rest (a.put o.dst v)) : wpQuiet P ops C Q (o :: rest) a := by
  refine wpQuiet_step fun K hK => ?_
  rw [if_pos hw]
  refine ⟨v, fun w hC => ?_, hK _ h⟩
  unfold Oper.quietAt execOp
  simp only [ho, hx, Instr.loadAt, Instr.sureAddr, Sem.run_bind, Sem.run_pure, Result.andThen_ok, hl w hC]
  exact ⟨rfl, rfl⟩

set_option maxHeartbeats 1000000 in
theorem equal_trios (A B : Option Addr) (xs ys : List (Nat × Nat × Nat)) (n m c d : Nat) (w : World) (hx : Ts w w.heap.size A n xs) (hy : Ts w w.heap.size B m ys) :
    Calls Try.prog 20 #[.slice A n c, .slice B m d] w fun e w' => e = .returned (.bool (xs == ys)) ∧ Below w.heap.size w w' := by
  have hle := hx.le
  have hle2 := hy.le
  have HX := Lib.hid hx; clear hx
  have HY := Lib.hid hy; clear hy
  by_cases hnm : n = m
  · have hbq : ((n : Int) != (m : Int)) = false := by simp [hnm]
    have hm := Lib.hid hnm; clear hnm
    go_enter Try.func20, Try.ntmps20
    go_wp2_with fail
    go_loopw [5, 13] (fun _ i wr => ∃ k : Nat, k ≤ n ∧ i = .int .i64 k ∧ xs.take k = ys.take k ∧ Below w.heap.size w wr) (fun _ i _ => n - (intOf i).toNat)
    case atStart => exact ⟨0, Nat.zero_le _, rfl, rfl, Below.refl _ _⟩
    case round =>
      obtain ⟨k, hk, rfl, ha, hbl⟩ := hrel
      have HA := Lib.hid ha; clear ha
      by_cases hlt : k < n
      · have hlt2 : k < m := by have := hm.out; omega
        obtain ⟨ad, rfl, hb1, ha1, ha2, ha3⟩ := (HX.out.below hbl).at_ hlt
        obtain ⟨ad2, rfl, hb2, hd1, hd2, hd3⟩ := (HY.out.below hbl).at_ hlt2
        have hl1 : ∀ N, (loadVar 40 (ad.add (k * 3))).run Try.prog (wr.drewN N) = .ok (.agg #[.int .i64 (tnth xs k).1, .int .i64 (tnth xs k).2.1, .int .i64 (tnth xs k).2.2]) (wr.drewN N) := fun N => run_load3 _ _ _ _ _ ha1 ha2 ha3
        have hl2 : ∀ N, (loadVar 40 (ad2.add (k * 3))).run Try.prog (wr.drewN N) = .ok (.agg #[.int .i64 (tnth ys k).1, .int .i64 (tnth ys k).2.1, .int .i64 (tnth ys k).2.2]) (wr.drewN N) := fun N => run_load3 _ _ _ _ _ hd1 hd2 hd3
        clear ha1 ha2 ha3 hd1 hd2 hd3
        have HL1 := Lib.hid hl1; clear hl1
        have HL2 := Lib.hid hl2; clear hl2
        go_wp2_with fail
        refine wp_region_quiet_lit (by kernel_rfl) (by kernel_rfl) ?_
        iterate 3 quiet_step (fail)
        refine wpQuiet_load rfl _ _ rfl (ad.add (k * 3)) rfl _ (by rintro w ⟨N, rfl⟩; exact HL1.out N) ?_
        iterate 3 quiet_step (fail)
        refine wpQuiet_load rfl _ _ rfl (ad2.add (k * 3)) rfl _ (by rintro w ⟨N, rfl⟩; exact HL2.out N) ?_
        by_cases hT : tnth xs k = tnth ys k
        · have hq : ∀ w, (Op.equalIn 10000 40 (.agg #[.int .i64 (tnth xs k).1, .int .i64 (tnth xs k).2.1, .int .i64 (tnth xs k).2.2]) (.agg #[.int .i64 (tnth ys k).1, .int .i64 (tnth ys k).2.1, .int .i64 (tnth ys k).2.2])).run Try.prog w = .ok true w := by intro w; rw [eq_arr3, hT]; simp
          have HT := Lib.hid hT; clear hT
          quiet_step (fail)
          clear hq
          refine wpQuiet_nil ?_
          intro _ hw'
          obtain ⟨nq, hw''⟩ := hw'
          subst hw''
          go_wp2_with fail
          refine ⟨⟨k + 1, by omega, by go_num, ?_, below_drewN hbl _⟩, by simp [intOf]; omega⟩
          have h1 := HX.out.len
          have h2 := HY.out.len
          rw [List.take_succ_eq_append_getElem (by omega), List.take_succ_eq_append_getElem (by omega), HA.out, ← tnth_eq (by omega), ← tnth_eq (by omega), HT.out]
        · have hq : ∀ w, (Op.equalIn 10000 40 (.agg #[.int .i64 (tnth xs k).1, .int .i64 (tnth xs k).2.1, .int .i64 (tnth xs k).2.2]) (.agg #[.int .i64 (tnth ys k).1, .int .i64 (tnth ys k).2.1, .int .i64 (tnth ys k).2.2])).run Try.prog w = .ok false w := by
            intro w; rw [eq_arr3]
            congr 1
            rw [Bool.eq_false_iff]
            intro h
            simp at h
            exact hT (Prod.ext (by omega) (Prod.ext (by omega) (by omega)))
          have HT := Lib.hid hT; clear hT
          quiet_step (fail)
          clear hq
          refine wpQuiet_nil ?_
          intro _ hw'
          obtain ⟨nq, hw''⟩ := hw'
          subst hw''
          go_wp2_with fail
          go_ret
          refine ⟨ret_bool ?_, below_drewN hbl _⟩
          have : xs ≠ ys := by
            rintro rfl
            exact HT.out rfl
          simp [this]
      · go_wp2_with fail
        go_ret
        refine ⟨ret_bool ?_, hbl⟩
        have h1 := HX.out.len
        have h2 := HY.out.len
        have h3 := HA.out
        have h4 := hm.out
        rw [List.take_of_length_le (by omega), List.take_of_length_le (by omega)] at h3
        simp [h3]
  · have hbq : ((n : Int) != (m : Int)) = true := by simp; omega
    go_enter Try.func20, Try.ntmps20
    go_wp2_with fail
    go_ret
    refine ⟨ret_bool ?_, Below.refl _ _⟩
    have h1 := HX.out.len
    have h2 := HY.out.len
    have : xs ≠ ys := by
      rintro rfl
      omega
    simp [this]
end Go.Proofs.Ytdagdamliggfmaa
