/-
Closures of cover.Check. Printed by gen/scv.py.
-/
import Derived.Test.YtpnklmgfdihjfaaK14
import Derived.BigQuiet
namespace Go.Proofs.Ytpnklmgfdihjfaa
open Go.RowKit
set_option linter.unusedVariables false
set_option linter.unusedSimpArgs false

theorem gives_dyn {P : Program} {o : Oper} {a : Act} {w : World} {Kp : Value → World → Prop} (K : FuncId) (caps : Array Value) (t : Tmp) (x : Operand) (ts : Array TypeId) (ho : o.op = .call { callee := .value (.tmp t), args := #[x], argTypes := ts }) (ht : tv a t = .func (.func K) #[] caps) (hf : callsB P K = true)
    (h : Calls P K (#[a.eval x] ++ caps) w (fun e w'' => ∃ v, e = .returned v ∧ Kp v w'')) : gives P o a.eval w Kp := by
  have hr : (execOp a.eval o).run P w = .ok (.enter K (#[a.eval x] ++ caps)) w := by
    have hh : a.eval (.tmp t) = .func (.func K) #[] caps := ht
    unfold execOp
    rw [ho]
    simp [resolve, Deferred.ofValue, invoke, hh, run_callFunc hf]
  unfold gives; rw [hr]; exact h
theorem load_fnb {o : Oper} {a : Act} {w : World} {t : Tmp} {p : Addr} {v : Value} (ho : o.op = .load 103 (.tmp t)) (hx : tv a t = .pointer (some p)) (hc : w.cell? p = some v) : gives Try.prog o a.eval w (fun z w' => z = v ∧ Below w.heap.size w w') := by
  refine gives_val v ?_ ⟨rfl, Below.refl _ _⟩
  unfold execOp; rw [ho]; simp only [eval_tmp, hx]; go_simp
theorem load_u9 {o : Oper} {a : Act} {w : World} {t : Tmp} {p : Addr} {v : Value} (ho : o.op = .load 25 (.tmp t)) (hx : tv a t = .pointer (some p)) (hc : w.cell? p = some v) : gives Try.prog o a.eval w (fun z w' => z = v ∧ Below w.heap.size w w') := by
  refine gives_val v ?_ ⟨rfl, Below.refl _ _⟩
  unfold execOp; rw [ho]; simp only [eval_tmp, hx]; go_simp
theorem andnot_u9 {o : Oper} {a : Act} {w : World} {t u : Tmp} {x y : Nat} {T T2 : TypeId} (hx : x < 4294967296) (hy : y < 4294967296) (ho : o.op = .binOp .andNot T (.tmp t) (.tmp u) T2) (h : tv a t = .int .u32 (x : Int)) (h2 : tv a u = .int .u32 (y : Int)) : gives Try.prog o a.eval w (fun v w' => v = .int .u32 ((andn x y : Nat) : Int) ∧ Below w.heap.size w w') := by
  have e := bits_andNot x y hx hy
  refine gives_val (.int .u32 ((andn x y : Nat) : Int)) ?_ ⟨rfl, Below.refl _ _⟩
  unfold execOp; rw [ho]; simp only [eval_tmp, h, h2]
  go_simp
theorem and1_b9 {o : Oper} {a : Act} {w : World} {t : Tmp} {x k : Nat} {T T2 : TypeId} (hx : x < 4294967296) (ho : o.op = .binOp .and T (.tmp t) (.const (.int .u32 1)) T2) (h : tv a t = .int .u32 ((x : Int) / 2 ^ k)) : gives Try.prog o a.eval w (fun v w' => v = .int .u32 ((bt9 x k : Nat) : Int) ∧ Below w.heap.size w w') := and1_u32 hx ho h
theorem bt9_eq (x k : Nat) : ((((bt9 x k : Nat) : Int)) == 1) = x.testBit k := by
  unfold bt9; cases x.testBit k <;> rfl
theorem sign_ge9 {x : Rat} : decide (x.num.sign ≥ 0) = decide (0 ≤ x) := by
  rw [decide_eq_decide, ← Rat.num_nonneg]
  constructor
  · intro h; by_cases h0 : 0 ≤ x.num
    · exact h0
    · have := Int.sign_eq_neg_one_of_neg (by omega : x.num < 0); omega
  · intro h; exact Int.sign_nonneg_iff.2 h
theorem sign_eq9 {x : Rat} : (x.num.sign == 0) = decide (x = 0) := by
  have e : x.num = 0 ↔ x = 0 := ⟨fun h => Rat.num_eq_zero.1 h, fun h => by rw [h]; rfl⟩
  by_cases h : x = 0
  · rw [decide_eq_true h, e.2 h]; rfl
  · have h2 : x.num ≠ 0 := fun h3 => h (e.1 h3)
    rw [decide_eq_false h]
    simpa [Int.sign_eq_zero_iff_zero] using h2
theorem sign_gt9 {x : Rat} : decide (x.num.sign > 0) = decide (0 < x) := by
  rw [decide_eq_decide]
  have e : 0 < x.num ↔ 0 < x := num_pos
  rw [← e]
  constructor
  · intro h; exact Int.sign_eq_one_iff_pos.1 (by have := Int.sign_trichotomy x.num; omega)
  · intro h; rw [Int.sign_eq_one_iff_pos.2 h]; decide
theorem rcq_ge9 {x y : Rat} : decide (rcq x y ≥ 0) = decide (y ≤ x) := by
  rw [decide_eq_decide]; unfold rcq
  split
  · rename_i h; exact ⟨fun h2 => by omega, fun h2 => absurd h (Rat.not_lt.2 h2)⟩
  · rename_i h
    exact ⟨fun _ => Rat.not_lt.1 h, fun _ => by split <;> omega⟩
theorem rcq_le9 {x y : Rat} : decide (rcq x y ≤ 0) = decide (x ≤ y) := by
  rw [decide_eq_decide]; unfold rcq
  split
  · rename_i h; exact ⟨fun _ => Rat.le_of_lt h, fun _ => by omega⟩
  · split
    · rename_i h; exact ⟨fun h2 => by omega, fun h2 => absurd h (Rat.not_lt.2 h2)⟩
    · rename_i h1 h2; exact ⟨fun _ => Rat.not_lt.1 h2, fun _ => by omega⟩
theorem rcq_eq9 {x y : Rat} : (rcq x y == 0) = decide (x = y) := by
  by_cases h : x = y
  · rw [decide_eq_true h, rcq_eq h]; rfl
  · rw [decide_eq_false h]; unfold rcq
    split
    · rfl
    · rename_i h1
      split
      · rfl
      · rename_i h2; exact absurd (Rat.le_antisymm (Rat.not_lt.1 h2) (Rat.not_lt.1 h1)) h
/-- What a call of require leaves. -/
def RqE (g : Nat) (B : Bool) (w w' : World) : Prop := Blk w' g 4 #[.bool B] ∧ w.grownBy w' (some g) ∧ KeepsN w w'
theorem RqE.after {g : Nat} {B : Bool} {w w1 w2 : World} (hb : Below w.heap.size w w1) (h : RqE g B w1 w2) : RqE g B w w2 := ⟨h.1, grown_after hb h.2.1, (KeepsN.below hb).trans h.2.2⟩
theorem Bn.grown9 {b g row : Nat} {x : Rat} {w w' : World} (h : Bn b x g w) (hg : w.grownBy w' (some row)) (hne : g ≠ row) (kp : KeepsN w w') : Bn b x g w' := by
  obtain ⟨s, A, n, c, B, m, d, h1, h2⟩ := h
  obtain ⟨s', A', n', c', B', m', d', e, h3⟩ := Rv.keepN (⟨s, A, n, c, B, m, d, rfl, h2⟩ : Rv b x (.agg #[.bool s, .slice A n c, .slice B m d]) w) kp
  cases e
  exact ⟨s, A, n, c, B, m, d, Blk.grown h1.blk3 hg (fun e => by injection e with e; exact hne e), h3⟩
/-- All of the first n. -/
def allB (f : Nat → Bool) : Nat → Bool
  | 0 => true
  | i + 1 => allB f i && f i
theorem allB_iff {f : Nat → Bool} : ∀ {n : Nat}, allB f n = true ↔ ∀ i, i < n → f i = true
  | 0 => ⟨fun _ _ h => absurd h (by omega), fun _ => rfl⟩
  | n + 1 => by
    rw [allB, Bool.and_eq_true, allB_iff]
    constructor
    · rintro ⟨h1, h2⟩ i hi
      by_cases e : i = n
      · rw [e]; exact h2
      · exact h1 i (by omega)
    · intro h; exact ⟨fun i hi => h i (by omega), h n (by omega)⟩
/-- What Check looks at. -/
def ckB (n m : Nat) (es : Nat → Nat) (s : Nat) (W P : Nat → Rat) (x : Rat) : Bool :=
  allB (fun i => decide (0 ≤ W i)) m && allB (fun v => decide (P v = 0) || (decide (0 < P v) && s.testBit v)) n && allB (fun v => !s.testBit v || decide (1 ≤ tsm (fun i => (es i).testBit v) W m)) n
    && allB (fun i => decide (tsm (fun v => (es i).testBit v) P n ≤ 1)) m && decide (tsm (fun _ => true) W m = x) && decide (tsm (fun _ => true) P n = x)
theorem tsm_all (W : Nat → Rat) (m : Nat) : tsm (fun _ => true) W m = sm W m := rfl
theorem ckB_iff {n m : Nat} {es : Nat → Nat} {s : Nat} {W P : Nat → Rat} {x : Rat} : ckB n m es s W P x = true ↔ CovOK n m es s W P x := by
  unfold ckB
  simp only [Bool.and_eq_true, allB_iff, decide_eq_true_eq, Bool.or_eq_true, Bool.not_eq_true', tsm_all]
  constructor
  · rintro ⟨⟨⟨⟨⟨h1, h2⟩, h3⟩, h4⟩, h5⟩, h6⟩
    refine ⟨h1, fun v hv => ?_, fun v hv hb => ?_, fun v hv hb => ?_, h4, of_decide_eq_true h5, of_decide_eq_true h6⟩
    · rcases h2 v hv with h | h
      · rw [h]; exact Rat.le_refl
      · exact Rat.le_of_lt h.1
    · rcases h2 v hv with h | h
      · exact h
      · rw [hb] at h; exact absurd h.2 (by decide)
    · rcases h3 v hv with h | h
      · rw [hb] at h; exact absurd h (by decide)
      · exact h
  · intro h
    refine ⟨⟨⟨⟨⟨h.w0, fun v hv => ?_⟩, fun v hv => ?_⟩, h.pac⟩, decide_eq_true h.ws⟩, decide_eq_true h.ps⟩
    · by_cases e : P v = 0
      · exact .inl e
      · refine .inr ⟨by have := h.p0 v hv; grind, ?_⟩
        cases hb : s.testBit v with
        | true => rfl
        | false => exact absurd (h.pz v hv hb) e
    · cases hb : s.testBit v with
      | false => exact .inl rfl
      | true => exact .inr (h.cov v hv hb)
set_option maxRecDepth 100000 in
set_option maxHeartbeats 8000000 in
theorem ck1_any (g7 : Nat) (B c : Bool) (w : World) (hB : Blk w g7 4 #[.bool B]) : Calls Try.prog 55 (#[.bool c] ++ #[.pointer (some ⟨g7, 0, none⟩)]) w (fun e w' => e = .returned (.tuple #[]) ∧ RqE g7 (B && c) w w') := by
  have HB := Lib.hid hB; clear hB
  show Calls Try.prog 55 #[.bool c, .pointer (some ⟨g7, 0, none⟩)] w _
  have x0 := Blk.at0 HB.out (Below.refl _ _)
  have f0 := HB.out.frozen 0
  have kn := fun u => KeepsN.blk HB.out (i := 0) (by show 0 < 1; omega) (by intro x; simp) u
  have gn := fun u => only_setCell (World.grownBy.refl w (some g7)) (p := ⟨g7, 0, none⟩) (.inl rfl) u
  have HK := Lib.hid kn; have HGn := Lib.hid gn; clear kn gn
  go_enter Try.func55, Try.ntmps55
  cases B with
  | false =>
    go_wp2_with fail
    exact bodyPost_end (results_none rfl _ _ _) rfl ⟨rfl, HB.out.set_ 0 _, HGn.out _, HK.out _⟩
  | true =>
    go_wp2_with fail
    exact bodyPost_end (results_none rfl _ _ _) rfl ⟨rfl, by cases c <;> exact HB.out.set_ 0 _, HGn.out _, HK.out _⟩
set_option maxRecDepth 100000 in
set_option maxHeartbeats 8000000 in
theorem ck2_any (i g7 g9 b : Nat) (B : Bool) (x : Rat) (v : Value) (w : World) (hF : Blk w g9 103 #[.func (.func 55) #[] #[.pointer (some ⟨g7, 0, none⟩)]]) (hB : Blk w g7 4 #[.bool B]) (hv : Rw b x v w) :
    Calls Try.prog 57 (#[.int .i64 (i : Int), v] ++ #[.pointer (some ⟨g9, 0, none⟩)]) w (fun e w' => e = .returned (.tuple #[]) ∧ RqE g7 (B && decide (0 ≤ x)) w w') := by
  have HF := Lib.hid hF; have HB7 := Lib.hid hB; have HV := Lib.hid hv; clear hF hB
  obtain ⟨s0, A0, k0, c0, B0, m0, d0, rfl, -⟩ := hv
  show Calls Try.prog 57 #[.int .i64 (i : Int), .agg #[.bool s0, .slice A0 k0 c0, .slice B0 m0 d0], .pointer (some ⟨g9, 0, none⟩)] w _
  have HL := Lib.hid (show g9 < w.heap.size ∧ g7 < w.heap.size from ⟨HF.out.lt, HB7.out.lt⟩)
  go_enter Try.func57, Try.ntmps57
  go_upto_region 1 with (fail)
  have hbw := al w (.cells #[.bool s0, .slice A0 k0 c0, .slice B0 m0 d0] 31)
  have HY := Lib.hid (Blk.new w 31 #[.bool s0, .slice A0 k0 c0, .slice B0 m0 d0])
  have HB := Lib.hid hbw
  replace HF := Lib.hid (HF.out.keep hbw)
  replace HB7 := Lib.hid (HB7.out.keep hbw)
  replace HV := Lib.hid (HV.out.new hbw)
  clear hbw
  generalize w.alloc (.cells #[.bool s0, .slice A0 k0 c0, .slice B0 m0 d0] 31) = w1 at *
  obtain ⟨g6, hg6⟩ : ∃ g6, g6 = w.heap.size := ⟨_, rfl⟩
  rw [← hg6] at HY ⊢
  have HGg6 := Lib.hid (show w.heap.size ≤ g6 from by omega)
  clear hg6
  have HYb := Lib.hid (show Bx b x g6 w1 from by obtain ⟨s1, A1, n1, c1, B1, m1, d1, e, h⟩ := HV.out; cases e; exact ⟨_, _, _, _, _, _, _, HY.out, h⟩)
  refine wp_region_join (kss := [[], [], [(1, 6)], [(2, 7)]]) [(2, .pointer (some ⟨g9, 0, none⟩)), (4, .pointer (some ⟨g6, 0, none⟩))] [EV (.func (.func 55) #[] #[.pointer (some ⟨g7, 0, none⟩)]), Rw (b) (x), EV (.int .i64 ((x).num.sign)), EV (.bool (decide (0 ≤ x)))] 4 [] (by kernel_rfl) (by kernel_rfl) ⟨rfl, rfl, trivial⟩ [false, false, false, false] ?_ ?_ ?_ ?_
  · exact fun i hi => absurd hi (by simp)
  · exact ⟨eI, fun _ _ _ h hb => h.new hb, eI, eI, trivial⟩
  · refine ⟨?_, ?_, ?_, ?_, trivial⟩
    · exact fun aa ww hb he hd => ob_plain rfl (load_fnb rfl he.1 (Blk.at0 HF.out hb))
    · exact fun aa ww hb he hd => ob_plain rfl (load_bx rfl he.2.1 (Bx.new HYb.out hb))
    · exact fun aa ww hb he hd => ob_plain rfl (gives_call1 _ _ _ rfl (by kernel_rfl) (sign_v (hd.1)))
    · exact fun aa ww hb he hd => ob_plain rfl (gives_ge_int ((x).num.sign) 0 .i64 _ _ _ _ rfl hd.1 rfl ⟨congrArg Value.bool (sign_ge9), Below.refl _ _⟩)
  intro vs w3 hb hR _
  have e5 : vs 0 = .func (.func 55) #[] #[.pointer (some ⟨g7, 0, none⟩)] := hR 0 (by decide)
  have e8 : vs 3 = .bool (decide (0 ≤ x)) := hR 3 (by decide)
  clear hR
  simp only [putsL, Nat.zero_add, Nat.reduceAdd, List.take_succ_cons, List.take_zero, Act.put, List.setIfInBounds_toArray, List.set_cons_zero, List.set_cons_succ]
  rw [e5, e8]
  clear e5 e8
  replace HF := Lib.hid (HF.out.keep hb)
  replace HB7 := Lib.hid (HB7.out.keep hb)
  replace HV := Lib.hid (HV.out.new hb)
  replace HB := Lib.hid (bthen HB.out hb HB.out.size)
  replace HY := Lib.hid (HY.out.keep hb)
  clear hb
  show wpAny _ _ _ _ 1 _ _ _
  refine wpAny_next (i := 4) (by kernel_rfl) rfl rfl (wp_of_gives (gives_dyn _ _ 5 _ _ rfl rfl (by kernel_rfl) ((ck1_any g7 B (decide (0 ≤ x)) _ HB7.out).mono (fun (e : Ending) w9 hq => (⟨.tuple #[], hq.1, rfl, hq.2⟩ : ∃ v, e = .returned v ∧ (v = .tuple #[] ∧ RqE g7 (B && decide (0 ≤ x)) _ w9))))) ?_)
  rintro _ w4 ⟨rfl, hq⟩
  show wpAny _ _ _ _ _ _ (Act.put _ (some 9) _) _
  simp only [Act.put, List.setIfInBounds_toArray, List.set_cons_zero, List.set_cons_succ]
  refine wpAny_end (by kernel_rfl) (calm_normal ?_) _
  go_wp2_with fail
  exact bodyPost_end (results_none rfl _ _ _) rfl ⟨rfl, RqE.after HB.out hq⟩
/-- Whether a vertex's weight is allowed. -/
def ckP (s i : Nat) (x : Rat) : Bool := decide (x = 0) || (decide (0 < x) && s.testBit i)
set_option maxRecDepth 100000 in
set_option maxHeartbeats 8000000 in
theorem ck3_any (i g4 g7 g9 b s : Nat) (B : Bool) (x : Rat) (v : Value) (w : World) (hF : Blk w g9 103 #[.func (.func 55) #[] #[.pointer (some ⟨g7, 0, none⟩)]]) (hB : Blk w g7 4 #[.bool B]) (hS : Blk w g4 25 #[.int .u32 (s : Int)]) (hs : s < 4294967296) (hi : i < 32) (hv : Rw b x v w) :
    Calls Try.prog 58 (#[.int .i64 (i : Int), v] ++ #[.pointer (some ⟨g9, 0, none⟩), .pointer (some ⟨g4, 0, none⟩)]) w (fun e w' => e = .returned (.tuple #[]) ∧ RqE g7 (B && ckP s i x) w w') := by
  have HF := Lib.hid hF; have HB7 := Lib.hid hB; have HV := Lib.hid hv; clear hF hB; have HS := Lib.hid hS; have HS32 := Lib.hid hs; have HI := Lib.hid hi; clear hS hs hi
  obtain ⟨s0, A0, k0, c0, B0, m0, d0, rfl, -⟩ := hv
  show Calls Try.prog 58 #[.int .i64 (i : Int), .agg #[.bool s0, .slice A0 k0 c0, .slice B0 m0 d0], .pointer (some ⟨g9, 0, none⟩), .pointer (some ⟨g4, 0, none⟩)] w _
  have HL := Lib.hid (show g9 < w.heap.size ∧ g7 < w.heap.size from ⟨HF.out.lt, HB7.out.lt⟩)
  go_enter Try.func58, Try.ntmps58
  go_upto_region 1 with (fail)
  have hbw := al w (.cells #[.bool s0, .slice A0 k0 c0, .slice B0 m0 d0] 31)
  have HY := Lib.hid (Blk.new w 31 #[.bool s0, .slice A0 k0 c0, .slice B0 m0 d0])
  have HB := Lib.hid hbw
  replace HF := Lib.hid (HF.out.keep hbw)
  replace HB7 := Lib.hid (HB7.out.keep hbw)
  replace HV := Lib.hid (HV.out.new hbw)
  replace HS := Lib.hid (HS.out.keep hbw)
  clear hbw
  generalize w.alloc (.cells #[.bool s0, .slice A0 k0 c0, .slice B0 m0 d0] 31) = w1 at *
  obtain ⟨g6, hg6⟩ : ∃ g6, g6 = w.heap.size := ⟨_, rfl⟩
  rw [← hg6] at HY ⊢
  have HGg6 := Lib.hid (show w.heap.size ≤ g6 from by omega)
  clear hg6
  have HYb := Lib.hid (show Bx b x g6 w1 from by obtain ⟨s1, A1, n1, c1, B1, m1, d1, e, h⟩ := HV.out; cases e; exact ⟨_, _, _, _, _, _, _, HY.out, h⟩)
  by_cases h0 : x = 0
  · skip
    refine wp_region_join (kss := [[], [], [(1, 7)], [(2, 8)], [(3, 9)], [(4, 10)], [(4, 10), (5, 11)], [(4, 10), (6, 12)], [(4, 10), (7, 13)], [(8, 14)], [(8, 14)], [(8, 14), (9, 15), (10, 16)], [(8, 14), (11, 17)], [(8, 14), (12, 18)], [(4, 10), (8, 14), (13, 19)], [(4, 10), (14, 20)]]) [(2, .pointer (some ⟨g9, 0, none⟩)), (5, .pointer (some ⟨g6, 0, none⟩)), (3, .pointer (some ⟨g4, 0, none⟩)), (0, .int .i64 ((i : Int)))] [EV (.func (.func 55) #[] #[.pointer (some ⟨g7, 0, none⟩)]), Rw (b) (x), EV (.int .i64 ((x).num.sign)), EV (.bool true), EV (.bool true), EV (undef), EV (undef), EV (undef), EV (undef), EV (undef), EV (undef), EV (undef), EV (undef), EV (undef), EV (undef), EV (.bool true)] 16 [] (by kernel_rfl) (by kernel_rfl) ⟨rfl, rfl, rfl, rfl, trivial⟩ [false, false, false, false, false, false, false, false, false, false, false, false, false, false, false, false] ?_ ?_ ?_ ?_
    · exact fun i hi => absurd hi (by simp)
    · exact ⟨eI, fun _ _ _ h hb => h.new hb, eI, eI, eI, eI, eI, eI, eI, eI, eI, eI, eI, eI, eI, eI, trivial⟩
    · refine ⟨?_, ?_, ?_, ?_, ?_, ?_, ?_, ?_, ?_, ?_, ?_, ?_, ?_, ?_, ?_, ?_, trivial⟩
      · exact fun aa ww hb he hd => ob_plain rfl (load_fnb rfl he.1 (Blk.at0 HF.out hb))
      · exact fun aa ww hb he hd => ob_plain rfl (load_bx rfl he.2.1 (Bx.new HYb.out hb))
      · exact fun aa ww hb he hd => ob_plain rfl (gives_call1 _ _ _ rfl (by kernel_rfl) (sign_v (hd.1)))
      · exact fun aa ww hb he hd => ob_plain rfl (gives_eq_int ((x).num.sign) 0 .i64 _ _ _ _ rfl hd.1 rfl ⟨congrArg Value.bool (sign_eq9.trans (decide_eq_true h0)), Below.refl _ _⟩)
      · exact fun _ _ _ he hd => ob_mv rfl rfl hd.1
      · exact fun aa ww hb he hd => ob_off 10 rfl (by kernel_rfl) hd.1 rfl
      · exact fun aa ww hb he hd => ob_off 10 rfl (by kernel_rfl) hd.1 rfl
      · exact fun aa ww hb he hd => ob_off 10 rfl (by kernel_rfl) hd.1 rfl
      · exact fun aa ww hb he hd => ob_off 10 rfl (by kernel_rfl) hd.1 rfl
      · exact fun aa ww hb he hd => ob_undef 14 rfl (by kernel_rfl) hd.1 rfl
      · exact fun aa ww hb he hd => ob_undef 14 rfl (by kernel_rfl) hd.1 rfl
      · exact fun aa ww hb he hd => ob_undef 14 rfl (by kernel_rfl) hd.1 rfl
      · exact fun aa ww hb he hd => ob_undef 14 rfl (by kernel_rfl) hd.1 rfl
      · exact fun aa ww hb he hd => ob_undef 14 rfl (by kernel_rfl) hd.1 rfl
      · exact fun aa ww hb he hd => ob_off 10 rfl (by kernel_rfl) hd.1 rfl
      · exact fun aa ww hb he hd => ob_plain rfl (gives_pick true _ _ _ rfl hd.1 ⟨rfl, Below.refl _ _⟩)
    intro vs w3 hb hR _
    have e6 : vs 0 = .func (.func 55) #[] #[.pointer (some ⟨g7, 0, none⟩)] := hR 0 (by decide)
    have e21 : vs 15 = .bool true := hR 15 (by decide)
    clear hR
    simp only [putsL, Nat.zero_add, Nat.reduceAdd, List.take_succ_cons, List.take_zero, Act.put, List.setIfInBounds_toArray, List.set_cons_zero, List.set_cons_succ]
    rw [e6, e21]
    clear e6 e21
    replace HF := Lib.hid (HF.out.keep hb)
    replace HB7 := Lib.hid (HB7.out.keep hb)
    replace HV := Lib.hid (HV.out.new hb)
    replace HS := Lib.hid (HS.out.keep hb)
    replace HB := Lib.hid (bthen HB.out hb HB.out.size)
    replace HY := Lib.hid (HY.out.keep hb)
    clear hb
    show wpAny _ _ _ _ 1 _ _ _
    refine wpAny_next (i := 16) (by kernel_rfl) rfl rfl (wp_of_gives (gives_dyn _ _ 6 _ _ rfl rfl (by kernel_rfl) ((ck1_any g7 B true _ HB7.out).mono (fun (e : Ending) w9 hq => (⟨.tuple #[], hq.1, rfl, hq.2⟩ : ∃ v, e = .returned v ∧ (v = .tuple #[] ∧ RqE g7 (B && true) _ w9))))) ?_)
    rintro _ w4 ⟨rfl, hq⟩
    show wpAny _ _ _ _ _ _ (Act.put _ (some 22) _) _
    simp only [Act.put, List.setIfInBounds_toArray, List.set_cons_zero, List.set_cons_succ]
    refine wpAny_end (by kernel_rfl) (calm_normal ?_) _
    go_wp2_with fail
    exact bodyPost_end (results_none rfl _ _ _) rfl ⟨rfl, by rw [show ckP s i x = true from by unfold ckP; rw [decide_eq_true h0]; rfl]; exact RqE.after HB.out hq⟩
  by_cases hp : 0 < x
  rotate_left
  · skip
    refine wp_region_join (kss := [[], [], [(1, 7)], [(2, 8)], [(3, 9)], [(4, 10)], [(4, 10), (5, 11)], [(4, 10), (6, 12)], [(4, 10), (7, 13)], [(8, 14)], [(8, 14)], [(8, 14), (9, 15), (10, 16)], [(8, 14), (11, 17)], [(8, 14), (12, 18)], [(4, 10), (8, 14), (13, 19)], [(4, 10), (14, 20)]]) [(2, .pointer (some ⟨g9, 0, none⟩)), (5, .pointer (some ⟨g6, 0, none⟩)), (3, .pointer (some ⟨g4, 0, none⟩)), (0, .int .i64 ((i : Int)))] [EV (.func (.func 55) #[] #[.pointer (some ⟨g7, 0, none⟩)]), Rw (b) (x), EV (.int .i64 ((x).num.sign)), EV (.bool false), EV (.bool false), Rw (b) (x), EV (.int .i64 ((x).num.sign)), EV (.bool false), EV (.bool false), EV (undef), EV (undef), EV (undef), EV (undef), EV (undef), EV (.bool false), EV (.bool false)] 16 [] (by kernel_rfl) (by kernel_rfl) ⟨rfl, rfl, rfl, rfl, trivial⟩ [false, false, false, false, false, false, false, false, false, false, false, false, false, false, false, false] ?_ ?_ ?_ ?_
    · exact fun i hi => absurd hi (by simp)
    · exact ⟨eI, fun _ _ _ h hb => h.new hb, eI, eI, eI, fun _ _ _ h hb => h.new hb, eI, eI, eI, eI, eI, eI, eI, eI, eI, eI, trivial⟩
    · refine ⟨?_, ?_, ?_, ?_, ?_, ?_, ?_, ?_, ?_, ?_, ?_, ?_, ?_, ?_, ?_, ?_, trivial⟩
      · exact fun aa ww hb he hd => ob_plain rfl (load_fnb rfl he.1 (Blk.at0 HF.out hb))
      · exact fun aa ww hb he hd => ob_plain rfl (load_bx rfl he.2.1 (Bx.new HYb.out hb))
      · exact fun aa ww hb he hd => ob_plain rfl (gives_call1 _ _ _ rfl (by kernel_rfl) (sign_v (hd.1)))
      · exact fun aa ww hb he hd => ob_plain rfl (gives_eq_int ((x).num.sign) 0 .i64 _ _ _ _ rfl hd.1 rfl ⟨congrArg Value.bool (sign_eq9.trans (decide_eq_false h0)), Below.refl _ _⟩)
      · exact fun _ _ _ he hd => ob_mv rfl rfl hd.1
      · exact fun aa ww hb he hd => ob_on 10 rfl (by kernel_rfl) hd.1 (load_bx rfl he.2.1 (Bx.new HYb.out hb))
      · exact fun aa ww hb he hd => ob_on 10 rfl (by kernel_rfl) hd.1 (gives_call1 _ _ _ rfl (by kernel_rfl) (sign_v (hd.2.1)))
      · exact fun aa ww hb he hd => ob_on 10 rfl (by kernel_rfl) hd.1 (gives_gt_int ((x).num.sign) 0 .i64 _ _ _ _ rfl hd.2.1 rfl ⟨congrArg Value.bool (sign_gt9.trans (decide_eq_false hp)), Below.refl _ _⟩)
      · exact fun aa ww hb he hd => ob_on 10 rfl (by kernel_rfl) hd.1 (gives_move _ rfl ⟨hd.2.1, Below.refl _ _⟩)
      · exact fun aa ww hb he hd => ob_off 14 rfl (by kernel_rfl) hd.1 rfl
      · exact fun aa ww hb he hd => ob_off 14 rfl (by kernel_rfl) hd.1 rfl
      · exact fun aa ww hb he hd => ob_off 14 rfl (by kernel_rfl) hd.1 rfl
      · exact fun aa ww hb he hd => ob_off 14 rfl (by kernel_rfl) hd.1 rfl
      · exact fun aa ww hb he hd => ob_off 14 rfl (by kernel_rfl) hd.1 rfl
      · exact fun aa ww hb he hd => ob_on 10 rfl (by kernel_rfl) hd.1 (gives_pick false _ _ _ rfl hd.2.1 ⟨rfl, Below.refl _ _⟩)
      · exact fun aa ww hb he hd => ob_plain rfl (gives_pick false _ _ _ rfl hd.1 ⟨hd.2.1, Below.refl _ _⟩)
    intro vs w3 hb hR _
    have e6 : vs 0 = .func (.func 55) #[] #[.pointer (some ⟨g7, 0, none⟩)] := hR 0 (by decide)
    have e21 : vs 15 = .bool false := hR 15 (by decide)
    clear hR
    simp only [putsL, Nat.zero_add, Nat.reduceAdd, List.take_succ_cons, List.take_zero, Act.put, List.setIfInBounds_toArray, List.set_cons_zero, List.set_cons_succ]
    rw [e6, e21]
    clear e6 e21
    replace HF := Lib.hid (HF.out.keep hb)
    replace HB7 := Lib.hid (HB7.out.keep hb)
    replace HV := Lib.hid (HV.out.new hb)
    replace HS := Lib.hid (HS.out.keep hb)
    replace HB := Lib.hid (bthen HB.out hb HB.out.size)
    replace HY := Lib.hid (HY.out.keep hb)
    clear hb
    show wpAny _ _ _ _ 1 _ _ _
    refine wpAny_next (i := 16) (by kernel_rfl) rfl rfl (wp_of_gives (gives_dyn _ _ 6 _ _ rfl rfl (by kernel_rfl) ((ck1_any g7 B false _ HB7.out).mono (fun (e : Ending) w9 hq => (⟨.tuple #[], hq.1, rfl, hq.2⟩ : ∃ v, e = .returned v ∧ (v = .tuple #[] ∧ RqE g7 (B && false) _ w9))))) ?_)
    rintro _ w4 ⟨rfl, hq⟩
    show wpAny _ _ _ _ _ _ (Act.put _ (some 22) _) _
    simp only [Act.put, List.setIfInBounds_toArray, List.set_cons_zero, List.set_cons_succ]
    refine wpAny_end (by kernel_rfl) (calm_normal ?_) _
    go_wp2_with fail
    exact bodyPost_end (results_none rfl _ _ _) rfl ⟨rfl, by rw [show ckP s i x = false from by unfold ckP; rw [decide_eq_false h0, decide_eq_false hp]; rfl]; exact RqE.after HB.out hq⟩
  · skip
    refine wp_region_join (kss := [[], [], [(1, 7)], [(2, 8)], [(3, 9)], [(4, 10)], [(4, 10), (5, 11)], [(4, 10), (6, 12)], [(4, 10), (7, 13)], [(8, 14)], [(8, 14)], [(8, 14), (9, 15), (10, 16)], [(8, 14), (11, 17)], [(8, 14), (12, 18)], [(4, 10), (8, 14), (13, 19)], [(4, 10), (14, 20)]]) [(2, .pointer (some ⟨g9, 0, none⟩)), (5, .pointer (some ⟨g6, 0, none⟩)), (3, .pointer (some ⟨g4, 0, none⟩)), (0, .int .i64 ((i : Int)))] [EV (.func (.func 55) #[] #[.pointer (some ⟨g7, 0, none⟩)]), Rw (b) (x), EV (.int .i64 ((x).num.sign)), EV (.bool false), EV (.bool false), Rw (b) (x), EV (.int .i64 ((x).num.sign)), EV (.bool true), EV (.bool true), EV (.int .u32 ((s : Int))), EV (.int .i64 ((i : Int))), EV (.int .u32 (((s : Int) / 2 ^ i))), EV (.int .u32 (((bt9 s i : Nat) : Int))), EV (.bool (s.testBit i)), EV (.bool (s.testBit i)), EV (.bool (s.testBit i))] 16 [] (by kernel_rfl) (by kernel_rfl) ⟨rfl, rfl, rfl, rfl, trivial⟩ [false, false, false, false, false, false, false, false, false, false, false, false, false, false, false, false] ?_ ?_ ?_ ?_
    · exact fun i hi => absurd hi (by simp)
    · exact ⟨eI, fun _ _ _ h hb => h.new hb, eI, eI, eI, fun _ _ _ h hb => h.new hb, eI, eI, eI, eI, eI, eI, eI, eI, eI, eI, trivial⟩
    · refine ⟨?_, ?_, ?_, ?_, ?_, ?_, ?_, ?_, ?_, ?_, ?_, ?_, ?_, ?_, ?_, ?_, trivial⟩
      · exact fun aa ww hb he hd => ob_plain rfl (load_fnb rfl he.1 (Blk.at0 HF.out hb))
      · exact fun aa ww hb he hd => ob_plain rfl (load_bx rfl he.2.1 (Bx.new HYb.out hb))
      · exact fun aa ww hb he hd => ob_plain rfl (gives_call1 _ _ _ rfl (by kernel_rfl) (sign_v (hd.1)))
      · exact fun aa ww hb he hd => ob_plain rfl (gives_eq_int ((x).num.sign) 0 .i64 _ _ _ _ rfl hd.1 rfl ⟨congrArg Value.bool (sign_eq9.trans (decide_eq_false h0)), Below.refl _ _⟩)
      · exact fun _ _ _ he hd => ob_mv rfl rfl hd.1
      · exact fun aa ww hb he hd => ob_on 10 rfl (by kernel_rfl) hd.1 (load_bx rfl he.2.1 (Bx.new HYb.out hb))
      · exact fun aa ww hb he hd => ob_on 10 rfl (by kernel_rfl) hd.1 (gives_call1 _ _ _ rfl (by kernel_rfl) (sign_v (hd.2.1)))
      · exact fun aa ww hb he hd => ob_on 10 rfl (by kernel_rfl) hd.1 (gives_gt_int ((x).num.sign) 0 .i64 _ _ _ _ rfl hd.2.1 rfl ⟨congrArg Value.bool (sign_gt9.trans (decide_eq_true hp)), Below.refl _ _⟩)
      · exact fun aa ww hb he hd => ob_on 10 rfl (by kernel_rfl) hd.1 (gives_move _ rfl ⟨hd.2.1, Below.refl _ _⟩)
      · exact fun aa ww hb he hd => ob_on 14 rfl (by kernel_rfl) hd.1 (load_u9 rfl he.2.2.1 (Blk.at0 HS.out hb))
      · exact fun aa ww hb he hd => ob_on 14 rfl (by kernel_rfl) hd.1 (gives_move _ rfl ⟨he.2.2.2.1, Below.refl _ _⟩)
      · exact fun aa ww hb he hd => ob_on 14 rfl (by kernel_rfl) hd.1 (shr_u32 HI.out rfl hd.2.1 hd.2.2.1)
      · exact fun aa ww hb he hd => ob_on 14 rfl (by kernel_rfl) hd.1 (and1_b9 HS32.out rfl hd.2.1)
      · exact fun aa ww hb he hd => ob_on 14 rfl (by kernel_rfl) hd.1 (gives_eq_int (((bt9 s i : Nat) : Int)) 1 .u32 _ _ _ _ rfl hd.2.1 rfl ⟨congrArg Value.bool (bt9_eq s i), Below.refl _ _⟩)
      · exact fun aa ww hb he hd => ob_on 10 rfl (by kernel_rfl) hd.1 (gives_pick true _ _ _ rfl hd.2.1 ⟨hd.2.2.1, Below.refl _ _⟩)
      · exact fun aa ww hb he hd => ob_plain rfl (gives_pick false _ _ _ rfl hd.1 ⟨hd.2.1, Below.refl _ _⟩)
    intro vs w3 hb hR _
    have e6 : vs 0 = .func (.func 55) #[] #[.pointer (some ⟨g7, 0, none⟩)] := hR 0 (by decide)
    have e21 : vs 15 = .bool (s.testBit i) := hR 15 (by decide)
    clear hR
    simp only [putsL, Nat.zero_add, Nat.reduceAdd, List.take_succ_cons, List.take_zero, Act.put, List.setIfInBounds_toArray, List.set_cons_zero, List.set_cons_succ]
    rw [e6, e21]
    clear e6 e21
    replace HF := Lib.hid (HF.out.keep hb)
    replace HB7 := Lib.hid (HB7.out.keep hb)
    replace HV := Lib.hid (HV.out.new hb)
    replace HS := Lib.hid (HS.out.keep hb)
    replace HB := Lib.hid (bthen HB.out hb HB.out.size)
    replace HY := Lib.hid (HY.out.keep hb)
    clear hb
    show wpAny _ _ _ _ 1 _ _ _
    refine wpAny_next (i := 16) (by kernel_rfl) rfl rfl (wp_of_gives (gives_dyn _ _ 6 _ _ rfl rfl (by kernel_rfl) ((ck1_any g7 B (s.testBit i) _ HB7.out).mono (fun (e : Ending) w9 hq => (⟨.tuple #[], hq.1, rfl, hq.2⟩ : ∃ v, e = .returned v ∧ (v = .tuple #[] ∧ RqE g7 (B && (s.testBit i)) _ w9))))) ?_)
    rintro _ w4 ⟨rfl, hq⟩
    show wpAny _ _ _ _ _ _ (Act.put _ (some 22) _) _
    simp only [Act.put, List.setIfInBounds_toArray, List.set_cons_zero, List.set_cons_succ]
    refine wpAny_end (by kernel_rfl) (calm_normal ?_) _
    go_wp2_with fail
    exact bodyPost_end (results_none rfl _ _ _) rfl ⟨rfl, by rw [show ckP s i x = (s.testBit i) from by unfold ckP; rw [decide_eq_false h0, decide_eq_true hp]; rfl]; exact RqE.after HB.out hq⟩
set_option maxRecDepth 100000 in
set_option maxHeartbeats 8000000 in
theorem ck4_any (i v g3 g10 len ce : Nat) (n : Int) (AE : Option Addr) (es : List Nat) (w : World) (hG : Blk w g3 24 #[.int .i64 n, .slice AE len ce]) (hE : Es w w.heap.size AE len es) (hV : Blk w g10 3 #[.int .i64 (v : Int)]) (hi : i < len) (hv : v < 32) :
    Calls Try.prog 60 (#[.int .i64 (i : Int)] ++ #[.pointer (some ⟨g3, 0, none⟩), .pointer (some ⟨g10, 0, none⟩)]) w (fun e w' => e = .returned (.bool ((nth es i).testBit v)) ∧ Below w.heap.size w w') := by
  have HE := Lib.hid hE; clear hE
  show Calls Try.prog 60 #[.int .i64 (i : Int), .pointer (some ⟨g3, 0, none⟩), .pointer (some ⟨g10, 0, none⟩)] w _
  obtain ⟨ad, rfl, -, hc⟩ := HE.out.at_ hi
  have he := HE.out.lt hi
  obtain ⟨e, hee⟩ : ∃ e, e = nth es i := ⟨_, rfl⟩
  rw [← hee] at hc he ⊢
  have hbit := bit_one9 e v he
  have x1 := Blk.at1 hG (Below.refl _ _); have x0 := Blk.at0 hV (Below.refl _ _)
  have i0 : (0 : Int) ≤ (i : Int) := by omega
  have i1 : (i : Int) < (len : Int) := by omega
  have v0 : (0 : Int) ≤ (v : Int) := by omega
  have v1 : (v : Int) < 32 := by omega
  clear hG hV HE hee
  go_enter Try.func60, Try.ntmps60
  go_wp2_with fail
  go_quiet (fail)
  go_wp2_with fail
  go_ret
  exact ⟨rfl, below_drewN (Below.refl _ _) _⟩
set_option maxRecDepth 100000 in
set_option maxHeartbeats 8000000 in
theorem ck5_any (i e g13 : Nat) (w : World) (hE : Blk w g13 25 #[.int .u32 (e : Int)]) (he : e < 4294967296) (hi : i < 32) :
    Calls Try.prog 61 (#[.int .i64 (i : Int)] ++ #[.pointer (some ⟨g13, 0, none⟩)]) w (fun z w' => z = .returned (.bool (e.testBit i)) ∧ Below w.heap.size w w') := by
  show Calls Try.prog 61 #[.int .i64 (i : Int), .pointer (some ⟨g13, 0, none⟩)] w _
  have hbit := bit_one9 e i he
  have x0 := Blk.at0 hE (Below.refl _ _)
  have v0 : (0 : Int) ≤ (i : Int) := by omega
  have v1 : (i : Int) < 32 := by omega
  clear hE
  go_enter Try.func61, Try.ntmps61
  go_wp2_with fail
  go_ret
  exact ⟨rfl, Below.refl _ _⟩
theorem ck6_any (i : Nat) (w : World) : Calls Try.prog 62 (#[.int .i64 (i : Int)] ++ #[]) w (fun z w' => z = .returned (.bool true) ∧ Below w.heap.size w w') := by
  show Calls Try.prog 62 #[.int .i64 (i : Int)] w _
  go_enter Try.func62, Try.ntmps62
  go_wp2_with fail
  go_ret
  exact ⟨rfl, Below.refl _ _⟩
end Go.Proofs.Ytpnklmgfdihjfaa
