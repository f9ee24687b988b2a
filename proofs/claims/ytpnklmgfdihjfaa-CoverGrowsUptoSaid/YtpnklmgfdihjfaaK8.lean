/-
Contract of leaving. Regions printed by gen/sx.py.
Contract of maximize: a run of Bland's rule up to its end. Region 4 printed by gen/sx.py.
Contract of objective. Regions 4 and 10 printed by gen/sx.py.
-/
import Derived.Test.YtpnklmgfdihjfaaK7
import Derived.StillTail
import Derived.Test.YtpnklmgfdihjfaaK6
import Derived.Deep.LoopGhost
namespace Go.Proofs.Ytpnklmgfdihjfaa
open Go.RowKit
set_option linter.unusedVariables false
set_option linter.unusedSimpArgs false

/-- The row that leaves, among the first i. -/
structure Lv (R : Nat) (S : Tab) (k i r : Nat) : Prop where
  lt : r < i
  pos : 0 < S.T r k
  least : ∀ l, l < i → 0 < S.T l k → S.T r R / S.T r k ≤ S.T l R / S.T l k ∧ (S.T l R / S.T l k ≤ S.T r R / S.T r k → S.b r ≤ S.b l)
theorem Lv.first {R : Nat} {S : Tab} {k i : Nat} (h : ∀ l, l < i → S.T l k ≤ 0) (hp : 0 < S.T i k) : Lv R S k (i + 1) i := by
  refine ⟨by omega, hp, fun l hl hlp => ?_⟩
  by_cases hli : l = i
  · subst hli; exact ⟨Rat.le_refl, fun _ => Nat.le_refl _⟩
  · have := h l (by omega); grind
theorem Lv.skip {R : Nat} {S : Tab} {k i r : Nat} (h : Lv R S k i r) (hp : S.T i k ≤ 0) : Lv R S k (i + 1) r := by
  refine ⟨by have := h.lt; omega, h.pos, fun l hl hlp => ?_⟩
  by_cases hli : l = i
  · subst hli; grind
  · exact h.least l (by omega) hlp
theorem Lv.less {R : Nat} {S : Tab} {k i r : Nat} (h : Lv R S k i r) (hp : 0 < S.T i k) (hq : S.T i R / S.T i k < S.T r R / S.T r k) : Lv R S k (i + 1) i := by
  refine ⟨by omega, hp, fun l hl hlp => ?_⟩
  by_cases hli : l = i
  · subst hli; exact ⟨Rat.le_refl, fun _ => Nat.le_refl _⟩
  · obtain ⟨h1, h2⟩ := h.least l (by omega) hlp
    exact ⟨by grind, fun h3 => by grind⟩
theorem Lv.tie {R : Nat} {S : Tab} {k i r : Nat} (h : Lv R S k i r) (hp : 0 < S.T i k) (hq : S.T i R / S.T i k = S.T r R / S.T r k) (hb : S.b i < S.b r) : Lv R S k (i + 1) i := by
  refine ⟨by omega, hp, fun l hl hlp => ?_⟩
  by_cases hli : l = i
  · subst hli; exact ⟨Rat.le_refl, fun _ => Nat.le_refl _⟩
  · obtain ⟨h1, h2⟩ := h.least l (by omega) hlp
    rw [hq]
    exact ⟨h1, fun h3 => by have := h2 h3; omega⟩
theorem Lv.keep {R : Nat} {S : Tab} {k i r : Nat} (h : Lv R S k i r) (hq : S.T r R / S.T r k < S.T i R / S.T i k ∨ (S.T i R / S.T i k = S.T r R / S.T r k ∧ ¬ S.b i < S.b r)) : Lv R S k (i + 1) r := by
  refine ⟨by have := h.lt; omega, h.pos, fun l hl hlp => ?_⟩
  by_cases hli : l = i
  · subst hli
    rcases hq with h1 | ⟨h1, h2⟩
    · exact ⟨by grind, fun h3 => by grind⟩
    · rw [h1]; exact ⟨Rat.le_refl, fun _ => by omega⟩
  · exact h.least l (by omega) hlp
theorem sign_le {x : Rat} : decide (x.num.sign ≤ 0) = decide (x ≤ 0) := by
  rcases sign_cases x with ⟨h1, h2⟩ | ⟨h1, h2⟩ | ⟨h1, h2⟩ <;> rw [h2]
  · rw [decide_eq_true (show x ≤ 0 by grind)]; rfl
  · rw [decide_eq_true (show x ≤ 0 by grind)]; rfl
  · rw [decide_eq_false (show ¬ x ≤ 0 by grind)]; rfl
theorem Bx.rb {b g : Nat} {x : Rat} {w : World} (h : Bx b x g w) : RB w g 1 (fun _ v => Rw b x v w) := by
  obtain ⟨s, A, n, c, B, m, d, h1, h2⟩ := h
  refine ⟨_, h1, by simp, fun j hj => ?_⟩
  obtain rfl : j = 0 := by omega
  exact ⟨s, A, n, c, B, m, d, rfl, rfl, rfl, s, A, n, c, B, m, d, rfl, h2⟩
theorem Zx.rb {B g : Nat} {w : World} (h : Zx B g w) : RB w g 1 (fun _ _ => True) := by
  refine ⟨_, h.2, by simp, fun j hj => ?_⟩
  obtain rfl : j = 0 := by omega
  exact ⟨false, none, 0, 0, none, 0, 0, rfl, rfl, rfl, trivial⟩
theorem RB.bx {b g : Nat} {x : Rat} {w : World} (h : RB w g 1 (fun _ v => Rw b x v w)) : Bx b x g w := by
  obtain ⟨cs, h1, h2, h3⟩ := h
  obtain ⟨s, A, k, c, B, m, d, q0, q1, q2, q3⟩ := h3 0 (by omega)
  have e : cs = #[.bool s, .slice A k c, .slice B m d] := by
    have hl : cs.toList.length = 3 := by rw [h2]
    apply Array.ext'
    match hcs : cs.toList, hl with
    | [a0, a1, a2], _ =>
      rw [hcs] at q0 q1 q2
      simp at q0 q1 q2
      rw [q0, q1, q2]
  subst e
  obtain ⟨s', A', n', c', B', m', d', e, h⟩ := q3
  injection e with e; injection e with e; injection e with e0 e; injection e with e1 e; injection e with e2 _
  injection e0 with e0; injection e1 with e1 e1' e1''; injection e2 with e2 e2' e2''
  subst e0 e1 e1' e1'' e2 e2' e2''
  exact ⟨_, _, _, _, _, _, _, h1, h⟩
theorem RB.grown {w w' : World} {g g' n : Nat} {P Q : Nat → Value → Prop} (h : RB w g n P) (hg : w.grownBy w' (some g')) (hne : g ≠ g') (hq : ∀ j v, j < n → P j v → Q j v) : RB w' g n Q := by
  obtain ⟨cs, h1, h2⟩ := h
  exact ⟨cs, h1.grown hg (fun e => hne (by injection e)), h2.mono hq⟩
/-- One step of a region that leaves the world alone. -/
theorem still_val {ops : Array Oper} {o : Oper} {rest : List Oper} {a : Act} {w : World} {Q : Act → Prop} {v : Value} (hg : o.guard = none) (h : (execOp a.eval o).run Try.prog w = .ok (.value v) w) (hK : wpStill Try.prog ops w Q rest (a.put o.dst v)) : wpStill Try.prog ops w Q (o :: rest) a := by
  unfold wpStill
  rw [if_pos (by simp [Region.wanted, hg])]
  unfold Oper.still
  rw [h]
  exact ⟨rfl, hK⟩
/-- The load of a boxed Rat, exactly. -/
theorem exec_bx {w : World} {b g : Nat} {x : Rat} (h : Bx b x g w) : ∃ v, Rw b x v w ∧ ∀ {o : Oper} {a : Act} {t : Tmp}, o.op = .load 31 (.tmp t) → tv a t = .pointer (some ⟨g, 0, none⟩) → (execOp a.eval o).run Try.prog w = .ok (.value v) w := by
  obtain ⟨s, A, n, c, B, m, d, h1, h⟩ := h
  refine ⟨_, ⟨s, A, n, c, B, m, d, rfl, h⟩, fun {o a t} ho ht => ?_⟩
  have ht' : a.eval (.tmp t) = .pointer (some ⟨g, 0, none⟩) := ht
  unfold execOp
  rw [ho]
  simp only [ht', Instr.loadAt, Instr.sureAddr, Sem.run_bind, Sem.run_pure, Result.andThen_ok, run_loadVar_row w g _ _ _ (0, 0) _ h1 Try.underlying31 rfl (by kernel_rfl)]
def LvRet (m R : Nat) (S : Tab) (k : Nat) (w : World) (e : Ending) (w' : World) : Prop := ∃ z : Int, e = .returned (.int .i64 z) ∧ Below w.heap.size w w' ∧ ((z = -1 ∧ ∀ i, i < m → S.T i k ≤ 0) ∨ ∃ r : Nat, z = (r : Int) ∧ Lv R S k m r)
set_option maxRecDepth 100000 in
set_option maxHeartbeats 8000000 in
theorem leaving_any (base p n m N b gg cr cb k : Nat) (Ar Ab : Option Addr) (rs : Nat → Nat) (S : Tab) (w : World) (hT : TabW base w p n m N b gg Ar cr Ab cb rs S) (hk : k < N) (hN2 : N ≤ 1000) (hb0 : b ≤ 1000) (hb1 : 1 ≤ b) (R : Nat) (hR : R = n + m + 1) :
    Calls Try.prog 93 #[.pointer (some ⟨p, 0, none⟩), .int .i64 k] w (LvRet m R S k w) := by
  have HNn := Lib.hid hT.low.2.2
  have hmm : m ≤ 1000 := by have := hT.low.2.2; omega
  have hnm : n ≤ 1000 := by have := hT.low.2.2; omega
  have HT0 := Lib.hid hT; clear hT
  have hRN : n + m + 1 < N := by have := HNn.out; omega
  have HRR := Lib.hid hR; clear hR
  go_enter Try.func93, Try.ntmps93
  go_upto_region 3 with (fail)
  have HB0 := Lib.hid (al w (.cells #[.bool false, .slice none 0 0, .slice none 0 0] 31))
  have HZ0 := Lib.hid (Zx.rb (show Zx w.heap.size w.heap.size (w.alloc (.cells #[.bool false, .slice none 0 0, .slice none 0 0] 31)) from ⟨Nat.le_refl _, TB.made w _ _ _ _⟩))
  obtain ⟨g6, hg6⟩ : ∃ g6, g6 = w.heap.size := ⟨_, rfl⟩
  have HG6 := Lib.hid hg6
  rw [← hg6] at HZ0 ⊢
  clear hg6
  generalize w.alloc (.cells #[.bool false, .slice none 0 0, .slice none 0 0] 31) = W0 at *
  have HT := Lib.hid (HT0.out.new HB0.out)
  have c2 := HT.out.c2; have pl := HT.out.blk.lt
  go_wp2_with fail
  clear c2 pl HT
  go_loopw [5, 17] (fun bv iv wr => ∃ (z : Int) (i : Nat), bv = .int .i64 z ∧ iv = .int .i64 i ∧ i ≤ m ∧ Hid (Below w.heap.size w wr ∧ ((z = -1 ∧ (∀ l, l < i → S.T l k ≤ 0) ∧ RB wr g6 1 (fun _ _ => True)) ∨ ∃ r : Nat, z = (r : Int) ∧ Lv R S k i r ∧ Bx (b + b) (S.T r R / S.T r k) g6 wr))) (fun _ iv _ => m - (intOf iv).toNat)
  case atStart => exact ⟨-1, 0, rfl, rfl, Nat.zero_le _, Lib.hid ⟨HB0.out, .inl ⟨rfl, fun l hl => absurd hl (by omega), HZ0.out⟩⟩⟩
  case round =>
    obtain ⟨z, i, rfl, rfl, hi, HI⟩ := hrel
    by_cases him : i < m
    · obtain ⟨⟨gr, rfl, -, -⟩, gb, rfl, -, -⟩ := HT0.out.some_ (by omega)
      have HT := Lib.hid (HT0.out.new HI.out.1)
      have HB := Lib.hid HI.out.1
      have HS := Lib.hid HI.out.2
      clear HI
      have rc := HT.out.rcell him
      rw [addr_zero] at rc
      have i1 : (0 : Int) ≤ (i : Int) := by omega
      have i2 : (i : Int) < (m : Int) := by omega
      by_cases hp : S.T i k ≤ 0
      · have hs : decide ((S.T i k).num.sign ≤ 0) = true := sign_le.trans (decide_eq_true hp)
        go_upto_region 6 with (fail)
        refine wp_region_seq (kss := [[], [], [(0, 22), (1, 23)], [(2, 24)], [(3, 25)], [(4, 26)]]) [(8, .slice (some (⟨rs i, 0, none⟩)) N N), (1, .int .i64 ((k : Int)))] [EV (.slice (some (⟨rs i, 0, none⟩)) N N), EV (.int .i64 ((k : Int))), EV (.pointer (some (Addr.add (⟨rs i, 0, none⟩) (k * 3)))), Rv (b) ((S.T i) k), EV (.int .i64 (((S.T i) k).num.sign)), EV (.bool true)] (by kernel_rfl) ⟨rfl, rfl, trivial⟩ ?_ ?_ ?_
        · exact ⟨eI, eI, eI, fun _ _ _ h hb => h.new hb, eI, eI, trivial⟩
        · refine ⟨?_, ?_, ?_, ?_, ?_, ?_, trivial⟩
          · exact fun _ _ _ he hd => ob_mv rfl rfl he.1
          · exact fun _ _ _ he hd => ob_mv rfl rfl he.2.1
          · exact fun aa ww hb he hd => ob_plain rfl (idx_rs (by omega) rfl hd.1 hd.2.1)
          · exact fun aa ww hb he hd => ob_plain rfl (load_rn rfl hd.1 (Rs.of_rb ((TabW.new HT.out hb).row (by omega))) (by omega))
          · exact fun aa ww hb he hd => ob_plain rfl (gives_call1 _ _ _ rfl (by kernel_rfl) (sign_v (hd.1.rw)))
          · exact fun aa ww hb he hd => ob_plain rfl (gives_le_int (((S.T i) k).num.sign) 0 .i64 _ _ _ _ rfl hd.1 rfl ⟨congrArg Value.bool (hs), Below.refl _ _⟩)
        intro vs w3 hb hR
        have e27 : vs 5 = .bool true := hR 5 (by decide)
        clear hR
        simp only [putsL, Nat.zero_add, Nat.reduceAdd, List.take_succ_cons, List.take_zero, Act.put, List.setIfInBounds_toArray, List.set_cons_zero, List.set_cons_succ]
        rw [e27]
        clear e27
        go_wp2_with fail
        refine ⟨⟨z, i + 1, rfl, by go_num, by omega, Lib.hid ⟨bthen HB.out hb HB.out.size, ?_⟩⟩, by simp [intOf]; omega⟩
        rcases HS.out with ⟨h1, h2, h3⟩ | ⟨r, h1, h2, h3⟩
        · refine .inl ⟨h1, fun l hl => ?_, h3.below hb (fun _ _ _ _ => trivial)⟩
          by_cases hli : l = i
          · rw [hli]; exact hp
          · exact h2 l (by omega)
        · exact .inr ⟨r, h1, h2.skip hp, h3.new hb⟩
      · have hs : decide ((S.T i k).num.sign ≤ 0) = false := sign_le.trans (decide_eq_false hp)
        have hpos : 0 < S.T i k := by grind
        go_upto_region 6 with (fail)
        refine wp_region_seq (kss := [[], [], [(0, 22), (1, 23)], [(2, 24)], [(3, 25)], [(4, 26)]]) [(8, .slice (some (⟨rs i, 0, none⟩)) N N), (1, .int .i64 ((k : Int)))] [EV (.slice (some (⟨rs i, 0, none⟩)) N N), EV (.int .i64 ((k : Int))), EV (.pointer (some (Addr.add (⟨rs i, 0, none⟩) (k * 3)))), Rv (b) ((S.T i) k), EV (.int .i64 (((S.T i) k).num.sign)), EV (.bool false)] (by kernel_rfl) ⟨rfl, rfl, trivial⟩ ?_ ?_ ?_
        · exact ⟨eI, eI, eI, fun _ _ _ h hb => h.new hb, eI, eI, trivial⟩
        · refine ⟨?_, ?_, ?_, ?_, ?_, ?_, trivial⟩
          · exact fun _ _ _ he hd => ob_mv rfl rfl he.1
          · exact fun _ _ _ he hd => ob_mv rfl rfl he.2.1
          · exact fun aa ww hb he hd => ob_plain rfl (idx_rs (by omega) rfl hd.1 hd.2.1)
          · exact fun aa ww hb he hd => ob_plain rfl (load_rn rfl hd.1 (Rs.of_rb ((TabW.new HT.out hb).row (by omega))) (by omega))
          · exact fun aa ww hb he hd => ob_plain rfl (gives_call1 _ _ _ rfl (by kernel_rfl) (sign_v (hd.1.rw)))
          · exact fun aa ww hb he hd => ob_plain rfl (gives_le_int (((S.T i) k).num.sign) 0 .i64 _ _ _ _ rfl hd.1 rfl ⟨congrArg Value.bool (hs), Below.refl _ _⟩)
        intro vs w3 hb hR
        have e27 : vs 5 = .bool false := hR 5 (by decide)
        clear hR
        simp only [putsL, Nat.zero_add, Nat.reduceAdd, List.take_succ_cons, List.take_zero, Act.put, List.setIfInBounds_toArray, List.set_cons_zero, List.set_cons_succ]
        rw [e27]
        clear e27
        go_upto_region 7 with (fail)
        replace HT := Lib.hid (HT.out.new hb)
        replace HB := Lib.hid (bthen HB.out hb HB.out.size)
        have HS3 := Lib.hid (show ((z = -1 ∧ (∀ l, l < i → S.T l k ≤ 0) ∧ RB w3 g6 1 (fun _ _ => True)) ∨ ∃ r : Nat, z = (r : Int) ∧ Lv R S k i r ∧ Bx (b + b) (S.T r R / S.T r k) g6 w3) by
          rcases HS.out with ⟨h1, h2, h3⟩ | ⟨r, h1, h2, h3⟩
          · exact .inl ⟨h1, h2, h3.below hb (fun _ _ _ _ => trivial)⟩
          · exact .inr ⟨r, h1, h2, h3.new hb⟩)
        clear HS hb rc hs
        have hne : S.T i k ≠ 0 := by grind
        refine wp_region_join (kss := [[], [], [(1, 30)], [(0, 29), (2, 31)], [(3, 32)], [], [], [(5, 34), (6, 35)], [(7, 36)], [(4, 33), (8, 37)], [(9, 38)], [(10, 28)], [(10, 28)], []]) [(8, .slice (some (⟨rs i, 0, none⟩)) N N), (0, .pointer (some ⟨p, 0, none⟩)), (1, .int .i64 ((k : Int)))] [EV (.slice (some (⟨rs i, 0, none⟩)) N N), EV (.pointer (some ⟨p, 0, none⟩)), EV (.int .i64 (((n + m + 1 : Nat) : Int))), EV (.pointer (some (Addr.add (⟨rs i, 0, none⟩) ((n + m + 1) * 3)))), Rv (b) ((S.T i) (n + m + 1)), EV (.slice (some (⟨rs i, 0, none⟩)) N N), EV (.int .i64 ((k : Int))), EV (.pointer (some (Addr.add (⟨rs i, 0, none⟩) (k * 3)))), Rv (b) ((S.T i) k), Dv (b + b) (((S.T i) (n + m + 1)) / ((S.T i) k)), Dv (b + b) (((S.T i) (n + m + 1)) / ((S.T i) k)), Rv (b + b) (((S.T i) (n + m + 1)) / ((S.T i) k)), EV (.int .i64 0), Zb w3.heap.size] 14 [12] (by kernel_rfl) (by kernel_rfl) ⟨rfl, rfl, rfl, trivial⟩ [false, false, false, false, false, false, false, false, false, false, false, false, false, true] ?_ ?_ ?_ ?_
        · intro i hi
          simp only [List.mem_cons, List.not_mem_nil, or_false] at hi
          subst hi
          exact ⟨rfl, fun o ks ho hk => by cases ho; cases hk; exact fun a w _ _ hd => late_e rfl rfl hd.1⟩
        · exact ⟨eI, eI, eI, eI, fun _ _ _ h hb => h.new hb, eI, eI, eI, fun _ _ _ h hb => h.new hb, fun _ _ _ h hb => h.new hb, fun _ _ _ h hb => h.new hb, fun _ _ _ h hb => h.new hb, eI, fun _ _ _ h hb => Zb.new h hb, trivial⟩
        · refine ⟨?_, ?_, ?_, ?_, ?_, ?_, ?_, ?_, ?_, ?_, ?_, ?_, ?_, ?_, trivial⟩
          · exact fun _ _ _ he hd => ob_mv rfl rfl he.1
          · exact fun _ _ _ he hd => ob_mv rfl rfl he.2.1
          · exact fun aa ww hb he hd => ob_plain rfl (gives_call1 _ _ _ rfl (by kernel_rfl) (by rw [show aa.eval (.tmp 30) = .pointer (some ⟨p, 0, none⟩) from hd.1]; exact rv_one (right_any (TabW.new HT.out hb).blk (by omega) (by omega))))
          · exact fun aa ww hb he hd => ob_plain rfl (idx_rs (by omega) rfl hd.1 hd.2.1)
          · exact fun aa ww hb he hd => ob_plain rfl (load_rn rfl hd.1 (Rs.of_rb ((TabW.new HT.out hb).row (by omega))) (by omega))
          · exact fun _ _ _ he hd => ob_mv rfl rfl he.1
          · exact fun _ _ _ he hd => ob_mv rfl rfl he.2.2.1
          · exact fun aa ww hb he hd => ob_plain rfl (idx_rs (by omega) rfl hd.1 hd.2.1)
          · exact fun aa ww hb he hd => ob_plain rfl (load_rn rfl hd.1 (Rs.of_rb ((TabW.new HT.out hb).row (by omega))) (by omega))
          · exact fun aa ww hb he hd => ob_plain rfl (gives_call2 _ _ _ _ rfl (by kernel_rfl) (div_v (hd.1.rw) (hd.2.1.rw) (by omega) hne))
          · exact fun _ _ _ he hd => ob_mv rfl rfl hd.1
          · exact fun aa ww hb he hd => ob_plain rfl (ext_q rfl hd.1)
          · exact fun aa ww hb he hd => ob_plain rfl (ext_e rfl hd.1)
          · exact fun aa ww hb he hd => ⟨by simp [Region.wanted], alloc_rat rfl hb⟩
        intro vs w4 hb hR _
        have r39 : Rv (b + b) (((S.T i) (n + m + 1)) / ((S.T i) k)) (vs 11) w4 := hR 11 (by decide)
        have r9 : Zb w3.heap.size (vs 13) w4 := hR 13 (by decide)
        have e40 : vs 12 = .int .i64 0 := hR 12 (by decide)
        clear hR
        simp only [putsL, Nat.zero_add, Nat.reduceAdd, List.take_succ_cons, List.take_zero, Act.put, List.setIfInBounds_toArray, List.set_cons_zero, List.set_cons_succ]
        rw [e40]
        clear e40
        obtain ⟨g9, k9, z9⟩ := r9
        rw [k9]
        clear k9 hne
        show wpAny _ _ _ _ 2 _ _ _
        refine wpAny_next (i := 14) (by kernel_rfl) rfl rfl (store_row (v := vs 11) (g := g9) (j := 0) (n := 1) (b := b + b) (x := S.T i (n + m + 1) / S.T i k) rfl rfl rfl rfl z9.rb (by omega) r39.rw ?_)
        intro w5 kp hg hsz hR5
        have HX9 := Lib.hid (RB.bx (hR5 (fun _ v => Rw (b + b) (S.T i (n + m + 1) / S.T i k) v w5) (fun l u hl hne _ => absurd hl (by omega)) (r39.rw.keepN kp)))
        have hlow : w.heap.size ≤ w3.heap.size := HB.out.size
        have HB5 := Lib.hid (show Below w.heap.size w w5 from (bthen HB.out hb hlow).grown hg (bthen HB.out hb hlow).size (fun x hx => by cases hx; have := z9.1; omega))
        have HS5 := Lib.hid (show ((z = -1 ∧ (∀ l, l < i → S.T l k ≤ 0) ∧ RB w5 g6 1 (fun _ _ => True)) ∨ ∃ r : Nat, z = (r : Int) ∧ Lv R S k i r ∧ Bx (b + b) (S.T r R / S.T r k) g6 w5) by
          rcases HS3.out with ⟨h1, h2, h3⟩ | ⟨r, h1, h2, h3⟩
          · have hl := h3.lt
            exact .inl ⟨h1, h2, (h3.below hb (Q := fun _ _ => True) (fun _ _ _ _ => trivial)).grown hg (by have := z9.1; omega) (fun _ _ _ _ => trivial)⟩
          · have hl := h3.lt
            exact .inr ⟨r, h1, h2, (h3.new hb).kept hg (by have := z9.1; omega) kp⟩)
        rw [← HRR.out] at HX9
        clear kp hg hsz hR5 hb r39 z9 hlow HS3 HT HB
        refine wpAny_next (i := 15) (by kernel_rfl) rfl rfl (wp_assign 10 (.tmp 40) rfl rfl (.int .i64 0) rfl ?_)
        simp only [Act.put, List.setIfInBounds_toArray, List.set_cons_zero, List.set_cons_succ]
        refine wpAny_end (by kernel_rfl) (calm_normal ?_) _
        rcases HS5.out with ⟨h1, h2, h3⟩ | ⟨r, h1, h2, h3⟩
        · have HZ := Lib.hid h3
          have HLV := Lib.hid (Lv.first (R := R) h2 hpos)
          have tz : decide (z ≥ 0) = false := by rw [h1]; rfl
          have HT := Lib.hid (HT0.out.new HB5.out)
          clear HS5 h1 h2 h3
          go_upto_region 11 with (fail)
          refine wp_region_each (kss := [[], [(0, 46)], [(1, 47)], [(2, 48)], [(2, 48), (3, 49)], [(2, 48), (4, 50)], [(5, 51)], [(5, 51), (6, 52)], [(5, 51), (7, 53)], [(5, 51), (8, 54)], [(5, 51)], [(5, 51), (9, 55), (10, 56)], [(5, 51), (11, 57)], [(5, 51)], [(5, 51), (13, 59)], [(5, 51), (14, 60)], [(5, 51), (15, 61)], [(5, 51)], [(5, 51), (16, 62), (17, 63)], [(5, 51), (18, 64)], [(5, 51), (12, 58), (19, 65)], [(2, 48), (5, 51), (20, 66)], [(2, 48), (21, 67)]]) [(11, .int .i64 (-1)), (0, .pointer (some ⟨p, 0, none⟩)), (7, .int .i64 ((i : Int))), (5, .int .i64 z)] [EV (.int .i64 (-1)), EV (.bool true), EV (.bool true), EV (undef), EV (undef), EV (undef), EV (undef), EV (undef), EV (undef), EV (undef), EV (undef), EV (undef), EV (undef), EV (undef), EV (undef), EV (undef), EV (undef), EV (undef), EV (undef), EV (undef), EV (undef), EV (undef), EV (.bool true)] (by kernel_rfl) (by kernel_rfl) ⟨rfl, rfl, rfl, rfl, trivial⟩ ?_ ?_ ?_
          · exact ⟨eI, eI, eI, eI, eI, eI, eI, eI, eI, eI, eI, eI, eI, eI, eI, eI, eI, eI, eI, eI, eI, eI, eI, trivial⟩
          · refine ⟨?_, ?_, ?_, ?_, ?_, ?_, ?_, ?_, ?_, ?_, ?_, ?_, ?_, ?_, ?_, ?_, ?_, ?_, ?_, ?_, ?_, ?_, ?_, trivial⟩
            · exact fun _ _ _ he hd => ob_mv rfl rfl he.1
            · exact fun aa ww hb he hd => ob_plain rfl (gives_lt_int (-1) 0 .i64 _ _ _ _ rfl hd.1 rfl ⟨congrArg Value.bool (by decide), Below.refl _ _⟩)
            · exact fun _ _ _ he hd => ob_mv rfl rfl hd.1
            · exact fun aa ww hb he hd => ob_off 48 rfl (by kernel_rfl) hd.1 rfl
            · exact fun aa ww hb he hd => ob_off 48 rfl (by kernel_rfl) hd.1 rfl
            · exact fun aa ww hb he hd => ob_off 48 rfl (by kernel_rfl) hd.1 rfl
            · exact fun aa ww hb he hd => ob_undef 51 rfl (by kernel_rfl) hd.1 rfl
            · exact fun aa ww hb he hd => ob_undef 51 rfl (by kernel_rfl) hd.1 rfl
            · exact fun aa ww hb he hd => ob_undef 51 rfl (by kernel_rfl) hd.1 rfl
            · exact fun aa ww hb he hd => ob_undef 51 rfl (by kernel_rfl) hd.1 rfl
            · exact fun aa ww hb he hd => ob_undef 51 rfl (by kernel_rfl) hd.1 rfl
            · exact fun aa ww hb he hd => ob_undef 51 rfl (by kernel_rfl) hd.1 rfl
            · exact fun aa ww hb he hd => ob_undef 51 rfl (by kernel_rfl) hd.1 rfl
            · exact fun aa ww hb he hd => ob_undef 51 rfl (by kernel_rfl) hd.1 rfl
            · exact fun aa ww hb he hd => ob_undef 51 rfl (by kernel_rfl) hd.1 rfl
            · exact fun aa ww hb he hd => ob_undef 51 rfl (by kernel_rfl) hd.1 rfl
            · exact fun aa ww hb he hd => ob_undef 51 rfl (by kernel_rfl) hd.1 rfl
            · exact fun aa ww hb he hd => ob_undef 51 rfl (by kernel_rfl) hd.1 rfl
            · exact fun aa ww hb he hd => ob_undef 51 rfl (by kernel_rfl) hd.1 rfl
            · exact fun aa ww hb he hd => ob_undef 51 rfl (by kernel_rfl) hd.1 rfl
            · exact fun aa ww hb he hd => ob_undef 51 rfl (by kernel_rfl) hd.1 rfl
            · exact fun aa ww hb he hd => ob_off 48 rfl (by kernel_rfl) hd.1 rfl
            · exact fun aa ww hb he hd => ob_plain rfl (gives_pick true _ _ _ rfl hd.1 ⟨rfl, Below.refl _ _⟩)
          intro vs w8 hb hR
          have e68 : vs 22 = .bool true := hR 22 (by decide)
          clear hR
          simp only [putsL, Nat.zero_add, Nat.reduceAdd, List.take_succ_cons, List.take_zero, Act.put, List.setIfInBounds_toArray, List.set_cons_zero, List.set_cons_succ]
          rw [e68]
          clear e68
          go_upto_region 12 with (fail)
          replace HB5 := Lib.hid (bthen HB5.out hb HB5.out.size)
          replace HX9 := Lib.hid (HX9.out.new hb)
          have HX6 := Lib.hid (HZ.out.below hb (Q := fun _ _ => True) (fun _ _ _ _ => trivial))
          clear hb
          refine wp_region_still_tail (n := 3) (by kernel_rfl) (by kernel_rfl) ?_
          have hb : Below w8.heap.size w8 { w8 with drawn := w8.drawn + 1 } := (Below.refl _ _).drew
          generalize { w8 with drawn := w8.drawn + 1 } = w9 at hb ⊢
          obtain ⟨v70, r70, hl70⟩ := exec_bx (Bx.new HX9.out hb)
          have HX6w := Lib.hid (HX6.out.below hb (Q := fun _ _ => True) (fun _ _ _ _ => trivial))
          have HB9 := Lib.hid (bthen HB5.out hb HB5.out.size)
          refine still_val rfl rfl (still_val rfl (hl70 rfl rfl) (still_val rfl rfl ?_))
          simp only [Act.put, List.setIfInBounds_toArray, List.set_cons_zero, List.set_cons_succ]
          show wpList _ _ _ [_] _ _
          refine wpList_store_row (v := v70) (g := g6) (j := 0) (n := 1) (b := b + b) (x := S.T i R / S.T i k) rfl rfl rfl rfl rfl HX6w.out (by omega) r70 ?_
          intro wa kp hg hsz hR6
          go_wp2_with fail
          refine ⟨⟨(i : Int), i + 1, rfl, by go_num, by omega, Lib.hid ⟨HB9.out.grown hg HB9.out.size (fun x hx => by cases hx; have := HG6.out; omega), .inr ⟨i, rfl, HLV.out, RB.bx (hR6 (fun _ v => Rw (b + b) (S.T i R / S.T i k) v wa) (fun l u hl hne _ => absurd hl (by omega)) (r70.keepN kp))⟩⟩⟩, by simp [intOf]; omega⟩
        · subst h1
          have HX6 := Lib.hid h3
          have HL := Lib.hid h2
          have tz : decide ((r : Int) ≥ 0) = true := by simp
          have hri := h2.lt
          clear HS5 h2 h3
          go_upto_region 10 with (fail)
          refine wp_region_seq (kss := [[], [], [(0, 43), (1, 44)], [(2, 45)]]) [(9, .pointer (some ⟨g9, 0, none⟩)), (6, .pointer (some ⟨g6, 0, none⟩))] [Rw (b + b) (S.T i R / S.T i k), Rw (b + b) (S.T r R / S.T r k), EV (.int .i64 (rcq (S.T i R / S.T i k) (S.T r R / S.T r k))), EV (.int .i64 (rcq (S.T i R / S.T i k) (S.T r R / S.T r k)))] (by kernel_rfl) ⟨rfl, rfl, trivial⟩ ?_ ?_ ?_
          · exact ⟨fun _ _ _ h hb => h.new hb, fun _ _ _ h hb => h.new hb, eI, eI, trivial⟩
          · refine ⟨?_, ?_, ?_, ?_, trivial⟩
            · exact fun aa ww hb he hd => ob_plain rfl (load_bx rfl he.1 (Bx.new HX9.out hb))
            · exact fun aa ww hb he hd => ob_plain rfl (load_bx rfl he.2.1 (Bx.new HX6.out hb))
            · exact fun aa ww hb he hd => ob_plain rfl (gives_call2 _ _ _ _ rfl (by kernel_rfl) (cmp_v (hd.1) (hd.2.1) (by omega)))
            · exact fun aa ww hb he hd => ob_plain rfl (gives_assign _ rfl ⟨hd.1, Below.refl _ _⟩)
          intro vs w7 hb hR
          have e11 : vs 3 = .int .i64 (rcq (S.T i R / S.T i k) (S.T r R / S.T r k)) := hR 3 (by decide)
          clear hR
          simp only [putsL, Nat.zero_add, Nat.reduceAdd, List.take_succ_cons, List.take_zero, Act.put, List.setIfInBounds_toArray, List.set_cons_zero, List.set_cons_succ]
          rw [e11]
          clear e11
          replace HB5 := Lib.hid (bthen HB5.out hb HB5.out.size)
          replace HX9 := Lib.hid (HX9.out.new hb); replace HX6 := Lib.hid (HX6.out.new hb)
          have HT := Lib.hid (HT0.out.new HB5.out)
          clear hb
          rcases (show S.T i R / S.T i k < S.T r R / S.T r k ∨ S.T i R / S.T i k = S.T r R / S.T r k ∨ S.T r R / S.T r k < S.T i R / S.T i k by grind) with hq | hq | hq
          · rw [rcq_lt hq]
            have HLV := Lib.hid (HL.out.less hpos hq)
            clear hq
            go_upto_region 11 with (fail)
            refine wp_region_each (kss := [[], [(0, 46)], [(1, 47)], [(2, 48)], [(2, 48), (3, 49)], [(2, 48), (4, 50)], [(5, 51)], [(5, 51), (6, 52)], [(5, 51), (7, 53)], [(5, 51), (8, 54)], [(5, 51)], [(5, 51), (9, 55), (10, 56)], [(5, 51), (11, 57)], [(5, 51)], [(5, 51), (13, 59)], [(5, 51), (14, 60)], [(5, 51), (15, 61)], [(5, 51)], [(5, 51), (16, 62), (17, 63)], [(5, 51), (18, 64)], [(5, 51), (12, 58), (19, 65)], [(2, 48), (5, 51), (20, 66)], [(2, 48), (21, 67)]]) [(11, .int .i64 (-1)), (0, .pointer (some ⟨p, 0, none⟩)), (7, .int .i64 ((i : Int))), (5, .int .i64 ((r : Int)))] [EV (.int .i64 (-1)), EV (.bool true), EV (.bool true), EV (undef), EV (undef), EV (undef), EV (undef), EV (undef), EV (undef), EV (undef), EV (undef), EV (undef), EV (undef), EV (undef), EV (undef), EV (undef), EV (undef), EV (undef), EV (undef), EV (undef), EV (undef), EV (undef), EV (.bool true)] (by kernel_rfl) (by kernel_rfl) ⟨rfl, rfl, rfl, rfl, trivial⟩ ?_ ?_ ?_
            · exact ⟨eI, eI, eI, eI, eI, eI, eI, eI, eI, eI, eI, eI, eI, eI, eI, eI, eI, eI, eI, eI, eI, eI, eI, trivial⟩
            · refine ⟨?_, ?_, ?_, ?_, ?_, ?_, ?_, ?_, ?_, ?_, ?_, ?_, ?_, ?_, ?_, ?_, ?_, ?_, ?_, ?_, ?_, ?_, ?_, trivial⟩
              · exact fun _ _ _ he hd => ob_mv rfl rfl he.1
              · exact fun aa ww hb he hd => ob_plain rfl (gives_lt_int (-1) 0 .i64 _ _ _ _ rfl hd.1 rfl ⟨congrArg Value.bool (by decide), Below.refl _ _⟩)
              · exact fun _ _ _ he hd => ob_mv rfl rfl hd.1
              · exact fun aa ww hb he hd => ob_off 48 rfl (by kernel_rfl) hd.1 rfl
              · exact fun aa ww hb he hd => ob_off 48 rfl (by kernel_rfl) hd.1 rfl
              · exact fun aa ww hb he hd => ob_off 48 rfl (by kernel_rfl) hd.1 rfl
              · exact fun aa ww hb he hd => ob_undef 51 rfl (by kernel_rfl) hd.1 rfl
              · exact fun aa ww hb he hd => ob_undef 51 rfl (by kernel_rfl) hd.1 rfl
              · exact fun aa ww hb he hd => ob_undef 51 rfl (by kernel_rfl) hd.1 rfl
              · exact fun aa ww hb he hd => ob_undef 51 rfl (by kernel_rfl) hd.1 rfl
              · exact fun aa ww hb he hd => ob_undef 51 rfl (by kernel_rfl) hd.1 rfl
              · exact fun aa ww hb he hd => ob_undef 51 rfl (by kernel_rfl) hd.1 rfl
              · exact fun aa ww hb he hd => ob_undef 51 rfl (by kernel_rfl) hd.1 rfl
              · exact fun aa ww hb he hd => ob_undef 51 rfl (by kernel_rfl) hd.1 rfl
              · exact fun aa ww hb he hd => ob_undef 51 rfl (by kernel_rfl) hd.1 rfl
              · exact fun aa ww hb he hd => ob_undef 51 rfl (by kernel_rfl) hd.1 rfl
              · exact fun aa ww hb he hd => ob_undef 51 rfl (by kernel_rfl) hd.1 rfl
              · exact fun aa ww hb he hd => ob_undef 51 rfl (by kernel_rfl) hd.1 rfl
              · exact fun aa ww hb he hd => ob_undef 51 rfl (by kernel_rfl) hd.1 rfl
              · exact fun aa ww hb he hd => ob_undef 51 rfl (by kernel_rfl) hd.1 rfl
              · exact fun aa ww hb he hd => ob_undef 51 rfl (by kernel_rfl) hd.1 rfl
              · exact fun aa ww hb he hd => ob_off 48 rfl (by kernel_rfl) hd.1 rfl
              · exact fun aa ww hb he hd => ob_plain rfl (gives_pick true _ _ _ rfl hd.1 ⟨rfl, Below.refl _ _⟩)
            intro vs w8 hb hR
            have e68 : vs 22 = .bool true := hR 22 (by decide)
            clear hR
            simp only [putsL, Nat.zero_add, Nat.reduceAdd, List.take_succ_cons, List.take_zero, Act.put, List.setIfInBounds_toArray, List.set_cons_zero, List.set_cons_succ]
            rw [e68]
            clear e68
            go_upto_region 12 with (fail)
            replace HB5 := Lib.hid (bthen HB5.out hb HB5.out.size)
            replace HX9 := Lib.hid (HX9.out.new hb)
            have HX6 := Lib.hid (HX6.out.rb.below hb (Q := fun _ _ => True) (fun _ _ _ _ => trivial))
            clear hb
            refine wp_region_still_tail (n := 3) (by kernel_rfl) (by kernel_rfl) ?_
            have hb : Below w8.heap.size w8 { w8 with drawn := w8.drawn + 1 } := (Below.refl _ _).drew
            generalize { w8 with drawn := w8.drawn + 1 } = w9 at hb ⊢
            obtain ⟨v70, r70, hl70⟩ := exec_bx (Bx.new HX9.out hb)
            have HX6w := Lib.hid (HX6.out.below hb (Q := fun _ _ => True) (fun _ _ _ _ => trivial))
            have HB9 := Lib.hid (bthen HB5.out hb HB5.out.size)
            refine still_val rfl rfl (still_val rfl (hl70 rfl rfl) (still_val rfl rfl ?_))
            simp only [Act.put, List.setIfInBounds_toArray, List.set_cons_zero, List.set_cons_succ]
            show wpList _ _ _ [_] _ _
            refine wpList_store_row (v := v70) (g := g6) (j := 0) (n := 1) (b := b + b) (x := S.T i R / S.T i k) rfl rfl rfl rfl rfl HX6w.out (by omega) r70 ?_
            intro wa kp hg hsz hR6
            go_wp2_with fail
            refine ⟨⟨(i : Int), i + 1, rfl, by go_num, by omega, Lib.hid ⟨HB9.out.grown hg HB9.out.size (fun x hx => by cases hx; have := HG6.out; omega), .inr ⟨i, rfl, HLV.out, RB.bx (hR6 (fun _ v => Rw (b + b) (S.T i R / S.T i k) v wa) (fun l u hl hne _ => absurd hl (by omega)) (r70.keepN kp))⟩⟩⟩, by simp [intOf]; omega⟩
          · rw [rcq_eq hq]
            by_cases hbs : S.b i < S.b r
            · have hbb : decide ((S.b i : Int) < (S.b r : Int)) = true := decide_eq_true (by omega)
              have HLV := Lib.hid (HL.out.tie hpos hq hbs)
              clear hq hbs
              go_upto_region 11 with (fail)
              refine wp_region_each (kss := [[], [(0, 46)], [(1, 47)], [(2, 48)], [(2, 48), (3, 49)], [(2, 48), (4, 50)], [(5, 51)], [(5, 51), (6, 52)], [(5, 51), (7, 53)], [(5, 51), (8, 54)], [(5, 51)], [(5, 51), (9, 55), (10, 56)], [(5, 51), (11, 57)], [(5, 51)], [(5, 51), (13, 59)], [(5, 51), (14, 60)], [(5, 51), (15, 61)], [(5, 51)], [(5, 51), (16, 62), (17, 63)], [(5, 51), (18, 64)], [(5, 51), (12, 58), (19, 65)], [(2, 48), (5, 51), (20, 66)], [(2, 48), (21, 67)]]) [(11, .int .i64 0), (0, .pointer (some ⟨p, 0, none⟩)), (7, .int .i64 ((i : Int))), (5, .int .i64 ((r : Int)))] [EV (.int .i64 0), EV (.bool false), EV (.bool false), EV (.int .i64 0), EV (.bool true), EV (.bool true), EV (.pointer (some ⟨p, 0, none⟩)), EV (.pointer (some ⟨p, 0, none⟩)), EV (.pointer (some ⟨p, 4, none⟩)), EV (.slice (some ⟨gb, 0, none⟩) m cb), EV (.int .i64 ((i : Int))), EV (.pointer (some (Addr.add ⟨gb, 0, none⟩ i))), EV (.int .i64 ((S.b i : Int))), EV (.pointer (some ⟨p, 0, none⟩)), EV (.pointer (some ⟨p, 0, none⟩)), EV (.pointer (some ⟨p, 4, none⟩)), EV (.slice (some ⟨gb, 0, none⟩) m cb), EV (.int .i64 ((r : Int))), EV (.pointer (some (Addr.add ⟨gb, 0, none⟩ r))), EV (.int .i64 ((S.b r : Int))), EV (.bool true), EV (.bool true), EV (.bool true)] (by kernel_rfl) (by kernel_rfl) ⟨rfl, rfl, rfl, rfl, trivial⟩ ?_ ?_ ?_
              · exact ⟨eI, eI, eI, eI, eI, eI, eI, eI, eI, eI, eI, eI, eI, eI, eI, eI, eI, eI, eI, eI, eI, eI, eI, trivial⟩
              · refine ⟨?_, ?_, ?_, ?_, ?_, ?_, ?_, ?_, ?_, ?_, ?_, ?_, ?_, ?_, ?_, ?_, ?_, ?_, ?_, ?_, ?_, ?_, ?_, trivial⟩
                · exact fun _ _ _ he hd => ob_mv rfl rfl he.1
                · exact fun aa ww hb he hd => ob_plain rfl (gives_lt_int 0 0 .i64 _ _ _ _ rfl hd.1 rfl ⟨congrArg Value.bool (by decide), Below.refl _ _⟩)
                · exact fun _ _ _ he hd => ob_mv rfl rfl hd.1
                · exact fun aa ww hb he hd => ob_on 48 rfl (by kernel_rfl) hd.1 (gives_move _ rfl ⟨he.1, Below.refl _ _⟩)
                · exact fun aa ww hb he hd => ob_on 48 rfl (by kernel_rfl) hd.1 (gives_eq_int 0 0 .i64 _ _ _ _ rfl hd.2.1 rfl ⟨congrArg Value.bool (by decide), Below.refl _ _⟩)
                · exact fun aa ww hb he hd => ob_on 48 rfl (by kernel_rfl) hd.1 (gives_move _ rfl ⟨hd.2.1, Below.refl _ _⟩)
                · exact fun aa ww hb he hd => ob_on 51 rfl (by kernel_rfl) hd.1 (gives_move _ rfl ⟨he.2.1, Below.refl _ _⟩)
                · exact fun aa ww hb he hd => ob_on 51 rfl (by kernel_rfl) hd.1 (nil_c rfl hd.2.1)
                · exact fun aa ww hb he hd => ob_on 51 rfl (by kernel_rfl) hd.1 (fld_tab rfl (by decide) hd.2.1)
                · exact fun aa ww hb he hd => ob_on 51 rfl (by kernel_rfl) hd.1 (load_c86 rfl hd.2.1 (TabW.new HT.out hb).c4)
                · exact fun aa ww hb he hd => ob_on 51 rfl (by kernel_rfl) hd.1 (gives_move _ rfl ⟨he.2.2.1, Below.refl _ _⟩)
                · exact fun aa ww hb he hd => ob_on 51 rfl (by kernel_rfl) hd.1 (idx_xs (by omega) rfl hd.2.1 hd.2.2.1)
                · exact fun aa ww hb he hd => ob_on 51 rfl (by kernel_rfl) hd.1 (load_c3 rfl hd.2.1 ((TabW.new HT.out hb).bcell (by omega)))
                · exact fun aa ww hb he hd => ob_on 51 rfl (by kernel_rfl) hd.1 (gives_move _ rfl ⟨he.2.1, Below.refl _ _⟩)
                · exact fun aa ww hb he hd => ob_on 51 rfl (by kernel_rfl) hd.1 (nil_c rfl hd.2.1)
                · exact fun aa ww hb he hd => ob_on 51 rfl (by kernel_rfl) hd.1 (fld_tab rfl (by decide) hd.2.1)
                · exact fun aa ww hb he hd => ob_on 51 rfl (by kernel_rfl) hd.1 (load_c86 rfl hd.2.1 (TabW.new HT.out hb).c4)
                · exact fun aa ww hb he hd => ob_on 51 rfl (by kernel_rfl) hd.1 (gives_move _ rfl ⟨he.2.2.2.1, Below.refl _ _⟩)
                · exact fun aa ww hb he hd => ob_on 51 rfl (by kernel_rfl) hd.1 (idx_xs (by omega) rfl hd.2.1 hd.2.2.1)
                · exact fun aa ww hb he hd => ob_on 51 rfl (by kernel_rfl) hd.1 (load_c3 rfl hd.2.1 ((TabW.new HT.out hb).bcell (by omega)))
                · exact fun aa ww hb he hd => ob_on 51 rfl (by kernel_rfl) hd.1 (gives_lt_int ((S.b i : Int)) ((S.b r : Int)) .i64 _ _ _ _ rfl hd.2.1 hd.2.2.1 ⟨congrArg Value.bool (hbb), Below.refl _ _⟩)
                · exact fun aa ww hb he hd => ob_on 48 rfl (by kernel_rfl) hd.1 (gives_pick true _ _ _ rfl hd.2.1 ⟨hd.2.2.1, Below.refl _ _⟩)
                · exact fun aa ww hb he hd => ob_plain rfl (gives_pick false _ _ _ rfl hd.1 ⟨hd.2.1, Below.refl _ _⟩)
              intro vs w8 hb hR
              have e68 : vs 22 = .bool true := hR 22 (by decide)
              clear hR
              simp only [putsL, Nat.zero_add, Nat.reduceAdd, List.take_succ_cons, List.take_zero, Act.put, List.setIfInBounds_toArray, List.set_cons_zero, List.set_cons_succ]
              rw [e68]
              clear e68
              go_upto_region 12 with (fail)
              replace HB5 := Lib.hid (bthen HB5.out hb HB5.out.size)
              replace HX9 := Lib.hid (HX9.out.new hb)
              have HX6 := Lib.hid (HX6.out.rb.below hb (Q := fun _ _ => True) (fun _ _ _ _ => trivial))
              clear hb
              refine wp_region_still_tail (n := 3) (by kernel_rfl) (by kernel_rfl) ?_
              have hb : Below w8.heap.size w8 { w8 with drawn := w8.drawn + 1 } := (Below.refl _ _).drew
              generalize { w8 with drawn := w8.drawn + 1 } = w9 at hb ⊢
              obtain ⟨v70, r70, hl70⟩ := exec_bx (Bx.new HX9.out hb)
              have HX6w := Lib.hid (HX6.out.below hb (Q := fun _ _ => True) (fun _ _ _ _ => trivial))
              have HB9 := Lib.hid (bthen HB5.out hb HB5.out.size)
              refine still_val rfl rfl (still_val rfl (hl70 rfl rfl) (still_val rfl rfl ?_))
              simp only [Act.put, List.setIfInBounds_toArray, List.set_cons_zero, List.set_cons_succ]
              show wpList _ _ _ [_] _ _
              refine wpList_store_row (v := v70) (g := g6) (j := 0) (n := 1) (b := b + b) (x := S.T i R / S.T i k) rfl rfl rfl rfl rfl HX6w.out (by omega) r70 ?_
              intro wa kp hg hsz hR6
              go_wp2_with fail
              refine ⟨⟨(i : Int), i + 1, rfl, by go_num, by omega, Lib.hid ⟨HB9.out.grown hg HB9.out.size (fun x hx => by cases hx; have := HG6.out; omega), .inr ⟨i, rfl, HLV.out, RB.bx (hR6 (fun _ v => Rw (b + b) (S.T i R / S.T i k) v wa) (fun l u hl hne _ => absurd hl (by omega)) (r70.keepN kp))⟩⟩⟩, by simp [intOf]; omega⟩
            · have hbb : decide ((S.b i : Int) < (S.b r : Int)) = false := decide_eq_false (by omega)
              have HLV := Lib.hid (HL.out.keep (.inr ⟨hq, hbs⟩))
              clear hq hbs
              go_upto_region 11 with (fail)
              refine wp_region_each (kss := [[], [(0, 46)], [(1, 47)], [(2, 48)], [(2, 48), (3, 49)], [(2, 48), (4, 50)], [(5, 51)], [(5, 51), (6, 52)], [(5, 51), (7, 53)], [(5, 51), (8, 54)], [(5, 51)], [(5, 51), (9, 55), (10, 56)], [(5, 51), (11, 57)], [(5, 51)], [(5, 51), (13, 59)], [(5, 51), (14, 60)], [(5, 51), (15, 61)], [(5, 51)], [(5, 51), (16, 62), (17, 63)], [(5, 51), (18, 64)], [(5, 51), (12, 58), (19, 65)], [(2, 48), (5, 51), (20, 66)], [(2, 48), (21, 67)]]) [(11, .int .i64 0), (0, .pointer (some ⟨p, 0, none⟩)), (7, .int .i64 ((i : Int))), (5, .int .i64 ((r : Int)))] [EV (.int .i64 0), EV (.bool false), EV (.bool false), EV (.int .i64 0), EV (.bool true), EV (.bool true), EV (.pointer (some ⟨p, 0, none⟩)), EV (.pointer (some ⟨p, 0, none⟩)), EV (.pointer (some ⟨p, 4, none⟩)), EV (.slice (some ⟨gb, 0, none⟩) m cb), EV (.int .i64 ((i : Int))), EV (.pointer (some (Addr.add ⟨gb, 0, none⟩ i))), EV (.int .i64 ((S.b i : Int))), EV (.pointer (some ⟨p, 0, none⟩)), EV (.pointer (some ⟨p, 0, none⟩)), EV (.pointer (some ⟨p, 4, none⟩)), EV (.slice (some ⟨gb, 0, none⟩) m cb), EV (.int .i64 ((r : Int))), EV (.pointer (some (Addr.add ⟨gb, 0, none⟩ r))), EV (.int .i64 ((S.b r : Int))), EV (.bool false), EV (.bool false), EV (.bool false)] (by kernel_rfl) (by kernel_rfl) ⟨rfl, rfl, rfl, rfl, trivial⟩ ?_ ?_ ?_
              · exact ⟨eI, eI, eI, eI, eI, eI, eI, eI, eI, eI, eI, eI, eI, eI, eI, eI, eI, eI, eI, eI, eI, eI, eI, trivial⟩
              · refine ⟨?_, ?_, ?_, ?_, ?_, ?_, ?_, ?_, ?_, ?_, ?_, ?_, ?_, ?_, ?_, ?_, ?_, ?_, ?_, ?_, ?_, ?_, ?_, trivial⟩
                · exact fun _ _ _ he hd => ob_mv rfl rfl he.1
                · exact fun aa ww hb he hd => ob_plain rfl (gives_lt_int 0 0 .i64 _ _ _ _ rfl hd.1 rfl ⟨congrArg Value.bool (by decide), Below.refl _ _⟩)
                · exact fun _ _ _ he hd => ob_mv rfl rfl hd.1
                · exact fun aa ww hb he hd => ob_on 48 rfl (by kernel_rfl) hd.1 (gives_move _ rfl ⟨he.1, Below.refl _ _⟩)
                · exact fun aa ww hb he hd => ob_on 48 rfl (by kernel_rfl) hd.1 (gives_eq_int 0 0 .i64 _ _ _ _ rfl hd.2.1 rfl ⟨congrArg Value.bool (by decide), Below.refl _ _⟩)
                · exact fun aa ww hb he hd => ob_on 48 rfl (by kernel_rfl) hd.1 (gives_move _ rfl ⟨hd.2.1, Below.refl _ _⟩)
                · exact fun aa ww hb he hd => ob_on 51 rfl (by kernel_rfl) hd.1 (gives_move _ rfl ⟨he.2.1, Below.refl _ _⟩)
                · exact fun aa ww hb he hd => ob_on 51 rfl (by kernel_rfl) hd.1 (nil_c rfl hd.2.1)
                · exact fun aa ww hb he hd => ob_on 51 rfl (by kernel_rfl) hd.1 (fld_tab rfl (by decide) hd.2.1)
                · exact fun aa ww hb he hd => ob_on 51 rfl (by kernel_rfl) hd.1 (load_c86 rfl hd.2.1 (TabW.new HT.out hb).c4)
                · exact fun aa ww hb he hd => ob_on 51 rfl (by kernel_rfl) hd.1 (gives_move _ rfl ⟨he.2.2.1, Below.refl _ _⟩)
                · exact fun aa ww hb he hd => ob_on 51 rfl (by kernel_rfl) hd.1 (idx_xs (by omega) rfl hd.2.1 hd.2.2.1)
                · exact fun aa ww hb he hd => ob_on 51 rfl (by kernel_rfl) hd.1 (load_c3 rfl hd.2.1 ((TabW.new HT.out hb).bcell (by omega)))
                · exact fun aa ww hb he hd => ob_on 51 rfl (by kernel_rfl) hd.1 (gives_move _ rfl ⟨he.2.1, Below.refl _ _⟩)
                · exact fun aa ww hb he hd => ob_on 51 rfl (by kernel_rfl) hd.1 (nil_c rfl hd.2.1)
                · exact fun aa ww hb he hd => ob_on 51 rfl (by kernel_rfl) hd.1 (fld_tab rfl (by decide) hd.2.1)
                · exact fun aa ww hb he hd => ob_on 51 rfl (by kernel_rfl) hd.1 (load_c86 rfl hd.2.1 (TabW.new HT.out hb).c4)
                · exact fun aa ww hb he hd => ob_on 51 rfl (by kernel_rfl) hd.1 (gives_move _ rfl ⟨he.2.2.2.1, Below.refl _ _⟩)
                · exact fun aa ww hb he hd => ob_on 51 rfl (by kernel_rfl) hd.1 (idx_xs (by omega) rfl hd.2.1 hd.2.2.1)
                · exact fun aa ww hb he hd => ob_on 51 rfl (by kernel_rfl) hd.1 (load_c3 rfl hd.2.1 ((TabW.new HT.out hb).bcell (by omega)))
                · exact fun aa ww hb he hd => ob_on 51 rfl (by kernel_rfl) hd.1 (gives_lt_int ((S.b i : Int)) ((S.b r : Int)) .i64 _ _ _ _ rfl hd.2.1 hd.2.2.1 ⟨congrArg Value.bool (hbb), Below.refl _ _⟩)
                · exact fun aa ww hb he hd => ob_on 48 rfl (by kernel_rfl) hd.1 (gives_pick true _ _ _ rfl hd.2.1 ⟨hd.2.2.1, Below.refl _ _⟩)
                · exact fun aa ww hb he hd => ob_plain rfl (gives_pick false _ _ _ rfl hd.1 ⟨hd.2.1, Below.refl _ _⟩)
              intro vs w8 hb hR
              have e68 : vs 22 = .bool false := hR 22 (by decide)
              clear hR
              simp only [putsL, Nat.zero_add, Nat.reduceAdd, List.take_succ_cons, List.take_zero, Act.put, List.setIfInBounds_toArray, List.set_cons_zero, List.set_cons_succ]
              rw [e68]
              clear e68
              go_wp2_with fail
              refine ⟨⟨(r : Int), i + 1, rfl, by go_num, by omega, Lib.hid ⟨bthen HB5.out hb HB5.out.size, .inr ⟨r, rfl, HLV.out, HX6.out.new hb⟩⟩⟩, by simp [intOf]; omega⟩
          · rw [rcq_gt hq]
            have HLV := Lib.hid (HL.out.keep (.inl hq))
            clear hq
            · skip
              go_upto_region 11 with (fail)
              refine wp_region_each (kss := [[], [(0, 46)], [(1, 47)], [(2, 48)], [(2, 48), (3, 49)], [(2, 48), (4, 50)], [(5, 51)], [(5, 51), (6, 52)], [(5, 51), (7, 53)], [(5, 51), (8, 54)], [(5, 51)], [(5, 51), (9, 55), (10, 56)], [(5, 51), (11, 57)], [(5, 51)], [(5, 51), (13, 59)], [(5, 51), (14, 60)], [(5, 51), (15, 61)], [(5, 51)], [(5, 51), (16, 62), (17, 63)], [(5, 51), (18, 64)], [(5, 51), (12, 58), (19, 65)], [(2, 48), (5, 51), (20, 66)], [(2, 48), (21, 67)]]) [(11, .int .i64 1), (0, .pointer (some ⟨p, 0, none⟩)), (7, .int .i64 ((i : Int))), (5, .int .i64 ((r : Int)))] [EV (.int .i64 1), EV (.bool false), EV (.bool false), EV (.int .i64 1), EV (.bool false), EV (.bool false), EV (undef), EV (undef), EV (undef), EV (undef), EV (undef), EV (undef), EV (undef), EV (undef), EV (undef), EV (undef), EV (undef), EV (undef), EV (undef), EV (undef), EV (undef), EV (.bool false), EV (.bool false)] (by kernel_rfl) (by kernel_rfl) ⟨rfl, rfl, rfl, rfl, trivial⟩ ?_ ?_ ?_
              · exact ⟨eI, eI, eI, eI, eI, eI, eI, eI, eI, eI, eI, eI, eI, eI, eI, eI, eI, eI, eI, eI, eI, eI, eI, trivial⟩
              · refine ⟨?_, ?_, ?_, ?_, ?_, ?_, ?_, ?_, ?_, ?_, ?_, ?_, ?_, ?_, ?_, ?_, ?_, ?_, ?_, ?_, ?_, ?_, ?_, trivial⟩
                · exact fun _ _ _ he hd => ob_mv rfl rfl he.1
                · exact fun aa ww hb he hd => ob_plain rfl (gives_lt_int 1 0 .i64 _ _ _ _ rfl hd.1 rfl ⟨congrArg Value.bool (by decide), Below.refl _ _⟩)
                · exact fun _ _ _ he hd => ob_mv rfl rfl hd.1
                · exact fun aa ww hb he hd => ob_on 48 rfl (by kernel_rfl) hd.1 (gives_move _ rfl ⟨he.1, Below.refl _ _⟩)
                · exact fun aa ww hb he hd => ob_on 48 rfl (by kernel_rfl) hd.1 (gives_eq_int 1 0 .i64 _ _ _ _ rfl hd.2.1 rfl ⟨congrArg Value.bool (by decide), Below.refl _ _⟩)
                · exact fun aa ww hb he hd => ob_on 48 rfl (by kernel_rfl) hd.1 (gives_move _ rfl ⟨hd.2.1, Below.refl _ _⟩)
                · exact fun aa ww hb he hd => ob_off 51 rfl (by kernel_rfl) hd.1 rfl
                · exact fun aa ww hb he hd => ob_off 51 rfl (by kernel_rfl) hd.1 rfl
                · exact fun aa ww hb he hd => ob_off 51 rfl (by kernel_rfl) hd.1 rfl
                · exact fun aa ww hb he hd => ob_off 51 rfl (by kernel_rfl) hd.1 rfl
                · exact fun aa ww hb he hd => ob_off 51 rfl (by kernel_rfl) hd.1 rfl
                · exact fun aa ww hb he hd => ob_off 51 rfl (by kernel_rfl) hd.1 rfl
                · exact fun aa ww hb he hd => ob_off 51 rfl (by kernel_rfl) hd.1 rfl
                · exact fun aa ww hb he hd => ob_off 51 rfl (by kernel_rfl) hd.1 rfl
                · exact fun aa ww hb he hd => ob_off 51 rfl (by kernel_rfl) hd.1 rfl
                · exact fun aa ww hb he hd => ob_off 51 rfl (by kernel_rfl) hd.1 rfl
                · exact fun aa ww hb he hd => ob_off 51 rfl (by kernel_rfl) hd.1 rfl
                · exact fun aa ww hb he hd => ob_off 51 rfl (by kernel_rfl) hd.1 rfl
                · exact fun aa ww hb he hd => ob_off 51 rfl (by kernel_rfl) hd.1 rfl
                · exact fun aa ww hb he hd => ob_off 51 rfl (by kernel_rfl) hd.1 rfl
                · exact fun aa ww hb he hd => ob_off 51 rfl (by kernel_rfl) hd.1 rfl
                · exact fun aa ww hb he hd => ob_on 48 rfl (by kernel_rfl) hd.1 (gives_pick false _ _ _ rfl hd.2.1 ⟨rfl, Below.refl _ _⟩)
                · exact fun aa ww hb he hd => ob_plain rfl (gives_pick false _ _ _ rfl hd.1 ⟨hd.2.1, Below.refl _ _⟩)
              intro vs w8 hb hR
              have e68 : vs 22 = .bool false := hR 22 (by decide)
              clear hR
              simp only [putsL, Nat.zero_add, Nat.reduceAdd, List.take_succ_cons, List.take_zero, Act.put, List.setIfInBounds_toArray, List.set_cons_zero, List.set_cons_succ]
              rw [e68]
              clear e68
              go_wp2_with fail
              refine ⟨⟨(r : Int), i + 1, rfl, by go_num, by omega, Lib.hid ⟨bthen HB5.out hb HB5.out.size, .inr ⟨r, rfl, HLV.out, HX6.out.new hb⟩⟩⟩, by simp [intOf]; omega⟩
    · obtain rfl : m = i := by omega
      go_wp2_with fail
      go_ret
      rcases HI.out.2 with ⟨h1, h2, h3⟩ | ⟨r, h1, h2, h3⟩
      · exact ⟨z, rfl, HI.out.1, .inl ⟨h1, h2⟩⟩
      · exact ⟨z, rfl, HI.out.1, .inr ⟨r, h1, h2⟩⟩
end Go.Proofs.Ytpnklmgfdihjfaa
namespace Go.Proofs.Ytpnklmgfdihjfaa
open Go.RowKit
set_option linter.unusedVariables false
set_option linter.unusedSimpArgs false

/-- K steps of Bland's rule lead from S to S'. -/
inductive BRun (m R cols : Nat) (S : Tab) : Nat → Tab → Prop
  | nil : BRun m R cols S 0 S
  | snoc {K : Nat} {S' : Tab} {e r : Nat} : BRun m R cols S K S' → Bl m R cols S' e r → BRun m R cols S (K + 1) (S'.piv r e)
section
variable {m R cols : Nat} {S S' : Tab} {K : Nat}
theorem BRun.runs (hc : cols ≤ R) (hC : Canon m R S) (hF : Feas m R S) (h : BRun m R cols S K S') : ∃ (F : Nat → Tab) (E Q : Nat → Nat), Bruns m R cols F E Q K ∧ F 0 = S ∧ F K = S' := by
  induction h with
  | nil => exact ⟨fun _ => S, fun _ => 0, fun _ => 0, ⟨hc, hC, hF, fun k hk => absurd hk (by omega), fun k hk => absurd hk (by omega)⟩, rfl, rfl⟩
  | @snoc K S1 e r h1 h2 ih =>
    obtain ⟨F, E, Q, hB, h0, hK⟩ := ih
    refine ⟨fun k => if k ≤ K then F k else S1.piv r e, fun k => if k < K then E k else e, fun k => if k < K then Q k else r, ⟨hc, ?_, ?_, fun k hk => ?_, fun k hk => ?_⟩, ?_, ?_⟩
    · simp only [Nat.zero_le, if_true]; exact hB.canon
    · simp only [Nat.zero_le, if_true]; exact hB.feas
    · by_cases hkK : k < K
      · simp only [hkK, if_true, Nat.le_of_lt hkK]; exact hB.step k hkK
      · obtain rfl : k = K := by omega
        simp only [Nat.lt_irrefl, if_false, Nat.le_refl, if_true]; rw [hK]; exact h2
    · by_cases hkK : k < K
      · simp only [hkK, if_true, Nat.le_of_lt hkK, Nat.succ_le_of_lt hkK]; exact hB.next k hkK
      · obtain rfl : k = K := by omega
        simp only [Nat.lt_irrefl, if_false, Nat.le_refl, if_true]; rw [hK, if_neg (by omega)]
    · simp only [Nat.zero_le, if_true]; exact h0
    · simp only []; rw [if_neg (by omega)]
theorem BRun.good (hc : cols ≤ R) (hC : Canon m R S) (hF : Feas m R S) (h : BRun m R cols S K S') : Canon m R S' ∧ Feas m R S' ∧ Eqv m R S S' ∧ Eqv m R S' S ∧ K < R ^ m := by
  obtain ⟨F, E, Q, hB, rfl, rfl⟩ := h.runs hc hC hF
  obtain ⟨h1, h2⟩ := hB.all K (Nat.le_refl _)
  exact ⟨h1, h2, hB.eqv2 (Nat.zero_le _) (Nat.le_refl _), hB.eqv2 (Nat.le_refl _) (Nat.zero_le _), hB.short⟩
end
theorem sign_ge {x : Rat} : decide (x.num.sign ≥ 0) = decide (0 ≤ x) := by
  rcases sign_cases x with ⟨h1, h2⟩ | ⟨h1, h2⟩ | ⟨h1, h2⟩ <;> rw [h2]
  · rw [decide_eq_false (show ¬ 0 ≤ x by grind)]; rfl
  · rw [decide_eq_true (show 0 ≤ x by grind)]; rfl
  · rw [decide_eq_true (show 0 ≤ x by grind)]; rfl
/-- Where maximize ends: no reduced cost is negative, or a column without a row that leaves. -/
def MxEnd (m cols : Nat) (S : Tab) (z : Int) (ok : Bool) : Prop := (ok = true ∧ z = 0 ∧ ∀ j, j < cols → 0 ≤ S.G j) ∨ (ok = false ∧ ∃ j : Nat, z = (j : Int) ∧ j < cols ∧ S.G j < 0 ∧ (∀ l, l < j → 0 ≤ S.G l) ∧ ∀ i, i < m → S.T i j ≤ 0)
def MxRet (base p n m N b cr cb cols R : Nat) (Ar Ab : Option Addr) (S : Tab) (w : World) (e : Ending) (w' : World) : Prop := ∃ (K : Nat) (S' : Tab) (gg : Nat) (rs : Nat → Nat) (z : Int) (ok : Bool), e = .returned (.tuple #[.int .i64 z, .bool ok]) ∧ BRun m R cols S K S' ∧ MxEnd m cols S' z ok ∧ TabW base w' p n m N b gg Ar cr Ab cb rs S' ∧ Below base w w'
set_option maxRecDepth 100000 in
set_option maxHeartbeats 8000000 in
theorem maximize_any (base p n m N b gg cr cb cols : Nat) (Ar Ab : Option Addr) (rs : Nat → Nat) (S : Tab) (w : World) (hT : TabW base w p n m N b gg Ar cr Ab cb rs S) (R : Nat) (hR : R = n + m + 1) (hc : cols ≤ R) (hC : Canon m R S) (hFe : Feas m R S)
    (hF : ∀ S', Canon m R S' → Eqv m R S S' → Eqv m R S' S → (∀ i, i < m → ∀ j, j < N → Fit b (S'.T i j)) ∧ ∀ j, j < N → Fit b (S'.G j)) (hN2 : N ≤ 1000) (hb0 : b ≤ 1000) (hb1 : 1 ≤ b) :
    Calls Try.prog 68 #[.pointer (some ⟨p, 0, none⟩), .int .i64 cols] w (MxRet base p n m N b cr cb cols R Ar Ab S w) := by
  have HNn := Lib.hid hT.low.2.2
  have HT0 := Lib.hid hT; clear hT
  have HRR := Lib.hid hR; clear hR
  have HH := Lib.hid (And.intro hc (And.intro hC hFe)); clear hC hFe
  have HF := Lib.hid hF; clear hF
  have hcN : cols ≤ 1000 := by have := HNn.out; have := HRR.out; omega
  have hRN : R < N := by have := HNn.out; have := HRR.out; omega
  obtain ⟨M, hM⟩ : ∃ M, M = R ^ m := ⟨_, rfl⟩
  have HM := Lib.hid hM; clear hM
  go_enter Try.func68, Try.ntmps68
  go_wp2
  go_step3
  go_wp2
  go_step3
  go_wp2
  go_loopg [] M (fun k wr => ∃ (K : Nat) (S' : Tab) (gg' : Nat) (rs' : Nat → Nat), k + K = M ∧ Hid (BRun m R cols S K S' ∧ TabW base wr p n m N b gg' Ar cr Ab cb rs' S' ∧ Below base w wr))
  case atStart => exact ⟨0, S, gg, rs, rfl, Lib.hid ⟨.nil, HT0.out, Below.refl _ _⟩⟩
  case round =>
    obtain ⟨K, S1, gg, rs, hKM, HI⟩ := hrel
    obtain ⟨w1, hw1⟩ : ∃ w1, w1 = wr := ⟨_, rfl⟩
    subst hw1
    obtain ⟨G, hG⟩ : ∃ G, G = gk := ⟨_, rfl⟩
    subst hG
    go_wp2_with fail
    go_loopg [9] cols (fun g iv wr => ∃ j : Nat, iv = .int .i64 j ∧ j + g = cols ∧ Hid ((∀ l, l < j → 0 ≤ S1.G l) ∧ Below w1.heap.size w1 wr))
    case atStart => exact ⟨0, rfl, by omega, Lib.hid ⟨fun l hl => absurd hl (by omega), Below.refl _ _⟩⟩
    case round =>
      obtain ⟨j, rfl, hjc, HJ⟩ := hrel
      by_cases hj : j < cols
      · have i1 : ((j : Int) < (cols : Int)) := by omega
        have HT := Lib.hid (HI.out.2.1.new HJ.out.2)
        have hjN : j < N := by omega
        by_cases hp : 0 ≤ S1.G j
        · have hs : decide ((S1.G j).num.sign ≥ 0) = true := sign_ge.trans (decide_eq_true hp)
          go_upto_region 4 with (fail)
          refine wp_region_seq (kss := [[], [(0, 12)], [(1, 13)], [(2, 14)], [], [(3, 15), (4, 16)], [(5, 17)], [(6, 18)], [(7, 19)]]) [(0, .pointer (some ⟨p, 0, none⟩)), (6, .int .i64 ((j : Int)))] [EV (.pointer (some ⟨p, 0, none⟩)), EV (.pointer (some ⟨p, 0, none⟩)), EV (.pointer (some ⟨p, 3, none⟩)), EV (.slice (some (⟨gg, 0, none⟩)) N N), EV (.int .i64 ((j : Int))), EV (.pointer (some (Addr.add (⟨gg, 0, none⟩) (j * 3)))), Rv (b) ((S1.G) j), EV (.int .i64 (((S1.G) j).num.sign)), EV (.bool true)] (by kernel_rfl) ⟨rfl, rfl, trivial⟩ ?_ ?_ ?_
          · exact ⟨eI, eI, eI, eI, eI, eI, fun _ _ _ h hb => h.new hb, eI, eI, trivial⟩
          · refine ⟨?_, ?_, ?_, ?_, ?_, ?_, ?_, ?_, ?_, trivial⟩
            · exact fun _ _ _ he hd => ob_mv rfl rfl he.1
            · exact fun aa ww hb he hd => ob_plain rfl (nil_c rfl hd.1)
            · exact fun aa ww hb he hd => ob_plain rfl (fld_tab rfl (by decide) hd.1)
            · exact fun aa ww hb he hd => ob_plain rfl (load_c28 rfl hd.1 (TabW.new HT.out hb).c3)
            · exact fun _ _ _ he hd => ob_mv rfl rfl he.2.1
            · exact fun aa ww hb he hd => ob_plain rfl (idx_rs (by omega) rfl hd.1 hd.2.1)
            · exact fun aa ww hb he hd => ob_plain rfl (load_rn rfl hd.1 (Rs.of_rb (TabW.new HT.out hb).goal) (by omega))
            · exact fun aa ww hb he hd => ob_plain rfl (gives_call1 _ _ _ rfl (by kernel_rfl) (sign_v (hd.1.rw)))
            · exact fun aa ww hb he hd => ob_plain rfl (gives_ge_int (((S1.G) j).num.sign) 0 .i64 _ _ _ _ rfl hd.1 rfl ⟨congrArg Value.bool (hs), Below.refl _ _⟩)
          intro vs w3 hb hR
          have e20 : vs 8 = .bool true := hR 8 (by decide)
          clear hR
          simp only [putsL, Nat.zero_add, Nat.reduceAdd, List.take_succ_cons, List.take_zero, Act.put, List.setIfInBounds_toArray, List.set_cons_zero, List.set_cons_succ]
          rw [e20]
          clear e20
          go_wp2_with fail
          go_roundg (gk - 1)
          case measure => omega
          case rel => exact ⟨j + 1, by go_num, by omega, Lib.hid ⟨fun l hl => by
            by_cases hlj : l = j
            · rw [hlj]; exact hp
            · exact HJ.out.1 l (by omega), bthen HJ.out.2 hb HJ.out.2.size⟩⟩
        · have hs : decide ((S1.G j).num.sign ≥ 0) = false := sign_ge.trans (decide_eq_false hp)
          have hneg : S1.G j < 0 := by grind
          go_upto_region 4 with (fail)
          refine wp_region_seq (kss := [[], [(0, 12)], [(1, 13)], [(2, 14)], [], [(3, 15), (4, 16)], [(5, 17)], [(6, 18)], [(7, 19)]]) [(0, .pointer (some ⟨p, 0, none⟩)), (6, .int .i64 ((j : Int)))] [EV (.pointer (some ⟨p, 0, none⟩)), EV (.pointer (some ⟨p, 0, none⟩)), EV (.pointer (some ⟨p, 3, none⟩)), EV (.slice (some (⟨gg, 0, none⟩)) N N), EV (.int .i64 ((j : Int))), EV (.pointer (some (Addr.add (⟨gg, 0, none⟩) (j * 3)))), Rv (b) ((S1.G) j), EV (.int .i64 (((S1.G) j).num.sign)), EV (.bool false)] (by kernel_rfl) ⟨rfl, rfl, trivial⟩ ?_ ?_ ?_
          · exact ⟨eI, eI, eI, eI, eI, eI, fun _ _ _ h hb => h.new hb, eI, eI, trivial⟩
          · refine ⟨?_, ?_, ?_, ?_, ?_, ?_, ?_, ?_, ?_, trivial⟩
            · exact fun _ _ _ he hd => ob_mv rfl rfl he.1
            · exact fun aa ww hb he hd => ob_plain rfl (nil_c rfl hd.1)
            · exact fun aa ww hb he hd => ob_plain rfl (fld_tab rfl (by decide) hd.1)
            · exact fun aa ww hb he hd => ob_plain rfl (load_c28 rfl hd.1 (TabW.new HT.out hb).c3)
            · exact fun _ _ _ he hd => ob_mv rfl rfl he.2.1
            · exact fun aa ww hb he hd => ob_plain rfl (idx_rs (by omega) rfl hd.1 hd.2.1)
            · exact fun aa ww hb he hd => ob_plain rfl (load_rn rfl hd.1 (Rs.of_rb (TabW.new HT.out hb).goal) (by omega))
            · exact fun aa ww hb he hd => ob_plain rfl (gives_call1 _ _ _ rfl (by kernel_rfl) (sign_v (hd.1.rw)))
            · exact fun aa ww hb he hd => ob_plain rfl (gives_ge_int (((S1.G) j).num.sign) 0 .i64 _ _ _ _ rfl hd.1 rfl ⟨congrArg Value.bool (hs), Below.refl _ _⟩)
          intro vs w3 hb hR
          have e20 : vs 8 = .bool false := hR 8 (by decide)
          clear hR
          simp only [putsL, Nat.zero_add, Nat.reduceAdd, List.take_succ_cons, List.take_zero, Act.put, List.setIfInBounds_toArray, List.set_cons_zero, List.set_cons_succ]
          rw [e20]
          clear e20
          have HB3 := Lib.hid (show Below w1.heap.size w1 w3 from bthen HJ.out.2 hb HJ.out.2.size)
          have HT3 := Lib.hid (HI.out.2.1.new HB3.out)
          clear hb HT
          have HRun := Lib.hid HI.out.1
          have HGd := Lib.hid (HRun.out.good HH.out.1 HH.out.2.1 HH.out.2.2)
          have HJ1 := Lib.hid HJ.out.1
          have HB1 := Lib.hid (HI.out.2.2 : Below base w w1)
          have HTl := Lib.hid HI.out.2.1.low
          clear HI HJ
          go_upto_region 6 with (go_at_call 93; refine (leaving_any base p n m N b gg cr cb j Ar Ab rs S1 w3 HT3.out hjN hN2 hb0 hb1 R HRR.out).mono ?_; rintro e w4 ⟨z, rfl, hb, hz⟩)
          have HZ := Lib.hid hz; clear hz
          have HT4 := Lib.hid (HT3.out.new hb)
          have HB4 := Lib.hid (show Below w1.heap.size w1 w4 from bthen HB3.out hb HB3.out.size)
          clear hb
          by_cases hz0 : z < 0
          · have hall : z = -1 ∧ ∀ i, i < m → S1.T i j ≤ 0 := by
              rcases HZ.out with h | ⟨r, h1, h2⟩
              · exact h
              · omega
            go_wp2_with fail
            try rw [Exit.noGoto_ret]
            go_ret2
            exact ⟨K, S1, gg, rs, (j : Int), false, rfl, HRun.out, .inr ⟨rfl, j, rfl, hj, hneg, HJ1.out, hall.2⟩, HT4.out, bthen HB1.out HB4.out HTl.out.2.1⟩
          · obtain ⟨r, rfl, hLv⟩ : ∃ r : Nat, z = (r : Int) ∧ Lv R S1 j m r := by
              rcases HZ.out with ⟨h, _⟩ | h
              · omega
              · exact h
            have HL := Lib.hid hLv; clear hLv
            clear HZ
            have hrm := HL.out.lt
            obtain ⟨⟨gr, rfl, -, -⟩, gb, rfl, -, -⟩ := HT4.out.some_ (by omega)
            have HBl := Lib.hid (show Bl m R cols S1 j r from ⟨hj, hneg, HJ1.out, hrm, HL.out.pos, HL.out.least⟩)
            have hne : S1.T r j ≠ 0 := by have := HL.out.pos; grind
            have HN := Lib.hid ((HRun.out.snoc HBl.out).good HH.out.1 HH.out.2.1 HH.out.2.2)
            have HFt := Lib.hid (HF.out _ HN.out.1 HN.out.2.2.1 HN.out.2.2.2.1)
            go_wp2_with (go_at_call 90; refine (pivot_any base p n m N b gg gr cr gb cb r j rs S1 w4 HT4.out hrm hjN hN2 hb0 hb1 hne HFt.out.1 HFt.out.2).mono ?_; rintro e w5 ⟨gg', rs', rfl, hT5, hB5⟩)
            have hlt : K + 1 < M := by rw [HM.out]; exact HN.out.2.2.2.2
            go_roundg (G - 1)
            case measure => omega
            case rel => exact ⟨K + 1, S1.piv r j, gg', rs', by omega, Lib.hid ⟨HRun.out.snoc HBl.out, hT5, (bthen HB1.out HB4.out HTl.out.2.1).trans hB5⟩⟩
      · obtain rfl : j = cols := by omega
        go_wp2_with fail
        try rw [Exit.noGoto_ret]
        go_ret2
        exact ⟨K, S1, gg, rs, 0, true, rfl, HI.out.1, .inl ⟨rfl, rfl, HJ.out.1⟩, HI.out.2.1.new HJ.out.2, bthen HI.out.2.2 HJ.out.2 HI.out.2.1.low.2.1⟩
end Go.Proofs.Ytpnklmgfdihjfaa
namespace Go.Proofs.Ytpnklmgfdihjfaa
open Go.RowKit
set_option linter.unusedVariables false
set_option linter.unusedSimpArgs false

/-- A tableau whose reduced costs are not laid yet. -/
structure Tab0 (base : Nat) (w : World) (p n m N b : Nat) (A3 : Option Addr) (n3 d3 : Nat) (Ar : Option Addr) (cr : Nat) (Ab : Option Addr) (cb : Nat) (rs : Nat → Nat) (S : Tab) : Prop where
  blk : Blk w p 116 #[.int .i64 n, .int .i64 m, .slice Ar m cr, .slice A3 n3 d3, .slice Ab m cb]
  rows : w.ownsRow base 28 1 (.slice Ar m cr) m (rowsL rs N m)
  row : ∀ {i : Nat}, i < m → RB w (rs i) N (PN w b (S.T i))
  bas : w.ownsRow base 3 1 (.slice Ab m cb) m (basL S.b m)
  low : base ≤ p ∧ base ≤ w.heap.size ∧ N = n + m + 2
section
variable {base : Nat} {w w' : World} {p n m N b n3 d3 gg gr cr gb cb : Nat} {A3 Ar Ab : Option Addr} {rs : Nat → Nat} {S : Tab}
theorem TabW.to0 (h : TabW base w p n m N b gg Ar cr Ab cb rs S) : Tab0 base w p n m N b (some ⟨gg, 0, none⟩) N N Ar cr Ab cb rs S := ⟨h.blk, h.rows, h.row, h.bas, h.low⟩
theorem Tab0.new (h : Tab0 base w p n m N b A3 n3 d3 Ar cr Ab cb rs S) (hb : Below w.heap.size w w') : Tab0 base w' p n m N b A3 n3 d3 Ar cr Ab cb rs S :=
  ⟨h.blk.below hb h.blk.lt, own_below h.rows hb, fun hi => (h.row hi).newN hb, own_below h.bas hb, h.low.1, Nat.le_trans h.low.2.1 hb.size, h.low.2.2⟩
theorem Tab0.c3 (h : Tab0 base w p n m N b A3 n3 d3 Ar cr Ab cb rs S) : w.cell? ⟨p, 3, none⟩ = some (.slice A3 n3 d3) := by rw [h.blk.cell]; rfl
/-- The reduced costs are laid. -/
theorem Tab0.setGoal (h : Tab0 base w p n m N b A3 n3 d3 Ar cr Ab cb rs S) {g : Nat} {f : Nat → Rat} (hg : RB w g N (PN w b f)) :
    TabW base (w.setCell ⟨p, 3, none⟩ (.slice (some ⟨g, 0, none⟩) N N)) p n m N b g Ar cr Ab cb rs ⟨S.T, f, S.b⟩ ∧ w.grownBy (w.setCell ⟨p, 3, none⟩ (.slice (some ⟨g, 0, none⟩) N N)) (some p) := by
  have kp := KeepsN.setCell h.c3 (by intro x; simp) (.slice (some ⟨g, 0, none⟩) N N)
  have hrb : ∀ {g' : Nat} {f' : Nat → Rat}, RB w g' N (PN w b f') → RB (w.setCell ⟨p, 3, none⟩ (.slice (some ⟨g, 0, none⟩) N N)) g' N (PN (w.setCell ⟨p, 3, none⟩ (.slice (some ⟨g, 0, none⟩) N N)) b f') := by
    intro g' f' hh
    refine hh.far ?_ (fun j v _ hv => PN.keep hv kp)
    obtain ⟨cs, hb', _⟩ := hh
    exact Blk.ne_ hb' h.blk (by decide)
  have hb := h.blk.set_ 3 (.slice (some ⟨g, 0, none⟩) N N)
  exact ⟨⟨hb, own_far h.rows h.blk (by decide) 3 _, fun hi => hrb (h.row hi), own_far h.bas h.blk (by decide) 3 _, hrb hg, h.low.1, by rw [size_setCell]; exact h.low.2.1, h.low.2.2⟩, only_setCell (World.grownBy.refl w _) (.inl rfl) _⟩
/-- A write into the reduced costs, which no row shares. -/
theorem TabW.goalStore (h : TabW base w p n m N b gg Ar cr Ab cb rs S) (hne : ∀ i, i < m → rs i ≠ gg) {f : Nat → Rat} (kp : KeepsN w w') (hg : w.grownBy w' (some gg)) (hs : w'.heap.size = w.heap.size) (hr : RB w' gg N (PN w' b f)) : TabW base w' p n m N b gg Ar cr Ab cb rs ⟨S.T, f, S.b⟩ := by
  obtain ⟨cs, hb, -⟩ := h.goal
  refine ⟨h.blk.grown hg (fun e => ?_), own_grown_ne h.rows hb hg (by decide), fun {i} hi => (h.row hi).grown hg (hne i hi) (fun j v _ hv => PN.keep hv kp), own_grown_ne h.bas hb hg (by decide), hr, h.low.1, by rw [hs]; exact h.low.2.1, h.low.2.2⟩
  injection e with e
  exact Blk.ne_ h.blk hb (by decide) e
end
/-- The reduced costs of an objective, after the first i rows. -/
def objG (S : Tab) (f : Nat → Rat) (n : Nat) : Nat → Nat → Rat
  | 0, j => if j < n then - f j else 0
  | i + 1, j => if S.b i < n then objG S f n i j - (- f (S.b i)) * S.T i j else objG S f n i j
def obj1 (f : Nat → Rat) (k j : Nat) : Rat := if j < k then - f j else 0
theorem obj1_ne {f : Nat → Rat} {k i : Nat} (h : i ≠ k) : obj1 f (k + 1) i = obj1 f k i := by
  unfold obj1
  by_cases hi : i < k
  · rw [if_pos hi, if_pos (by omega)]
  · rw [if_neg hi, if_neg (by omega)]
theorem obj1_self (f : Nat → Rat) (k : Nat) : obj1 f (k + 1) k = - f k := if_pos (by omega)
def ObRet (base p n m N b cr cb : Nat) (Ar Ab : Option Addr) (rs : Nat → Nat) (S : Tab) (w : World) (e : Ending) (w' : World) : Prop := ∃ gg : Nat, e = .returned (.tuple #[]) ∧ TabW base w' p n m N b gg Ar cr Ab cb rs S ∧ Below base w w'
theorem gives_add_nat {o : Oper} {a : Act} {w : World} {t t2 : TypeId} {x y : Operand} (i j s : Nat) (ho : o.op = .binOp .add t x y t2) (hx : a.eval x = .int .i64 i) (hy : a.eval y = .int .i64 j) (hs : i + j = s) (hlt : s ≤ 3000) : gives Try.prog o a.eval w (fun v w' => v = .int .i64 (s : Int) ∧ Below w.heap.size w w') := by
  refine gives_val (.int .i64 (s : Int)) ?_ ⟨rfl, Below.refl _ _⟩
  unfold execOp
  rw [ho]
  simp only [hx, hy]
  go_simp
  subst hs
  rw [IntWalk.i64_in _ (by omega)]
  push_cast
  rfl
theorem gives_zeros {o : Oper} {a : Act} {w : World} {t : Tmp} {ts : Array TypeId} {N B : Nat} (ho : o.op = .call { callee := .value (.func 88), args := #[.tmp t], argTypes := ts }) (e : tv a t = .int .i64 (N : Int)) (hN : N ≤ 1000) (hB : B ≤ w.heap.size) :
    gives Try.prog o a.eval w (fun v w' => (∃ g : Nat, v = .slice (some ⟨g, 0, none⟩) N N ∧ B ≤ g ∧ RB w' g N (PN w' 2 (fun _ => 0))) ∧ Below w.heap.size w w') := by
  refine gives_call1 _ _ _ ho (by kernel_rfl) ?_
  rw [eval_tmp, e]
  exact (zeros_any N hN w).mono fun _ _ ⟨g, he, h1, h2, h3⟩ => ⟨_, he, ⟨g, rfl, Nat.le_trans hB h1, h2⟩, h3⟩
set_option maxRecDepth 100000 in
set_option maxHeartbeats 8000000 in
theorem objective_any (base p n m N b n3 d3 cr cb cc : Nat) (A3 Ar Ab AC : Option Addr) (rs : Nat → Nat) (S : Tab) (f : Nat → Rat) (w : World) (hT : Tab0 base w p n m N b A3 n3 d3 Ar cr Ab cb rs S)
    (hC : ∀ w', Below base w w' → Rs w' w'.heap.size AC n (PW w' b f)) (hF : ∀ i, i ≤ m → ∀ j, j < N → Fit b (objG S f n i j)) (hN2 : N ≤ 1000) (hb0 : b ≤ 1000) (hb2 : 2 ≤ b) :
    Calls Try.prog 67 #[.pointer (some ⟨p, 0, none⟩), .slice AC n cc] w (ObRet base p n m N b cr cb Ar Ab rs ⟨S.T, objG S f n m, S.b⟩ w) := by
  have HNn := Lib.hid hT.low.2.2
  have HT0 := Lib.hid hT; clear hT
  have HC := Lib.hid hC; clear hC
  have HF := Lib.hid hF; clear hF
  have hmm : m ≤ 1000 := by have := HNn.out; omega
  have hnm : n ≤ 1000 := by have := HNn.out; omega
  have hN0 : 0 < N := by have := HNn.out; omega
  have hnN : n ≤ N := by have := HNn.out; omega
  have pl := HT0.out.blk.lt
  have c3 := HT0.out.c3
  have hb1 : 1 ≤ b := by omega
  have HEN : n + m + 1 + 1 = N := by have := HNn.out; omega
  clear pl c3
  go_enter Try.func67, Try.ntmps67
  go_upto_region 0 with (fail)
  refine wp_region_joins (kss := [[], [], [(1, 8)], [(2, 9)], [(3, 10)], [(0, 7)], [(5, 12)]]) [(0, .pointer (some ⟨p, 0, none⟩))] [EV (.pointer (some ⟨p, 0, none⟩)), EV (.pointer (some ⟨p, 0, none⟩)), EV (.int .i64 (((n + m + 1 : Nat) : Int))), EV (.int .i64 (((N : Nat) : Int))), fun v w' => ∃ g : Nat, v = .slice (some ⟨g, 0, none⟩) N N ∧ w.heap.size ≤ g ∧ RB w' g N (PN w' 2 (fun _ => 0)), EV (.pointer (some ⟨p, 0, none⟩)), EV (.pointer (some ⟨p, 3, none⟩))] 7 (by kernel_rfl) ⟨rfl, trivial⟩ [false, false, false, false, false, false, false] ?_ ?_ ?_
  · exact ⟨eI, eI, eI, eI, fun _ _ _ ⟨g, h1, h2, h3⟩ hb => ⟨g, h1, h2, h3.newN hb⟩, eI, eI, trivial⟩
  · refine ⟨?_, ?_, ?_, ?_, ?_, ?_, ?_, trivial⟩
    · exact fun _ _ _ he hd => ob_mv rfl rfl he.1
    · exact fun _ _ _ he hd => ob_mv rfl rfl he.1
    · exact fun aa ww hb he hd => ob_plain rfl (gives_call1 _ _ _ rfl (by kernel_rfl) (by rw [show aa.eval (.tmp 8) = .pointer (some ⟨p, 0, none⟩) from hd.1]; exact rv_one (right_any (Tab0.new HT0.out hb).blk (by omega) (by omega))))
    · exact fun aa ww hb he hd => ob_plain rfl (gives_add_nat (n + m + 1) 1 N rfl hd.1 rfl (by first | rfl | omega) (by omega))
    · exact fun aa ww hb he hd => ob_plain rfl (gives_zeros rfl (hd.1) hN2 hb.size)
    · exact fun aa ww hb he hd => ob_plain rfl (nil_c rfl hd.1)
    · exact fun aa ww hb he hd => ob_plain rfl (fld_tab rfl (by decide) hd.1)
  intro vs w2 hb hR
  have r11 := hR 4 (by decide)
  have e13 : vs 6 = .pointer (some ⟨p, 3, none⟩) := hR 6 (by decide)
  clear hR
  simp only [putsL, Nat.zero_add, Nat.reduceAdd, List.take_succ_cons, List.take_zero, Act.put, List.setIfInBounds_toArray, List.set_cons_zero, List.set_cons_succ]
  rw [e13]
  clear e13
  obtain ⟨g2, e11, hg2, hz2⟩ := (show ∃ g : Nat, vs 4 = .slice (some ⟨g, 0, none⟩) N N ∧ w.heap.size ≤ g ∧ RB w2 g N (PN w2 2 (fun _ => 0)) from r11)
  rw [e11]
  clear r11 e11
  have HT2 := Lib.hid (HT0.out.new hb)
  have HB2 := Lib.hid (show Below base w w2 from (Below.refl _ _).trans (hb.mono HT0.out.low.2.1))
  have HG2 := Lib.hid (show ∀ i, i < m → rs i ≠ g2 from fun i hi => by have := (HT0.out.row hi).lt; omega)
  have HZ2 := Lib.hid (show RB w2 g2 N (PN w2 b (obj1 f 0)) from hz2.mono fun j v _ hv => by
    have h' : Rv 2 0 v w2 := hv
    show Rv b (obj1 f 0 j) v w2
    rw [show obj1 f 0 j = 0 from if_neg (by omega)]; exact h'.more hb2)
  have HG3 := Lib.hid (show base ≤ g2 from Nat.le_trans HT0.out.low.2.1 hg2)
  clear hg2 hz2 hb
  obtain ⟨s1, s2⟩ := HT2.out.setGoal HZ2.out
  have HN1 := Lib.hid s1
  have HN2 := Lib.hid (show Below base w (w2.setCell ⟨p, 3, none⟩ (.slice (some ⟨g2, 0, none⟩) N N)) from HB2.out.setCell (p := ⟨p, 3, none⟩) HT2.out.low.1 _)
  clear s1 s2
  show wpOps _ _ _ [7] _ _
  refine wpOps_next rfl rfl (store_c28 rfl rfl rfl rfl HT2.out.c3 (HT2.out.blk.frozen 3) ?_)
  show Exit.then _ _ _ _ _
  generalize w2.setCell ⟨p, 3, none⟩ (.slice (some ⟨g2, 0, none⟩) N N) = w3 at *
  go_wp2_with fail
  go_loopg [16] n (fun g iv wr => ∃ k : Nat, iv = .int .i64 k ∧ k + g = n ∧ Hid (TabW base wr p n m N b g2 Ar cr Ab cb rs ⟨S.T, obj1 f k, S.b⟩ ∧ Below base w wr))
  case atStart => exact ⟨0, rfl, by omega, Lib.hid ⟨HN1.out, HN2.out⟩⟩
  case round =>
    obtain ⟨k, rfl, hkn, HI⟩ := hrel
    have HT := Lib.hid HI.out.1
    have HB := Lib.hid HI.out.2
    clear HI HN1 HN2
    by_cases hk : k < n
    · obtain ⟨ad, -, -, -, -, -, -, -, rfl, -⟩ := (HC.out _ HB.out).at_ hk
      have i1 : ((k : Int) < (n : Int)) := by omega
      have hkN : k < N := by omega
      go_upto_region 4 with (fail)
      refine wp_region_join (kss := [[], [(0, 19)], [(1, 20)], [(2, 21)], [], [], [], [(5, 24), (6, 25)], [(7, 26)], [(8, 27)], [(3, 22), (4, 23)]]) [(0, .pointer (some ⟨p, 0, none⟩)), (4, .int .i64 ((k : Int))), (1, .slice (some ad) n cc)] [EV (.pointer (some ⟨p, 0, none⟩)), EV (.pointer (some ⟨p, 0, none⟩)), EV (.pointer (some ⟨p, 3, none⟩)), EV (.slice (some (⟨g2, 0, none⟩)) N N), EV (.int .i64 ((k : Int))), EV (.slice (some ad) n cc), EV (.int .i64 ((k : Int))), EV (.pointer (some (Addr.add ad (k * 3)))), Rw (b) (f k), Rv (b) (-(f k)), EV (.pointer (some (Addr.add (⟨g2, 0, none⟩) (k * 3))))] 11 [] (by kernel_rfl) (by kernel_rfl) ⟨rfl, rfl, rfl, trivial⟩ [false, false, false, false, false, false, false, false, false, false, false] ?_ ?_ ?_ ?_
      · exact fun i hi => absurd hi (by simp)
      · exact ⟨eI, eI, eI, eI, eI, eI, eI, eI, fun _ _ _ h hb => h.new hb, fun _ _ _ h hb => h.new hb, eI, trivial⟩
      · refine ⟨?_, ?_, ?_, ?_, ?_, ?_, ?_, ?_, ?_, ?_, ?_, trivial⟩
        · exact fun _ _ _ he hd => ob_mv rfl rfl he.1
        · exact fun aa ww hb he hd => ob_plain rfl (nil_c rfl hd.1)
        · exact fun aa ww hb he hd => ob_plain rfl (fld_tab rfl (by decide) hd.1)
        · exact fun aa ww hb he hd => ob_plain rfl (load_c28 rfl hd.1 (TabW.new HT.out hb).c3)
        · exact fun _ _ _ he hd => ob_mv rfl rfl he.2.1
        · exact fun _ _ _ he hd => ob_mv rfl rfl he.2.2.1
        · exact fun _ _ _ he hd => ob_mv rfl rfl he.2.1
        · exact fun aa ww hb he hd => ob_plain rfl (idx_rs (by omega) rfl hd.1 hd.2.1)
        · exact fun aa ww hb he hd => ob_plain rfl (load_rw rfl hd.1 (HC.out _ (HB.out.trans (hb.mono HT.out.low.2.1))) (by omega))
        · exact fun aa ww hb he hd => ob_plain rfl (gives_call1 _ _ _ rfl (by kernel_rfl) (neg_v (hd.1) (by omega)))
        · exact fun aa ww hb he hd => ob_plain rfl (idx_rs (by omega) rfl hd.1 hd.2.1)
      intro vs w4 hb hR _
      have e29 : vs 10 = .pointer (some (Addr.add (⟨g2, 0, none⟩) (k * 3))) := hR 10 (by decide)
      have r28 : Rv (b) (-(f k)) (vs 9) w4 := hR 9 (by decide)
      clear hR
      simp only [putsL, Nat.zero_add, Nat.reduceAdd, List.take_succ_cons, List.take_zero, Act.put, List.setIfInBounds_toArray, List.set_cons_zero, List.set_cons_succ]
      rw [e29]
      clear e29
      show wpAny _ _ _ _ 1 _ _ _
      refine wpAny_next (i := 11) (by kernel_rfl) rfl rfl (store_row (v := vs 9) (g := g2) (j := k) (b := b) (x := - f k) rfl rfl rfl rfl (HT.out.new hb).goal hkN r28.rw ?_)
      intro wa kp hg hsz hR
      have HTa := Lib.hid ((HT.out.new hb).goalStore HG2.out kp hg hsz (hR (PN wa b (obj1 f (k + 1))) (fun i u _ hne h => by
        have h' : Rv b (obj1 f k i) u w4 := h
        show Rv b (obj1 f (k + 1) i) u wa
        rw [obj1_ne hne]; exact h'.keepN kp) (by
        show Rv b (obj1 f (k + 1) k) _ wa
        rw [obj1_self]; exact r28.keepN kp)))
      have hb4 : Below base w w4 := HB.out.trans (hb.mono HT.out.low.2.1)
      have HBa := Lib.hid (show Below base w wa from hb4.grown hg (HT.out.new hb).low.2.1 (fun x hx => by cases hx; exact HG3.out))
      clear hb hb4 kp hg hsz hR
      refine wpAny_end (by kernel_rfl) (calm_normal ?_) _
      go_wp2_with fail
      go_roundg (gk - 1)
      case measure => omega
      case rel => exact ⟨k + 1, by go_num, by omega, Lib.hid ⟨HTa.out, HBa.out⟩⟩
    · obtain rfl : n = k := by omega
      clear HEN
      have HG0 := Lib.hid (show TabW base wr p n m N b g2 Ar cr Ab cb rs ⟨S.T, objG S f n 0, S.b⟩ from HT.out)
      have c4 := HG0.out.c4; have pl := HG0.out.blk.lt
      go_wp2_with fail
      clear c4 pl HT HG2 HG3
      have HBB := Lib.hid HB.out; clear HB
      obtain ⟨w6, hw6⟩ : ∃ w6, w6 = wr := ⟨_, rfl⟩
      subst hw6
      go_loopg [36] m (fun g iv wr => ∃ (i gg : Nat), iv = .int .i64 i ∧ i + g = m ∧ Hid (TabW base wr p n m N b gg Ar cr Ab cb rs ⟨S.T, objG S f n i, S.b⟩ ∧ Below base w wr))
      case atStart => exact ⟨0, g2, rfl, by omega, Lib.hid ⟨HG0.out, HBB.out⟩⟩
      case round =>
        obtain ⟨i, gg, rfl, him, HI⟩ := hrel
        clear HG0 HBB
        by_cases hi : i < m
        · obtain ⟨⟨gr, rfl, -, -⟩, gb, rfl, -, -⟩ := HI.out.1.some_ (by omega)
          have HB := Lib.hid HI.out.2
          obtain ⟨S6, hS6⟩ : ∃ S6 : Tab, S6 = ⟨S.T, objG S f n i, S.b⟩ := ⟨_, rfl⟩
          have HT := Lib.hid HI.out.1
          rw [← hS6] at HT
          have HS6 := Lib.hid hS6; clear hS6 HI
          have bc := HT.out.bcell hi
          rw [addr_zero] at bc
          have c0 := HT.out.c0; have pl := HT.out.blk.lt
          have i1 : (0 : Int) ≤ (i : Int) := by omega
          have i2 : (i : Int) < (m : Int) := by omega
          by_cases hbn : S6.b i < n
          · have i3 : ((S6.b i : Int) < (n : Int)) := by omega
            obtain ⟨ad, -, -, -, -, -, -, -, rfl, -⟩ := (HC.out _ HB.out).at_ hbn
            go_upto_region 10 with (fail)
            clear bc c0 pl
            refine wp_region_join (kss := [[], [], [(1, 48)], [(2, 49)], [(3, 50)], [], [(5, 52)], [(6, 53)], [(7, 54)], [], [(8, 55), (9, 56)], [(10, 57)], [], [], [(12, 59), (13, 60)], [(14, 61)], [(15, 62)], [(4, 51), (11, 58), (16, 63)], [(0, 47)], [(18, 65)]]) [(0, .pointer (some ⟨p, 0, none⟩)), (5, .int .i64 ((i : Int))), (1, .slice (some ad) n cc), (6, .int .i64 ((S6.b i : Int)))] [EV (.pointer (some ⟨p, 0, none⟩)), EV (.pointer (some ⟨p, 0, none⟩)), EV (.pointer (some ⟨p, 0, none⟩)), EV (.pointer (some ⟨p, 3, none⟩)), EV (.slice (some (⟨gg, 0, none⟩)) N N), EV (.pointer (some ⟨p, 0, none⟩)), EV (.pointer (some ⟨p, 0, none⟩)), EV (.pointer (some ⟨p, 2, none⟩)), EV (.slice (some ⟨gr, 0, none⟩) m cr), EV (.int .i64 ((i : Int))), EV (.pointer (some (Addr.add ⟨gr, 0, none⟩ i))), EV (.slice (some (⟨rs i, 0, none⟩)) N N), EV (.slice (some ad) n cc), EV (.int .i64 ((S6.b i : Int))), EV (.pointer (some (Addr.add ad ((S6.b i) * 3)))), Rw (b) (f (S6.b i)), Rv (b) (-(f (S6.b i))), fun v w' => ∃ g0 : Nat, v = .slice (some ⟨g0, 0, none⟩) N N ∧ RB w' g0 N (PN w' (b + (b + b) + 1) (fun l => S6.G l - (-f (S6.b i)) * S6.T i l)), EV (.pointer (some ⟨p, 0, none⟩)), EV (.pointer (some ⟨p, 3, none⟩))] 20 [] (by kernel_rfl) (by kernel_rfl) ⟨rfl, rfl, rfl, rfl, trivial⟩ [false, false, false, false, false, false, false, false, false, false, false, false, false, false, false, false, false, false, false, false] ?_ ?_ ?_ ?_
            · exact fun i hi => absurd hi (by simp)
            · exact ⟨eI, eI, eI, eI, eI, eI, eI, eI, eI, eI, eI, eI, eI, eI, eI, fun _ _ _ h hb => h.new hb, fun _ _ _ h hb => h.new hb, fun _ _ _ ⟨g0, h1, h2⟩ hb => ⟨g0, h1, h2.newN hb⟩, eI, eI, trivial⟩
            · refine ⟨?_, ?_, ?_, ?_, ?_, ?_, ?_, ?_, ?_, ?_, ?_, ?_, ?_, ?_, ?_, ?_, ?_, ?_, ?_, ?_, trivial⟩
              · exact fun _ _ _ he hd => ob_mv rfl rfl he.1
              · exact fun _ _ _ he hd => ob_mv rfl rfl he.1
              · exact fun aa ww hb he hd => ob_plain rfl (nil_c rfl hd.1)
              · exact fun aa ww hb he hd => ob_plain rfl (fld_tab rfl (by decide) hd.1)
              · exact fun aa ww hb he hd => ob_plain rfl (load_c28 rfl hd.1 (TabW.new HT.out hb).c3)
              · exact fun _ _ _ he hd => ob_mv rfl rfl he.1
              · exact fun aa ww hb he hd => ob_plain rfl (nil_c rfl hd.1)
              · exact fun aa ww hb he hd => ob_plain rfl (fld_tab rfl (by decide) hd.1)
              · exact fun aa ww hb he hd => ob_plain rfl (load_c29 rfl hd.1 (TabW.new HT.out hb).c2)
              · exact fun _ _ _ he hd => ob_mv rfl rfl he.2.1
              · exact fun aa ww hb he hd => ob_plain rfl (idx_rws (by omega) rfl hd.1 hd.2.1)
              · exact fun aa ww hb he hd => ob_plain rfl (load_c28 rfl hd.1 ((TabW.new HT.out hb).rcell (by omega)))
              · exact fun _ _ _ he hd => ob_mv rfl rfl he.2.2.1
              · exact fun _ _ _ he hd => ob_mv rfl rfl he.2.2.2.1
              · exact fun aa ww hb he hd => ob_plain rfl (idx_rs (by omega) rfl hd.1 hd.2.1)
              · exact fun aa ww hb he hd => ob_plain rfl (load_rw rfl hd.1 (HC.out _ (HB.out.trans (hb.mono HT.out.low.2.1))) (by omega))
              · exact fun aa ww hb he hd => ob_plain rfl (gives_call1 _ _ _ rfl (by kernel_rfl) (neg_v (hd.1) (by omega)))
              · exact fun aa ww hb he hd => ob_plain rfl (gives_comb (b := b) (bq := b) (f := S6.G) (g := S6.T i) (q := -f (S6.b i)) rfl hd.1 (Rs.of_rb (TabW.new HT.out hb).goal) hd.2.1 (Rs.of_rb ((TabW.new HT.out hb).row (by omega))) hd.2.2.1.rw (by omega) (by omega) (by omega) hb1 (fun _ => rfl))
              · exact fun aa ww hb he hd => ob_plain rfl (nil_c rfl hd.1)
              · exact fun aa ww hb he hd => ob_plain rfl (fld_tab rfl (by decide) hd.1)
            intro vs w5 hb hR _
            have e66 : vs 19 = .pointer (some ⟨p, 3, none⟩) := hR 19 (by decide)
            have r64 := hR 17 (by decide)
            clear hR
            simp only [putsL, Nat.zero_add, Nat.reduceAdd, List.take_succ_cons, List.take_zero, Act.put, List.setIfInBounds_toArray, List.set_cons_zero, List.set_cons_succ]
            rw [e66]
            clear e66
            obtain ⟨g0, e64, hr0⟩ := (show ∃ g0 : Nat, vs 17 = .slice (some ⟨g0, 0, none⟩) N N ∧ RB w5 g0 N (PN w5 (b + (b + b) + 1) (fun l => S6.G l - (-f (S6.b i)) * S6.T i l)) from r64)
            rw [e64]
            clear r64 e64
            have HT4 := Lib.hid (HT.out.new hb)
            have HB4 := Lib.hid (show Below base w w5 from HB.out.trans (hb.mono HT.out.low.2.1))
            have HR0 := Lib.hid (hr0.mono (Q := PN w5 b (objG S f n (i + 1))) (fun l u hl h => by
              have h' : Rv (b + (b + b) + 1) (S6.G l - (-f (S6.b i)) * S6.T i l) u w5 := h
              have e1 : S6.G l - (-f (S6.b i)) * S6.T i l = objG S f n (i + 1) l := by
                show _ = if S.b i < n then _ else _
                have hh := hbn
                rw [HS6.out] at hh ⊢
                rw [if_pos hh]
              rw [e1] at h'
              have hfit := HF.out (i + 1) (by omega) l hl
              exact h'.fit hfit.1 hfit.2 hb1))
            clear hr0 hb
            obtain ⟨s1, s2⟩ := HT4.out.setGoal HR0.out
            have HN1 := Lib.hid (show TabW base (w5.setCell ⟨p, 3, none⟩ (.slice (some ⟨g0, 0, none⟩) N N)) p n m N b g0 (some ⟨gr, 0, none⟩) cr (some ⟨gb, 0, none⟩) cb rs ⟨S.T, objG S f n (i + 1), S.b⟩ by
              have h := s1
              rw [HS6.out] at h
              exact h)
            have HN2 := Lib.hid (show Below base w (w5.setCell ⟨p, 3, none⟩ (.slice (some ⟨g0, 0, none⟩) N N)) from HB4.out.setCell (p := ⟨p, 3, none⟩) HT4.out.low.1 _)
            clear s1 s2
            show wpAny _ _ _ _ 1 _ _ _
            refine wpAny_next (i := 20) (by kernel_rfl) rfl rfl (store_c28 rfl rfl rfl rfl HT4.out.c3 (HT4.out.blk.frozen 3) ?_)
            refine wpAny_end (by kernel_rfl) (calm_normal ?_) _
            generalize w5.setCell ⟨p, 3, none⟩ (.slice (some ⟨g0, 0, none⟩) N N) = w7 at *
            go_wp2_with fail
            go_roundg (gk - 1)
            case measure => omega
            case rel => exact ⟨i + 1, g0, by go_num, by omega, Lib.hid ⟨HN1.out, HN2.out⟩⟩
          · have i3 : ¬ ((S6.b i : Int) < (n : Int)) := by omega
            go_wp2_with fail
            go_roundg (gk - 1)
            case measure => omega
            case rel => exact ⟨i + 1, gg, by go_num, by omega, Lib.hid ⟨by
              have e : objG S f n (i + 1) = objG S f n i := by
                funext l
                show (if S.b i < n then _ else _) = _
                have h : ¬ S.b i < n := by have := hbn; rw [HS6.out] at this; exact this
                rw [if_neg h]
              rw [e]
              have h := HT.out
              rw [HS6.out] at h
              exact h, HB.out⟩⟩
        · obtain rfl : m = i := by omega
          go_wp2_with fail
          refine bodyPost_ret (v := .tuple #[]) (results_none Try.results67 _ _ _) rfl ?_
          exact ⟨gg, rfl, HI.out.1, HI.out.2⟩
end Go.Proofs.Ytpnklmgfdihjfaa
