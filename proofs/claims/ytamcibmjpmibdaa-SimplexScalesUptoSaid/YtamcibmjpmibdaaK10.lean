/-
Contract of maximize: a run of Bland's rule up to its end. Region 4 printed by gen/sx.py.
Contract of objective. Regions 4 and 10 printed by gen/sx.py.
Contracts of point and ray. Regions printed by gen/sx.py.
Appends onto own rows whose blocks hold no digits: all digits stay where they are.
law28.q and qs.
-/
import Derived.Test.YtamcibmjpmibdaaK9
import Derived.Test.YtamcibmjpmibdaaK8
import Derived.Deep.LoopGhost
import Derived.Test.YtamcibmjpmibdaaK7
namespace Go.Proofs.Ytamcibmjpmibdaa
open Go.RowKit
set_option linter.unusedVariables false
set_option linter.unusedSimpArgs false

/-- K steps of Bland's rule lead from S to S'. -/
inductive BRun (m R cols : Nat) (S : Tab) : Nat → Tab → Prop
  | nil : BRun m R cols S 0 S
  | snoc {K : Nat} {S' : Tab} {e r : Nat} : BRun m R cols S K S' → Bl m R cols S' e r → BRun m R cols S (K + 1) (S'.piv r e)
section
variable {m R cols : Nat} {S S' : Tab} {K : Nat}
theorem BRun.runs (hc : cols ≤ R) (hC : Canon m R S) (hF : Feas m R S) (h : BRun m R cols S K S') : ∃ (F : Nat → Tab) (E Q : Nat → Nat), Bruns m R cols F E Q K ∧ F 0 = S ∧ F K = S' := by
  induction h with
  | nil => exact ⟨fun _ => S, fun _ => 0, fun _ => 0, ⟨hc, hC, hF, fun k hk => absurd hk (by omega), fun k hk => absurd hk (by omega)⟩, rfl, rfl⟩
  | @snoc K S1 e r h1 h2 ih =>
    obtain ⟨F, E, Q, hB, h0, hK⟩ := ih
    refine ⟨fun k => if k ≤ K then F k else S1.piv r e, fun k => if k < K then E k else e, fun k => if k < K then Q k else r, ⟨hc, ?_, ?_, fun k hk => ?_, fun k hk => ?_⟩, ?_, ?_⟩
    · simp only [Nat.zero_le, if_true]; exact hB.canon
    · simp only [Nat.zero_le, if_true]; exact hB.feas
    · by_cases hkK : k < K
      · simp only [hkK, if_true, Nat.le_of_lt hkK]; exact hB.step k hkK
      · obtain rfl : k = K := by omega
        simp only [Nat.lt_irrefl, if_false, Nat.le_refl, if_true]; rw [hK]; exact h2
    · by_cases hkK : k < K
      · simp only [hkK, if_true, Nat.le_of_lt hkK, Nat.succ_le_of_lt hkK]; exact hB.next k hkK
      · obtain rfl : k = K := by omega
        simp only [Nat.lt_irrefl, if_false, Nat.le_refl, if_true]; rw [hK, if_neg (by omega)]
    · simp only [Nat.zero_le, if_true]; exact h0
    · simp only []; rw [if_neg (by omega)]
theorem BRun.good (hc : cols ≤ R) (hC : Canon m R S) (hF : Feas m R S) (h : BRun m R cols S K S') : Canon m R S' ∧ Feas m R S' ∧ Eqv m R S S' ∧ Eqv m R S' S ∧ K < R ^ m := by
  obtain ⟨F, E, Q, hB, rfl, rfl⟩ := h.runs hc hC hF
  obtain ⟨h1, h2⟩ := hB.all K (Nat.le_refl _)
  exact ⟨h1, h2, hB.eqv2 (Nat.zero_le _) (Nat.le_refl _), hB.eqv2 (Nat.le_refl _) (Nat.zero_le _), hB.short⟩
end
theorem sign_ge {x : Rat} : decide (x.num.sign ≥ 0) = decide (0 ≤ x) := by
  rcases sign_cases x with ⟨h1, h2⟩ | ⟨h1, h2⟩ | ⟨h1, h2⟩ <;> rw [h2]
  · rw [decide_eq_false (show ¬ 0 ≤ x by grind)]; rfl
  · rw [decide_eq_true (show 0 ≤ x by grind)]; rfl
  · rw [decide_eq_true (show 0 ≤ x by grind)]; rfl
/-- Where maximize ends: no reduced cost is negative, or a column without a row that leaves. -/
def MxEnd (m cols : Nat) (S : Tab) (z : Int) (ok : Bool) : Prop := (ok = true ∧ z = 0 ∧ ∀ j, j < cols → 0 ≤ S.G j) ∨ (ok = false ∧ ∃ j : Nat, z = (j : Int) ∧ j < cols ∧ S.G j < 0 ∧ (∀ l, l < j → 0 ≤ S.G l) ∧ ∀ i, i < m → S.T i j ≤ 0)
def MxRet (base p n m N b cr cb cols R : Nat) (Ar Ab : Option Addr) (S : Tab) (w : World) (e : Ending) (w' : World) : Prop := ∃ (K : Nat) (S' : Tab) (gg : Nat) (rs : Nat → Nat) (z : Int) (ok : Bool), e = .returned (.tuple #[.int .i64 z, .bool ok]) ∧ BRun m R cols S K S' ∧ MxEnd m cols S' z ok ∧ TabW base w' p n m N b gg Ar cr Ab cb rs S' ∧ Below base w w'
set_option maxRecDepth 100000 in
set_option maxHeartbeats 8000000 in
theorem maximize_any (base p n m N b gg cr cb cols : Nat) (Ar Ab : Option Addr) (rs : Nat → Nat) (S : Tab) (w : World) (hT : TabW base w p n m N b gg Ar cr Ab cb rs S) (R : Nat) (hR : R = n + m + 1) (hc : cols ≤ R) (hC : Canon m R S) (hFe : Feas m R S)
    (hF : ∀ S', Canon m R S' → Eqv m R S S' → Eqv m R S' S → (∀ i, i < m → ∀ j, j < N → Fit b (S'.T i j)) ∧ ∀ j, j < N → Fit b (S'.G j)) (hN2 : N ≤ 1000) (hb0 : b ≤ 1000) (hb1 : 1 ≤ b) :
    Calls Try.prog 37 #[.pointer (some ⟨p, 0, none⟩), .int .i64 cols] w (MxRet base p n m N b cr cb cols R Ar Ab S w) := by
  have HNn := Lib.hid hT.low.2.2
  have HT0 := Lib.hid hT; clear hT
  have HRR := Lib.hid hR; clear hR
  have HH := Lib.hid (And.intro hc (And.intro hC hFe)); clear hC hFe
  have HF := Lib.hid hF; clear hF
  have hcN : cols ≤ 1000 := by have := HNn.out; have := HRR.out; omega
  have hRN : R < N := by have := HNn.out; have := HRR.out; omega
  obtain ⟨M, hM⟩ : ∃ M, M = R ^ m := ⟨_, rfl⟩
  have HM := Lib.hid hM; clear hM
  go_enter Try.func37, Try.ntmps37
  go_wp2
  go_step3
  go_wp2
  go_step3
  go_wp2
  go_loopg [] M (fun k wr => ∃ (K : Nat) (S' : Tab) (gg' : Nat) (rs' : Nat → Nat), k + K = M ∧ Hid (BRun m R cols S K S' ∧ TabW base wr p n m N b gg' Ar cr Ab cb rs' S' ∧ Below base w wr))
  case atStart => exact ⟨0, S, gg, rs, rfl, Lib.hid ⟨.nil, HT0.out, Below.refl _ _⟩⟩
  case round =>
    obtain ⟨K, S1, gg, rs, hKM, HI⟩ := hrel
    obtain ⟨w1, hw1⟩ : ∃ w1, w1 = wr := ⟨_, rfl⟩
    subst hw1
    obtain ⟨G, hG⟩ : ∃ G, G = gk := ⟨_, rfl⟩
    subst hG
    go_wp2_with fail
    go_loopg [9] cols (fun g iv wr => ∃ j : Nat, iv = .int .i64 j ∧ j + g = cols ∧ Hid ((∀ l, l < j → 0 ≤ S1.G l) ∧ Below w1.heap.size w1 wr))
    case atStart => exact ⟨0, rfl, by omega, Lib.hid ⟨fun l hl => absurd hl (by omega), Below.refl _ _⟩⟩
    case round =>
      obtain ⟨j, rfl, hjc, HJ⟩ := hrel
      by_cases hj : j < cols
      · have i1 : ((j : Int) < (cols : Int)) := by omega
        have HT := Lib.hid (HI.out.2.1.new HJ.out.2)
        have hjN : j < N := by omega
        by_cases hp : 0 ≤ S1.G j
        · have hs : decide ((S1.G j).num.sign ≥ 0) = true := sign_ge.trans (decide_eq_true hp)
          go_upto_region 4 with (fail)
-- %R4a
          refine wp_region_seq (kss := [[], [(0, 12)], [(1, 13)], [(2, 14)], [], [(3, 15), (4, 16)], [(5, 17)], [(6, 18)], [(7, 19)]]) [(0, .pointer (some ⟨p, 0, none⟩)), (6, .int .i64 ((j : Int)))] [fun zz _ => zz = .pointer (some ⟨p, 0, none⟩), fun zz _ => zz = .pointer (some ⟨p, 0, none⟩), fun zz _ => zz = .pointer (some ⟨p, 3, none⟩), fun zz _ => zz = .slice (some (⟨gg, 0, none⟩)) N N, fun zz _ => zz = .int .i64 ((j : Int)), fun zz _ => zz = .pointer (some (Addr.add (⟨gg, 0, none⟩) (j * 3))), Rv (b) ((S1.G) j), fun zz _ => zz = .int .i64 (((S1.G) j).num.sign), fun zz _ => zz = .bool true] (by kernel_rfl) ⟨rfl, rfl, trivial⟩ ?_ ?_ ?_
          · exact ⟨fun _ _ _ h _ => h, fun _ _ _ h _ => h, fun _ _ _ h _ => h, fun _ _ _ h _ => h, fun _ _ _ h _ => h, fun _ _ _ h _ => h, fun _ _ _ h hb => h.new hb, fun _ _ _ h _ => h, fun _ _ _ h _ => h, trivial⟩
          · refine ⟨?_, ?_, ?_, ?_, ?_, ?_, ?_, ?_, ?_, trivial⟩
            · exact fun aa ww hb he hd => ob_plain rfl (gives_move _ rfl ⟨he.1, Below.refl _ _⟩)
            · exact fun aa ww hb he hd => ob_plain rfl (nil_c rfl hd.1)
            · exact fun aa ww hb he hd => ob_plain rfl (fld_tab rfl (by decide) hd.1)
            · exact fun aa ww hb he hd => ob_plain rfl (load_c28 rfl hd.1 (TabW.new HT.out hb).c3)
            · exact fun aa ww hb he hd => ob_plain rfl (gives_move _ rfl ⟨he.2.1, Below.refl _ _⟩)
            · exact fun aa ww hb he hd => ob_plain rfl (idx_rs (by omega) rfl hd.1 hd.2.1)
            · exact fun aa ww hb he hd => ob_plain rfl (load_rn rfl hd.1 (Rs.of_rb (TabW.new HT.out hb).goal) (by omega))
            · exact fun aa ww hb he hd => ob_plain rfl (gives_call1 _ _ _ rfl (by kernel_rfl) (sign_v (hd.1.rw)))
            · exact fun aa ww hb he hd => ob_plain rfl (gives_ge_int (((S1.G) j).num.sign) 0 .i64 _ _ _ _ rfl hd.1 rfl ⟨congrArg Value.bool (hs), Below.refl _ _⟩)
          intro vs w3 hb hR
          have e20 : vs 8 = .bool true := hR 8 (by decide)
          clear hR
          simp only [putsL, Nat.zero_add, Nat.reduceAdd, List.take_succ_cons, List.take_zero, Act.put, List.setIfInBounds_toArray, List.set_cons_zero, List.set_cons_succ]
          rw [e20]
          clear e20
-- %end R4a
          go_wp2_with fail
          go_roundg (gk - 1)
          case measure => omega
          case rel => exact ⟨j + 1, by go_num, by omega, Lib.hid ⟨fun l hl => by
            by_cases hlj : l = j
            · rw [hlj]; exact hp
            · exact HJ.out.1 l (by omega), bthen HJ.out.2 hb HJ.out.2.size⟩⟩
        · have hs : decide ((S1.G j).num.sign ≥ 0) = false := sign_ge.trans (decide_eq_false hp)
          have hneg : S1.G j < 0 := by grind
          go_upto_region 4 with (fail)
-- %R4b
          refine wp_region_seq (kss := [[], [(0, 12)], [(1, 13)], [(2, 14)], [], [(3, 15), (4, 16)], [(5, 17)], [(6, 18)], [(7, 19)]]) [(0, .pointer (some ⟨p, 0, none⟩)), (6, .int .i64 ((j : Int)))] [fun zz _ => zz = .pointer (some ⟨p, 0, none⟩), fun zz _ => zz = .pointer (some ⟨p, 0, none⟩), fun zz _ => zz = .pointer (some ⟨p, 3, none⟩), fun zz _ => zz = .slice (some (⟨gg, 0, none⟩)) N N, fun zz _ => zz = .int .i64 ((j : Int)), fun zz _ => zz = .pointer (some (Addr.add (⟨gg, 0, none⟩) (j * 3))), Rv (b) ((S1.G) j), fun zz _ => zz = .int .i64 (((S1.G) j).num.sign), fun zz _ => zz = .bool false] (by kernel_rfl) ⟨rfl, rfl, trivial⟩ ?_ ?_ ?_
          · exact ⟨fun _ _ _ h _ => h, fun _ _ _ h _ => h, fun _ _ _ h _ => h, fun _ _ _ h _ => h, fun _ _ _ h _ => h, fun _ _ _ h _ => h, fun _ _ _ h hb => h.new hb, fun _ _ _ h _ => h, fun _ _ _ h _ => h, trivial⟩
          · refine ⟨?_, ?_, ?_, ?_, ?_, ?_, ?_, ?_, ?_, trivial⟩
            · exact fun aa ww hb he hd => ob_plain rfl (gives_move _ rfl ⟨he.1, Below.refl _ _⟩)
            · exact fun aa ww hb he hd => ob_plain rfl (nil_c rfl hd.1)
            · exact fun aa ww hb he hd => ob_plain rfl (fld_tab rfl (by decide) hd.1)
            · exact fun aa ww hb he hd => ob_plain rfl (load_c28 rfl hd.1 (TabW.new HT.out hb).c3)
            · exact fun aa ww hb he hd => ob_plain rfl (gives_move _ rfl ⟨he.2.1, Below.refl _ _⟩)
            · exact fun aa ww hb he hd => ob_plain rfl (idx_rs (by omega) rfl hd.1 hd.2.1)
            · exact fun aa ww hb he hd => ob_plain rfl (load_rn rfl hd.1 (Rs.of_rb (TabW.new HT.out hb).goal) (by omega))
            · exact fun aa ww hb he hd => ob_plain rfl (gives_call1 _ _ _ rfl (by kernel_rfl) (sign_v (hd.1.rw)))
            · exact fun aa ww hb he hd => ob_plain rfl (gives_ge_int (((S1.G) j).num.sign) 0 .i64 _ _ _ _ rfl hd.1 rfl ⟨congrArg Value.bool (hs), Below.refl _ _⟩)
          intro vs w3 hb hR
          have e20 : vs 8 = .bool false := hR 8 (by decide)
          clear hR
          simp only [putsL, Nat.zero_add, Nat.reduceAdd, List.take_succ_cons, List.take_zero, Act.put, List.setIfInBounds_toArray, List.set_cons_zero, List.set_cons_succ]
          rw [e20]
          clear e20
-- %end R4b
          have HB3 := Lib.hid (show Below w1.heap.size w1 w3 from bthen HJ.out.2 hb HJ.out.2.size)
          have HT3 := Lib.hid (HI.out.2.1.new HB3.out)
          clear hb HT
          have HRun := Lib.hid HI.out.1
          have HGd := Lib.hid (HRun.out.good HH.out.1 HH.out.2.1 HH.out.2.2)
          have HJ1 := Lib.hid HJ.out.1
          have HB1 := Lib.hid (HI.out.2.2 : Below base w w1)
          have HTl := Lib.hid HI.out.2.1.low
          clear HI HJ
          go_upto_region 6 with (go_at_call 75; refine (leaving_any base p n m N b gg cr cb j Ar Ab rs S1 w3 HT3.out hjN hN2 hb0 hb1 R HRR.out).mono ?_; rintro e w4 ⟨z, rfl, hb, hz⟩)
          have HZ := Lib.hid hz; clear hz
          have HT4 := Lib.hid (HT3.out.new hb)
          have HB4 := Lib.hid (show Below w1.heap.size w1 w4 from bthen HB3.out hb HB3.out.size)
          clear hb
          by_cases hz0 : z < 0
          · have hall : z = -1 ∧ ∀ i, i < m → S1.T i j ≤ 0 := by
              rcases HZ.out with h | ⟨r, h1, h2⟩
              · exact h
              · omega
            go_wp2_with fail
            try rw [Exit.noGoto_ret]
            go_ret2
            exact ⟨K, S1, gg, rs, (j : Int), false, rfl, HRun.out, .inr ⟨rfl, j, rfl, hj, hneg, HJ1.out, hall.2⟩, HT4.out, bthen HB1.out HB4.out HTl.out.2.1⟩
          · obtain ⟨r, rfl, hLv⟩ : ∃ r : Nat, z = (r : Int) ∧ Lv R S1 j m r := by
              rcases HZ.out with ⟨h, _⟩ | h
              · omega
              · exact h
            have HL := Lib.hid hLv; clear hLv
            clear HZ
            have hrm := HL.out.lt
            obtain ⟨⟨gr, rfl, -, -⟩, gb, rfl, -, -⟩ := HT4.out.some_ (by omega)
            have HBl := Lib.hid (show Bl m R cols S1 j r from ⟨hj, hneg, HJ1.out, hrm, HL.out.pos, HL.out.least⟩)
            have hne : S1.T r j ≠ 0 := by have := HL.out.pos; grind
            have HN := Lib.hid ((HRun.out.snoc HBl.out).good HH.out.1 HH.out.2.1 HH.out.2.2)
            have HFt := Lib.hid (HF.out _ HN.out.1 HN.out.2.2.1 HN.out.2.2.2.1)
            go_wp2_with (go_at_call 73; refine (pivot_any base p n m N b gg gr cr gb cb r j rs S1 w4 HT4.out hrm hjN hN2 hb0 hb1 hne HFt.out.1 HFt.out.2).mono ?_; rintro e w5 ⟨gg', rs', rfl, hT5, hB5⟩)
            have hlt : K + 1 < M := by rw [HM.out]; exact HN.out.2.2.2.2
            go_roundg (G - 1)
            case measure => omega
            case rel => exact ⟨K + 1, S1.piv r j, gg', rs', by omega, Lib.hid ⟨HRun.out.snoc HBl.out, hT5, (bthen HB1.out HB4.out HTl.out.2.1).trans hB5⟩⟩
      · obtain rfl : j = cols := by omega
        go_wp2_with fail
        try rw [Exit.noGoto_ret]
        go_ret2
        exact ⟨K, S1, gg, rs, 0, true, rfl, HI.out.1, .inl ⟨rfl, rfl, HJ.out.1⟩, HI.out.2.1.new HJ.out.2, bthen HI.out.2.2 HJ.out.2 HI.out.2.1.low.2.1⟩
end Go.Proofs.Ytamcibmjpmibdaa
namespace Go.Proofs.Ytamcibmjpmibdaa
open Go.RowKit
set_option linter.unusedVariables false
set_option linter.unusedSimpArgs false

/-- A tableau whose reduced costs are not laid yet. -/
structure Tab0 (base : Nat) (w : World) (p n m N b : Nat) (A3 : Option Addr) (n3 d3 : Nat) (Ar : Option Addr) (cr : Nat) (Ab : Option Addr) (cb : Nat) (rs : Nat → Nat) (S : Tab) : Prop where
  blk : Blk w p 88 #[.int .i64 n, .int .i64 m, .slice Ar m cr, .slice A3 n3 d3, .slice Ab m cb]
  rows : w.ownsRow base 28 1 (.slice Ar m cr) m (rowsL rs N m)
  row : ∀ {i : Nat}, i < m → RB w (rs i) N (PN w b (S.T i))
  bas : w.ownsRow base 3 1 (.slice Ab m cb) m (basL S.b m)
  low : base ≤ p ∧ base ≤ w.heap.size ∧ N = n + m + 2
section
variable {base : Nat} {w w' : World} {p n m N b n3 d3 gg gr cr gb cb : Nat} {A3 Ar Ab : Option Addr} {rs : Nat → Nat} {S : Tab}
theorem TabW.to0 (h : TabW base w p n m N b gg Ar cr Ab cb rs S) : Tab0 base w p n m N b (some ⟨gg, 0, none⟩) N N Ar cr Ab cb rs S := ⟨h.blk, h.rows, h.row, h.bas, h.low⟩
theorem Tab0.new (h : Tab0 base w p n m N b A3 n3 d3 Ar cr Ab cb rs S) (hb : Below w.heap.size w w') : Tab0 base w' p n m N b A3 n3 d3 Ar cr Ab cb rs S :=
  ⟨h.blk.below hb h.blk.lt, own_below h.rows hb, fun hi => (h.row hi).newN hb, own_below h.bas hb, h.low.1, Nat.le_trans h.low.2.1 hb.size, h.low.2.2⟩
theorem Tab0.c3 (h : Tab0 base w p n m N b A3 n3 d3 Ar cr Ab cb rs S) : w.cell? ⟨p, 3, none⟩ = some (.slice A3 n3 d3) := by rw [h.blk.cell]; rfl
/-- The reduced costs are laid. -/
theorem Tab0.setGoal (h : Tab0 base w p n m N b A3 n3 d3 Ar cr Ab cb rs S) {g : Nat} {f : Nat → Rat} (hg : RB w g N (PN w b f)) :
    TabW base (w.setCell ⟨p, 3, none⟩ (.slice (some ⟨g, 0, none⟩) N N)) p n m N b g Ar cr Ab cb rs ⟨S.T, f, S.b⟩ ∧ w.grownBy (w.setCell ⟨p, 3, none⟩ (.slice (some ⟨g, 0, none⟩) N N)) (some p) := by
  have kp := KeepsN.setCell h.c3 (by intro x; simp) (.slice (some ⟨g, 0, none⟩) N N)
  have hrb : ∀ {g' : Nat} {f' : Nat → Rat}, RB w g' N (PN w b f') → RB (w.setCell ⟨p, 3, none⟩ (.slice (some ⟨g, 0, none⟩) N N)) g' N (PN (w.setCell ⟨p, 3, none⟩ (.slice (some ⟨g, 0, none⟩) N N)) b f') := by
    intro g' f' hh
    refine hh.far ?_ (fun j v _ hv => PN.keep hv kp)
    obtain ⟨cs, hb', _⟩ := hh
    exact Blk.ne_ hb' h.blk (by decide)
  have hb := h.blk.set_ 3 (.slice (some ⟨g, 0, none⟩) N N)
  exact ⟨⟨hb, own_far h.rows h.blk (by decide) 3 _, fun hi => hrb (h.row hi), own_far h.bas h.blk (by decide) 3 _, hrb hg, h.low.1, by rw [size_setCell]; exact h.low.2.1, h.low.2.2⟩, only_setCell (World.grownBy.refl w _) (.inl rfl) _⟩
/-- A write into the reduced costs, which no row shares. -/
theorem TabW.goalStore (h : TabW base w p n m N b gg Ar cr Ab cb rs S) (hne : ∀ i, i < m → rs i ≠ gg) {f : Nat → Rat} (kp : KeepsN w w') (hg : w.grownBy w' (some gg)) (hs : w'.heap.size = w.heap.size) (hr : RB w' gg N (PN w' b f)) : TabW base w' p n m N b gg Ar cr Ab cb rs ⟨S.T, f, S.b⟩ := by
  obtain ⟨cs, hb, -⟩ := h.goal
  refine ⟨h.blk.grown hg (fun e => ?_), own_grown_ne h.rows hb hg (by decide), fun {i} hi => (h.row hi).grown hg (hne i hi) (fun j v _ hv => PN.keep hv kp), own_grown_ne h.bas hb hg (by decide), hr, h.low.1, by rw [hs]; exact h.low.2.1, h.low.2.2⟩
  injection e with e
  exact Blk.ne_ h.blk hb (by decide) e
end
/-- The reduced costs of an objective, after the first i rows. -/
def objG (S : Tab) (f : Nat → Rat) (n : Nat) : Nat → Nat → Rat
  | 0, j => if j < n then - f j else 0
  | i + 1, j => if S.b i < n then objG S f n i j - (- f (S.b i)) * S.T i j else objG S f n i j
def obj1 (f : Nat → Rat) (k j : Nat) : Rat := if j < k then - f j else 0
theorem obj1_ne {f : Nat → Rat} {k i : Nat} (h : i ≠ k) : obj1 f (k + 1) i = obj1 f k i := by
  unfold obj1
  by_cases hi : i < k
  · rw [if_pos hi, if_pos (by omega)]
  · rw [if_neg hi, if_neg (by omega)]
theorem obj1_self (f : Nat → Rat) (k : Nat) : obj1 f (k + 1) k = - f k := if_pos (by omega)
def ObRet (base p n m N b cr cb : Nat) (Ar Ab : Option Addr) (rs : Nat → Nat) (S : Tab) (w : World) (e : Ending) (w' : World) : Prop := ∃ gg : Nat, e = .returned (.tuple #[]) ∧ TabW base w' p n m N b gg Ar cr Ab cb rs S ∧ Below base w w'
theorem gives_add_nat {o : Oper} {a : Act} {w : World} {t t2 : TypeId} {x y : Operand} (i j s : Nat) (ho : o.op = .binOp .add t x y t2) (hx : a.eval x = .int .i64 i) (hy : a.eval y = .int .i64 j) (hs : i + j = s) (hlt : s ≤ 3000) : gives Try.prog o a.eval w (fun v w' => v = .int .i64 (s : Int) ∧ Below w.heap.size w w') := by
  refine gives_val (.int .i64 (s : Int)) ?_ ⟨rfl, Below.refl _ _⟩
  unfold execOp
  rw [ho]
  simp only [hx, hy]
  go_simp
  subst hs
  rw [IntWalk.i64_in _ (by omega)]
  push_cast
  rfl
theorem gives_zeros {o : Oper} {a : Act} {w : World} {t : Tmp} {ts : Array TypeId} {N B : Nat} (ho : o.op = .call { callee := .value (.func 71), args := #[.tmp t], argTypes := ts }) (e : tv a t = .int .i64 (N : Int)) (hN : N ≤ 1000) (hB : B ≤ w.heap.size) :
    gives Try.prog o a.eval w (fun v w' => (∃ g : Nat, v = .slice (some ⟨g, 0, none⟩) N N ∧ B ≤ g ∧ RB w' g N (PN w' 2 (fun _ => 0))) ∧ Below w.heap.size w w') := by
  refine gives_call1 _ _ _ ho (by kernel_rfl) ?_
  rw [eval_tmp, e]
  exact (zeros_any N hN w).mono fun _ _ ⟨g, he, h1, h2, h3⟩ => ⟨_, he, ⟨g, rfl, Nat.le_trans hB h1, h2⟩, h3⟩
set_option maxRecDepth 100000 in
set_option maxHeartbeats 8000000 in
theorem objective_any (base p n m N b n3 d3 cr cb cc : Nat) (A3 Ar Ab AC : Option Addr) (rs : Nat → Nat) (S : Tab) (f : Nat → Rat) (w : World) (hT : Tab0 base w p n m N b A3 n3 d3 Ar cr Ab cb rs S)
    (hC : ∀ w', Below base w w' → Rs w' w'.heap.size AC n (PW w' b f)) (hF : ∀ i, i ≤ m → ∀ j, j < N → Fit b (objG S f n i j)) (hN2 : N ≤ 1000) (hb0 : b ≤ 1000) (hb2 : 2 ≤ b) :
    Calls Try.prog 36 #[.pointer (some ⟨p, 0, none⟩), .slice AC n cc] w (ObRet base p n m N b cr cb Ar Ab rs ⟨S.T, objG S f n m, S.b⟩ w) := by
  have HNn := Lib.hid hT.low.2.2
  have HT0 := Lib.hid hT; clear hT
  have HC := Lib.hid hC; clear hC
  have HF := Lib.hid hF; clear hF
  have hmm : m ≤ 1000 := by have := HNn.out; omega
  have hnm : n ≤ 1000 := by have := HNn.out; omega
  have hN0 : 0 < N := by have := HNn.out; omega
  have hnN : n ≤ N := by have := HNn.out; omega
  have pl := HT0.out.blk.lt
  have c3 := HT0.out.c3
  have hb1 : 1 ≤ b := by omega
  have HEN : n + m + 1 + 1 = N := by have := HNn.out; omega
  clear pl c3
  go_enter Try.func36, Try.ntmps36
  go_upto_region 0 with (fail)
-- %R0
  refine wp_region_joins (kss := [[], [], [(1, 8)], [(2, 9)], [(3, 10)], [(0, 7)], [(5, 12)]]) [(0, .pointer (some ⟨p, 0, none⟩))] [fun zz _ => zz = .pointer (some ⟨p, 0, none⟩), fun zz _ => zz = .pointer (some ⟨p, 0, none⟩), fun zz _ => zz = .int .i64 (((n + m + 1 : Nat) : Int)), fun zz _ => zz = .int .i64 (((N : Nat) : Int)), fun v w' => ∃ g : Nat, v = .slice (some ⟨g, 0, none⟩) N N ∧ w.heap.size ≤ g ∧ RB w' g N (PN w' 2 (fun _ => 0)), fun zz _ => zz = .pointer (some ⟨p, 0, none⟩), fun zz _ => zz = .pointer (some ⟨p, 3, none⟩)] 7 (by kernel_rfl) ⟨rfl, trivial⟩ [false, false, false, false, false, false, false] ?_ ?_ ?_
  · exact ⟨fun _ _ _ h _ => h, fun _ _ _ h _ => h, fun _ _ _ h _ => h, fun _ _ _ h _ => h, fun _ _ _ ⟨g, h1, h2, h3⟩ hb => ⟨g, h1, h2, h3.newN hb⟩, fun _ _ _ h _ => h, fun _ _ _ h _ => h, trivial⟩
  · refine ⟨?_, ?_, ?_, ?_, ?_, ?_, ?_, trivial⟩
    · exact fun aa ww hb he hd => ob_plain rfl (gives_move _ rfl ⟨he.1, Below.refl _ _⟩)
    · exact fun aa ww hb he hd => ob_plain rfl (gives_move _ rfl ⟨he.1, Below.refl _ _⟩)
    · exact fun aa ww hb he hd => ob_plain rfl (gives_call1 _ _ _ rfl (by kernel_rfl) (by rw [show aa.eval (.tmp 8) = .pointer (some ⟨p, 0, none⟩) from hd.1]; exact rv_one (right_any (Tab0.new HT0.out hb).blk (by omega) (by omega))))
    · exact fun aa ww hb he hd => ob_plain rfl (gives_add_nat (n + m + 1) 1 N rfl hd.1 rfl (by first | rfl | omega) (by omega))
    · exact fun aa ww hb he hd => ob_plain rfl (gives_zeros rfl (hd.1) hN2 hb.size)
    · exact fun aa ww hb he hd => ob_plain rfl (nil_c rfl hd.1)
    · exact fun aa ww hb he hd => ob_plain rfl (fld_tab rfl (by decide) hd.1)
  intro vs w2 hb hR
  have r11 := hR 4 (by decide)
  have e13 : vs 6 = .pointer (some ⟨p, 3, none⟩) := hR 6 (by decide)
  clear hR
  simp only [putsL, Nat.zero_add, Nat.reduceAdd, List.take_succ_cons, List.take_zero, Act.put, List.setIfInBounds_toArray, List.set_cons_zero, List.set_cons_succ]
  rw [e13]
  clear e13
-- %end R0
  obtain ⟨g2, e11, hg2, hz2⟩ := (show ∃ g : Nat, vs 4 = .slice (some ⟨g, 0, none⟩) N N ∧ w.heap.size ≤ g ∧ RB w2 g N (PN w2 2 (fun _ => 0)) from r11)
  rw [e11]
  clear r11 e11
  have HT2 := Lib.hid (HT0.out.new hb)
  have HB2 := Lib.hid (show Below base w w2 from (Below.refl _ _).trans (hb.mono HT0.out.low.2.1))
  have HG2 := Lib.hid (show ∀ i, i < m → rs i ≠ g2 from fun i hi => by have := (HT0.out.row hi).lt; omega)
  have HZ2 := Lib.hid (show RB w2 g2 N (PN w2 b (obj1 f 0)) from hz2.mono fun j v _ hv => by
    have h' : Rv 2 0 v w2 := hv
    show Rv b (obj1 f 0 j) v w2
    rw [show obj1 f 0 j = 0 from if_neg (by omega)]; exact h'.more hb2)
  have HG3 := Lib.hid (show base ≤ g2 from Nat.le_trans HT0.out.low.2.1 hg2)
  clear hg2 hz2 hb
  obtain ⟨s1, s2⟩ := HT2.out.setGoal HZ2.out
  have HN1 := Lib.hid s1
  have HN2 := Lib.hid (show Below base w (w2.setCell ⟨p, 3, none⟩ (.slice (some ⟨g2, 0, none⟩) N N)) from HB2.out.setCell (p := ⟨p, 3, none⟩) HT2.out.low.1 _)
  clear s1 s2
  show wpOps _ _ _ [7] _ _
  refine wpOps_next rfl rfl (store_c28 rfl rfl rfl rfl HT2.out.c3 (HT2.out.blk.frozen 3) ?_)
  show Exit.then _ _ _ _ _
  generalize w2.setCell ⟨p, 3, none⟩ (.slice (some ⟨g2, 0, none⟩) N N) = w3 at *
  go_wp2_with fail
  go_loopg [16] n (fun g iv wr => ∃ k : Nat, iv = .int .i64 k ∧ k + g = n ∧ Hid (TabW base wr p n m N b g2 Ar cr Ab cb rs ⟨S.T, obj1 f k, S.b⟩ ∧ Below base w wr))
  case atStart => exact ⟨0, rfl, by omega, Lib.hid ⟨HN1.out, HN2.out⟩⟩
  case round =>
    obtain ⟨k, rfl, hkn, HI⟩ := hrel
    have HT := Lib.hid HI.out.1
    have HB := Lib.hid HI.out.2
    clear HI HN1 HN2
    by_cases hk : k < n
    · obtain ⟨ad, -, -, -, -, -, -, -, rfl, -⟩ := (HC.out _ HB.out).at_ hk
      have i1 : ((k : Int) < (n : Int)) := by omega
      have hkN : k < N := by omega
      go_upto_region 4 with (fail)
-- %R4
      refine wp_region_join (kss := [[], [(0, 19)], [(1, 20)], [(2, 21)], [], [], [], [(5, 24), (6, 25)], [(7, 26)], [(8, 27)], [(3, 22), (4, 23)]]) [(0, .pointer (some ⟨p, 0, none⟩)), (4, .int .i64 ((k : Int))), (1, .slice (some ad) n cc)] [fun zz _ => zz = .pointer (some ⟨p, 0, none⟩), fun zz _ => zz = .pointer (some ⟨p, 0, none⟩), fun zz _ => zz = .pointer (some ⟨p, 3, none⟩), fun zz _ => zz = .slice (some (⟨g2, 0, none⟩)) N N, fun zz _ => zz = .int .i64 ((k : Int)), fun zz _ => zz = .slice (some ad) n cc, fun zz _ => zz = .int .i64 ((k : Int)), fun zz _ => zz = .pointer (some (Addr.add ad (k * 3))), Rw (b) (f k), Rv (b) (-(f k)), fun zz _ => zz = .pointer (some (Addr.add (⟨g2, 0, none⟩) (k * 3)))] 11 [] (by kernel_rfl) (by kernel_rfl) ⟨rfl, rfl, rfl, trivial⟩ [false, false, false, false, false, false, false, false, false, false, false] ?_ ?_ ?_ ?_
      · exact fun i hi => absurd hi (by simp)
      · exact ⟨fun _ _ _ h _ => h, fun _ _ _ h _ => h, fun _ _ _ h _ => h, fun _ _ _ h _ => h, fun _ _ _ h _ => h, fun _ _ _ h _ => h, fun _ _ _ h _ => h, fun _ _ _ h _ => h, fun _ _ _ h hb => h.new hb, fun _ _ _ h hb => h.new hb, fun _ _ _ h _ => h, trivial⟩
      · refine ⟨?_, ?_, ?_, ?_, ?_, ?_, ?_, ?_, ?_, ?_, ?_, trivial⟩
        · exact fun aa ww hb he hd => ob_plain rfl (gives_move _ rfl ⟨he.1, Below.refl _ _⟩)
        · exact fun aa ww hb he hd => ob_plain rfl (nil_c rfl hd.1)
        · exact fun aa ww hb he hd => ob_plain rfl (fld_tab rfl (by decide) hd.1)
        · exact fun aa ww hb he hd => ob_plain rfl (load_c28 rfl hd.1 (TabW.new HT.out hb).c3)
        · exact fun aa ww hb he hd => ob_plain rfl (gives_move _ rfl ⟨he.2.1, Below.refl _ _⟩)
        · exact fun aa ww hb he hd => ob_plain rfl (gives_move _ rfl ⟨he.2.2.1, Below.refl _ _⟩)
        · exact fun aa ww hb he hd => ob_plain rfl (gives_move _ rfl ⟨he.2.1, Below.refl _ _⟩)
        · exact fun aa ww hb he hd => ob_plain rfl (idx_rs (by omega) rfl hd.1 hd.2.1)
        · exact fun aa ww hb he hd => ob_plain rfl (load_rw rfl hd.1 (HC.out _ (HB.out.trans (hb.mono HT.out.low.2.1))) (by omega))
        · exact fun aa ww hb he hd => ob_plain rfl (gives_call1 _ _ _ rfl (by kernel_rfl) (neg_v (hd.1) (by omega)))
        · exact fun aa ww hb he hd => ob_plain rfl (idx_rs (by omega) rfl hd.1 hd.2.1)
      intro vs w4 hb hR _
      have e29 : vs 10 = .pointer (some (Addr.add (⟨g2, 0, none⟩) (k * 3))) := hR 10 (by decide)
      have r28 : Rv (b) (-(f k)) (vs 9) w4 := hR 9 (by decide)
      clear hR
      simp only [putsL, Nat.zero_add, Nat.reduceAdd, List.take_succ_cons, List.take_zero, Act.put, List.setIfInBounds_toArray, List.set_cons_zero, List.set_cons_succ]
      rw [e29]
      clear e29
      show wpAny _ _ _ _ 1 _ _ _
      refine wpAny_next (i := 11) (by kernel_rfl) rfl rfl (store_row (v := vs 9) (g := g2) (j := k) (b := b) (x := - f k) rfl rfl rfl rfl (HT.out.new hb).goal hkN r28.rw ?_)
-- %end R4
      intro wa kp hg hsz hR
      have HTa := Lib.hid ((HT.out.new hb).goalStore HG2.out kp hg hsz (hR (PN wa b (obj1 f (k + 1))) (fun i u _ hne h => by
        have h' : Rv b (obj1 f k i) u w4 := h
        show Rv b (obj1 f (k + 1) i) u wa
        rw [obj1_ne hne]; exact h'.keepN kp) (by
        show Rv b (obj1 f (k + 1) k) _ wa
        rw [obj1_self]; exact r28.keepN kp)))
      have hb4 : Below base w w4 := HB.out.trans (hb.mono HT.out.low.2.1)
      have HBa := Lib.hid (show Below base w wa from hb4.grown hg (HT.out.new hb).low.2.1 (fun x hx => by cases hx; exact HG3.out))
      clear hb hb4 kp hg hsz hR
      refine wpAny_end (by kernel_rfl) (calm_normal ?_) _
      go_wp2_with fail
      go_roundg (gk - 1)
      case measure => omega
      case rel => exact ⟨k + 1, by go_num, by omega, Lib.hid ⟨HTa.out, HBa.out⟩⟩
    · obtain rfl : n = k := by omega
      clear HEN
      have HG0 := Lib.hid (show TabW base wr p n m N b g2 Ar cr Ab cb rs ⟨S.T, objG S f n 0, S.b⟩ from HT.out)
      have c4 := HG0.out.c4; have pl := HG0.out.blk.lt
      go_wp2_with fail
      clear c4 pl HT HG2 HG3
      have HBB := Lib.hid HB.out; clear HB
      obtain ⟨w6, hw6⟩ : ∃ w6, w6 = wr := ⟨_, rfl⟩
      subst hw6
      go_loopg [36] m (fun g iv wr => ∃ (i gg : Nat), iv = .int .i64 i ∧ i + g = m ∧ Hid (TabW base wr p n m N b gg Ar cr Ab cb rs ⟨S.T, objG S f n i, S.b⟩ ∧ Below base w wr))
      case atStart => exact ⟨0, g2, rfl, by omega, Lib.hid ⟨HG0.out, HBB.out⟩⟩
      case round =>
        obtain ⟨i, gg, rfl, him, HI⟩ := hrel
        clear HG0 HBB
        by_cases hi : i < m
        · obtain ⟨⟨gr, rfl, -, -⟩, gb, rfl, -, -⟩ := HI.out.1.some_ (by omega)
          have HB := Lib.hid HI.out.2
          obtain ⟨S6, hS6⟩ : ∃ S6 : Tab, S6 = ⟨S.T, objG S f n i, S.b⟩ := ⟨_, rfl⟩
          have HT := Lib.hid HI.out.1
          rw [← hS6] at HT
          have HS6 := Lib.hid hS6; clear hS6 HI
          have bc := HT.out.bcell hi
          rw [addr_zero] at bc
          have c0 := HT.out.c0; have pl := HT.out.blk.lt
          have i1 : (0 : Int) ≤ (i : Int) := by omega
          have i2 : (i : Int) < (m : Int) := by omega
          by_cases hbn : S6.b i < n
          · have i3 : ((S6.b i : Int) < (n : Int)) := by omega
            obtain ⟨ad, -, -, -, -, -, -, -, rfl, -⟩ := (HC.out _ HB.out).at_ hbn
            go_upto_region 10 with (fail)
            clear bc c0 pl
-- %R10
            refine wp_region_join (kss := [[], [], [(1, 48)], [(2, 49)], [(3, 50)], [], [(5, 52)], [(6, 53)], [(7, 54)], [], [(8, 55), (9, 56)], [(10, 57)], [], [], [(12, 59), (13, 60)], [(14, 61)], [(15, 62)], [(4, 51), (11, 58), (16, 63)], [(0, 47)], [(18, 65)]]) [(0, .pointer (some ⟨p, 0, none⟩)), (5, .int .i64 ((i : Int))), (1, .slice (some ad) n cc), (6, .int .i64 ((S6.b i : Int)))] [fun zz _ => zz = .pointer (some ⟨p, 0, none⟩), fun zz _ => zz = .pointer (some ⟨p, 0, none⟩), fun zz _ => zz = .pointer (some ⟨p, 0, none⟩), fun zz _ => zz = .pointer (some ⟨p, 3, none⟩), fun zz _ => zz = .slice (some (⟨gg, 0, none⟩)) N N, fun zz _ => zz = .pointer (some ⟨p, 0, none⟩), fun zz _ => zz = .pointer (some ⟨p, 0, none⟩), fun zz _ => zz = .pointer (some ⟨p, 2, none⟩), fun zz _ => zz = .slice (some ⟨gr, 0, none⟩) m cr, fun zz _ => zz = .int .i64 ((i : Int)), fun zz _ => zz = .pointer (some (Addr.add ⟨gr, 0, none⟩ i)), fun zz _ => zz = .slice (some (⟨rs i, 0, none⟩)) N N, fun zz _ => zz = .slice (some ad) n cc, fun zz _ => zz = .int .i64 ((S6.b i : Int)), fun zz _ => zz = .pointer (some (Addr.add ad ((S6.b i) * 3))), Rw (b) (f (S6.b i)), Rv (b) (-(f (S6.b i))), fun v w' => ∃ g0 : Nat, v = .slice (some ⟨g0, 0, none⟩) N N ∧ RB w' g0 N (PN w' (b + (b + b) + 1) (fun l => S6.G l - (-f (S6.b i)) * S6.T i l)), fun zz _ => zz = .pointer (some ⟨p, 0, none⟩), fun zz _ => zz = .pointer (some ⟨p, 3, none⟩)] 20 [] (by kernel_rfl) (by kernel_rfl) ⟨rfl, rfl, rfl, rfl, trivial⟩ [false, false, false, false, false, false, false, false, false, false, false, false, false, false, false, false, false, false, false, false] ?_ ?_ ?_ ?_
            · exact fun i hi => absurd hi (by simp)
            · exact ⟨fun _ _ _ h _ => h, fun _ _ _ h _ => h, fun _ _ _ h _ => h, fun _ _ _ h _ => h, fun _ _ _ h _ => h, fun _ _ _ h _ => h, fun _ _ _ h _ => h, fun _ _ _ h _ => h, fun _ _ _ h _ => h, fun _ _ _ h _ => h, fun _ _ _ h _ => h, fun _ _ _ h _ => h, fun _ _ _ h _ => h, fun _ _ _ h _ => h, fun _ _ _ h _ => h, fun _ _ _ h hb => h.new hb, fun _ _ _ h hb => h.new hb, fun _ _ _ ⟨g0, h1, h2⟩ hb => ⟨g0, h1, h2.newN hb⟩, fun _ _ _ h _ => h, fun _ _ _ h _ => h, trivial⟩
            · refine ⟨?_, ?_, ?_, ?_, ?_, ?_, ?_, ?_, ?_, ?_, ?_, ?_, ?_, ?_, ?_, ?_, ?_, ?_, ?_, ?_, trivial⟩
              · exact fun aa ww hb he hd => ob_plain rfl (gives_move _ rfl ⟨he.1, Below.refl _ _⟩)
              · exact fun aa ww hb he hd => ob_plain rfl (gives_move _ rfl ⟨he.1, Below.refl _ _⟩)
              · exact fun aa ww hb he hd => ob_plain rfl (nil_c rfl hd.1)
              · exact fun aa ww hb he hd => ob_plain rfl (fld_tab rfl (by decide) hd.1)
              · exact fun aa ww hb he hd => ob_plain rfl (load_c28 rfl hd.1 (TabW.new HT.out hb).c3)
              · exact fun aa ww hb he hd => ob_plain rfl (gives_move _ rfl ⟨he.1, Below.refl _ _⟩)
              · exact fun aa ww hb he hd => ob_plain rfl (nil_c rfl hd.1)
              · exact fun aa ww hb he hd => ob_plain rfl (fld_tab rfl (by decide) hd.1)
              · exact fun aa ww hb he hd => ob_plain rfl (load_c29 rfl hd.1 (TabW.new HT.out hb).c2)
              · exact fun aa ww hb he hd => ob_plain rfl (gives_move _ rfl ⟨he.2.1, Below.refl _ _⟩)
              · exact fun aa ww hb he hd => ob_plain rfl (idx_rws (by omega) rfl hd.1 hd.2.1)
              · exact fun aa ww hb he hd => ob_plain rfl (load_c28 rfl hd.1 ((TabW.new HT.out hb).rcell (by omega)))
              · exact fun aa ww hb he hd => ob_plain rfl (gives_move _ rfl ⟨he.2.2.1, Below.refl _ _⟩)
              · exact fun aa ww hb he hd => ob_plain rfl (gives_move _ rfl ⟨he.2.2.2.1, Below.refl _ _⟩)
              · exact fun aa ww hb he hd => ob_plain rfl (idx_rs (by omega) rfl hd.1 hd.2.1)
              · exact fun aa ww hb he hd => ob_plain rfl (load_rw rfl hd.1 (HC.out _ (HB.out.trans (hb.mono HT.out.low.2.1))) (by omega))
              · exact fun aa ww hb he hd => ob_plain rfl (gives_call1 _ _ _ rfl (by kernel_rfl) (neg_v (hd.1) (by omega)))
              · exact fun aa ww hb he hd => ob_plain rfl (gives_comb (b := b) (bq := b) (f := S6.G) (g := S6.T i) (q := -f (S6.b i)) rfl hd.1 (Rs.of_rb (TabW.new HT.out hb).goal) hd.2.1 (Rs.of_rb ((TabW.new HT.out hb).row (by omega))) hd.2.2.1.rw (by omega) (by omega) (by omega) hb1 (fun _ => rfl))
              · exact fun aa ww hb he hd => ob_plain rfl (nil_c rfl hd.1)
              · exact fun aa ww hb he hd => ob_plain rfl (fld_tab rfl (by decide) hd.1)
            intro vs w5 hb hR _
            have e66 : vs 19 = .pointer (some ⟨p, 3, none⟩) := hR 19 (by decide)
            have r64 := hR 17 (by decide)
            clear hR
            simp only [putsL, Nat.zero_add, Nat.reduceAdd, List.take_succ_cons, List.take_zero, Act.put, List.setIfInBounds_toArray, List.set_cons_zero, List.set_cons_succ]
            rw [e66]
            clear e66
-- %end R10
            obtain ⟨g0, e64, hr0⟩ := (show ∃ g0 : Nat, vs 17 = .slice (some ⟨g0, 0, none⟩) N N ∧ RB w5 g0 N (PN w5 (b + (b + b) + 1) (fun l => S6.G l - (-f (S6.b i)) * S6.T i l)) from r64)
            rw [e64]
            clear r64 e64
            have HT4 := Lib.hid (HT.out.new hb)
            have HB4 := Lib.hid (show Below base w w5 from HB.out.trans (hb.mono HT.out.low.2.1))
            have HR0 := Lib.hid (hr0.mono (Q := PN w5 b (objG S f n (i + 1))) (fun l u hl h => by
              have h' : Rv (b + (b + b) + 1) (S6.G l - (-f (S6.b i)) * S6.T i l) u w5 := h
              have e1 : S6.G l - (-f (S6.b i)) * S6.T i l = objG S f n (i + 1) l := by
                show _ = if S.b i < n then _ else _
                have hh := hbn
                rw [HS6.out] at hh ⊢
                rw [if_pos hh]
              rw [e1] at h'
              have hfit := HF.out (i + 1) (by omega) l hl
              exact h'.fit hfit.1 hfit.2 hb1))
            clear hr0 hb
            obtain ⟨s1, s2⟩ := HT4.out.setGoal HR0.out
            have HN1 := Lib.hid (show TabW base (w5.setCell ⟨p, 3, none⟩ (.slice (some ⟨g0, 0, none⟩) N N)) p n m N b g0 (some ⟨gr, 0, none⟩) cr (some ⟨gb, 0, none⟩) cb rs ⟨S.T, objG S f n (i + 1), S.b⟩ by
              have h := s1
              rw [HS6.out] at h
              exact h)
            have HN2 := Lib.hid (show Below base w (w5.setCell ⟨p, 3, none⟩ (.slice (some ⟨g0, 0, none⟩) N N)) from HB4.out.setCell (p := ⟨p, 3, none⟩) HT4.out.low.1 _)
            clear s1 s2
            show wpAny _ _ _ _ 1 _ _ _
            refine wpAny_next (i := 20) (by kernel_rfl) rfl rfl (store_c28 rfl rfl rfl rfl HT4.out.c3 (HT4.out.blk.frozen 3) ?_)
            refine wpAny_end (by kernel_rfl) (calm_normal ?_) _
            generalize w5.setCell ⟨p, 3, none⟩ (.slice (some ⟨g0, 0, none⟩) N N) = w7 at *
            go_wp2_with fail
            go_roundg (gk - 1)
            case measure => omega
            case rel => exact ⟨i + 1, g0, by go_num, by omega, Lib.hid ⟨HN1.out, HN2.out⟩⟩
          · have i3 : ¬ ((S6.b i : Int) < (n : Int)) := by omega
            go_wp2_with fail
            go_roundg (gk - 1)
            case measure => omega
            case rel => exact ⟨i + 1, gg, by go_num, by omega, Lib.hid ⟨by
              have e : objG S f n (i + 1) = objG S f n i := by
                funext l
                show (if S.b i < n then _ else _) = _
                have h : ¬ S.b i < n := by have := hbn; rw [HS6.out] at this; exact this
                rw [if_neg h]
              rw [e]
              have h := HT.out
              rw [HS6.out] at h
              exact h, HB.out⟩⟩
        · obtain rfl : m = i := by omega
          go_wp2_with fail
          refine bodyPost_ret (v := .tuple #[]) (results_none Try.results36 _ _ _) rfl ?_
          exact ⟨gg, rfl, HI.out.1, HI.out.2⟩
end Go.Proofs.Ytamcibmjpmibdaa
namespace Go.Proofs.Ytamcibmjpmibdaa
open Go.RowKit
set_option linter.unusedVariables false
set_option linter.unusedSimpArgs false

/-- A row of n normal Rats in a block of its own is answered. -/
def RowX (n b : Nat) (x : Nat → Rat) (w : World) (e : Ending) (w' : World) : Prop := ∃ g : Nat, e = .returned (.slice (some ⟨g, 0, none⟩) n n) ∧ w.heap.size ≤ g ∧ RB w' g n (PN w' b x) ∧ Below w.heap.size w w'
/-- The values h i of the basic columns among the first n, over what x holds. -/
def basX (S : Tab) (h : Nat → Rat) (x : Nat → Rat) (n : Nat) : Nat → Nat → Rat
  | 0, j => x j
  | i + 1, j => if S.b i < n ∧ j = S.b i then h i else basX S h x n i j
theorem basX_ne {S : Tab} {h x : Nat → Rat} {n i j : Nat} (hne : j ≠ S.b i) : basX S h x n (i + 1) j = basX S h x n i j := if_neg (fun hh => hne hh.2)
theorem basX_self {S : Tab} {h x : Nat → Rat} {n i : Nat} (hb : S.b i < n) : basX S h x n (i + 1) (S.b i) = h i := if_pos ⟨hb, rfl⟩
theorem basX_skip {S : Tab} {h x : Nat → Rat} {n i : Nat} (hb : ¬ S.b i < n) : basX S h x n (i + 1) = basX S h x n i := by funext j; exact if_neg (fun hh => hb hh.1)
set_option maxRecDepth 100000 in
set_option maxHeartbeats 8000000 in
theorem point_any (base p n m N b gg cr cb : Nat) (Ar Ab : Option Addr) (rs : Nat → Nat) (S : Tab) (w : World) (hT : TabW base w p n m N b gg Ar cr Ab cb rs S) (hN2 : N ≤ 1000) (hb0 : b ≤ 1000) (hb2 : 2 ≤ b) :
    Calls Try.prog 38 #[.pointer (some ⟨p, 0, none⟩)] w (RowX n b (basX S (fun i => S.T i (n + m + 1)) (fun _ => 0) n m) w) := by
  have HNn := Lib.hid hT.low.2.2
  have HT0 := Lib.hid hT; clear hT
  have hmm : m ≤ 1000 := by have := HNn.out; omega
  have hnm : n ≤ 1000 := by have := HNn.out; omega
  have hRN : n + m + 1 < N := by have := HNn.out; omega
  have c0 := HT0.out.c0; have pl := HT0.out.blk.lt
  go_enter Try.func38, Try.ntmps38
  go_upto_region 2 with (go_at_call 71; refine (zeros_any n hnm w).mono ?_; rintro e w1 ⟨g2, rfl, hg2, hz2, hb1⟩)
  clear c0 pl
  have HB1 := Lib.hid hb1
  have HG := Lib.hid hg2
  have HZ := Lib.hid (show RB w1 g2 n (PN w1 b (basX S (fun i => S.T i (n + m + 1)) (fun _ => 0) n 0)) from hz2.mono fun j v _ hv => Rv.more hv hb2)
  clear hz2 hg2 hb1
  have HT := Lib.hid (HT0.out.new HB1.out)
  have c4 := HT.out.c4; have pl := HT.out.blk.lt
  go_wp2_with fail
  clear c4 pl HT
  go_loopg [16] m (fun g iv wr => ∃ i : Nat, iv = .int .i64 i ∧ i + g = m ∧ Hid (RB wr g2 n (PN wr b (basX S (fun i => S.T i (n + m + 1)) (fun _ => 0) n i)) ∧ Below w.heap.size w wr))
  case atStart => exact ⟨0, rfl, by omega, Lib.hid ⟨HZ.out, HB1.out⟩⟩
  case round =>
    obtain ⟨i, rfl, him, HI⟩ := hrel
    clear HZ HB1
    by_cases hi : i < m
    · obtain ⟨⟨gr, rfl, -, -⟩, gb, rfl, -, -⟩ := HT0.out.some_ (by omega)
      have HR := Lib.hid HI.out.1
      have HB := Lib.hid HI.out.2
      clear HI
      have HT := Lib.hid (HT0.out.new HB.out)
      have bc := HT.out.bcell hi
      rw [addr_zero] at bc
      have c0 := HT.out.c0; have pl := HT.out.blk.lt
      have i1 : (0 : Int) ≤ (i : Int) := by omega
      have i2 : (i : Int) < (m : Int) := by omega
      by_cases hbn : S.b i < n
      · have i3 : ((S.b i : Int) < (n : Int)) := by omega
        go_upto_region 6 with (fail)
        clear bc c0 pl
-- %P6
        refine wp_region_join (kss := [[], [], [], [(2, 29)], [(3, 30)], [(4, 31)], [], [(5, 32), (6, 33)], [(7, 34)], [], [(9, 36)], [(8, 35), (10, 37)], [(11, 38)], [(0, 27), (1, 28)]]) [(3, .slice (some (⟨g2, 0, none⟩)) n n), (5, .int .i64 ((S.b i : Int))), (0, .pointer (some ⟨p, 0, none⟩)), (4, .int .i64 ((i : Int)))] [fun zz _ => zz = .slice (some (⟨g2, 0, none⟩)) n n, fun zz _ => zz = .int .i64 ((S.b i : Int)), fun zz _ => zz = .pointer (some ⟨p, 0, none⟩), fun zz _ => zz = .pointer (some ⟨p, 0, none⟩), fun zz _ => zz = .pointer (some ⟨p, 2, none⟩), fun zz _ => zz = .slice (some ⟨gr, 0, none⟩) m cr, fun zz _ => zz = .int .i64 ((i : Int)), fun zz _ => zz = .pointer (some (Addr.add ⟨gr, 0, none⟩ i)), fun zz _ => zz = .slice (some (⟨rs i, 0, none⟩)) N N, fun zz _ => zz = .pointer (some ⟨p, 0, none⟩), fun zz _ => zz = .int .i64 (((n + m + 1 : Nat) : Int)), fun zz _ => zz = .pointer (some (Addr.add (⟨rs i, 0, none⟩) ((n + m + 1) * 3))), Rv (b) ((S.T i) (n + m + 1)), fun zz _ => zz = .pointer (some (Addr.add (⟨g2, 0, none⟩) ((S.b i) * 3)))] 14 [] (by kernel_rfl) (by kernel_rfl) ⟨rfl, rfl, rfl, rfl, trivial⟩ [false, false, false, false, false, false, false, false, false, false, false, false, false, false] ?_ ?_ ?_ ?_
        · exact fun i hi => absurd hi (by simp)
        · exact ⟨fun _ _ _ h _ => h, fun _ _ _ h _ => h, fun _ _ _ h _ => h, fun _ _ _ h _ => h, fun _ _ _ h _ => h, fun _ _ _ h _ => h, fun _ _ _ h _ => h, fun _ _ _ h _ => h, fun _ _ _ h _ => h, fun _ _ _ h _ => h, fun _ _ _ h _ => h, fun _ _ _ h _ => h, fun _ _ _ h hb => h.new hb, fun _ _ _ h _ => h, trivial⟩
        · refine ⟨?_, ?_, ?_, ?_, ?_, ?_, ?_, ?_, ?_, ?_, ?_, ?_, ?_, ?_, trivial⟩
          · exact fun aa ww hb he hd => ob_plain rfl (gives_move _ rfl ⟨he.1, Below.refl _ _⟩)
          · exact fun aa ww hb he hd => ob_plain rfl (gives_move _ rfl ⟨he.2.1, Below.refl _ _⟩)
          · exact fun aa ww hb he hd => ob_plain rfl (gives_move _ rfl ⟨he.2.2.1, Below.refl _ _⟩)
          · exact fun aa ww hb he hd => ob_plain rfl (nil_c rfl hd.1)
          · exact fun aa ww hb he hd => ob_plain rfl (fld_tab rfl (by decide) hd.1)
          · exact fun aa ww hb he hd => ob_plain rfl (load_c29 rfl hd.1 (TabW.new HT.out hb).c2)
          · exact fun aa ww hb he hd => ob_plain rfl (gives_move _ rfl ⟨he.2.2.2.1, Below.refl _ _⟩)
          · exact fun aa ww hb he hd => ob_plain rfl (idx_rws (by omega) rfl hd.1 hd.2.1)
          · exact fun aa ww hb he hd => ob_plain rfl (load_c28 rfl hd.1 ((TabW.new HT.out hb).rcell (by omega)))
          · exact fun aa ww hb he hd => ob_plain rfl (gives_move _ rfl ⟨he.2.2.1, Below.refl _ _⟩)
          · exact fun aa ww hb he hd => ob_plain rfl (gives_call1 _ _ _ rfl (by kernel_rfl) (by rw [show aa.eval (.tmp 36) = .pointer (some ⟨p, 0, none⟩) from hd.1]; exact rv_one (right_any (TabW.new HT.out hb).blk (by omega) (by omega))))
          · exact fun aa ww hb he hd => ob_plain rfl (idx_rs (by omega) rfl hd.1 hd.2.1)
          · exact fun aa ww hb he hd => ob_plain rfl (load_rn rfl hd.1 (Rs.of_rb ((TabW.new HT.out hb).row (by omega))) (by omega))
          · exact fun aa ww hb he hd => ob_plain rfl (idx_rs (by omega) rfl hd.1 hd.2.1)
        intro vs w4 hb hR _
        have e40 : vs 13 = .pointer (some (Addr.add (⟨g2, 0, none⟩) ((S.b i) * 3))) := hR 13 (by decide)
        have r39 : Rv (b) ((S.T i) (n + m + 1)) (vs 12) w4 := hR 12 (by decide)
        clear hR
        simp only [putsL, Nat.zero_add, Nat.reduceAdd, List.take_succ_cons, List.take_zero, Act.put, List.setIfInBounds_toArray, List.set_cons_zero, List.set_cons_succ]
        rw [e40]
        clear e40
        show wpAny _ _ _ _ 1 _ _ _
        refine wpAny_next (i := 14) (by kernel_rfl) rfl rfl (store_row (v := vs 12) (g := g2) (j := S.b i) (b := b) (x := S.T i (n + m + 1)) rfl rfl rfl rfl (HR.out.newN hb) hbn r39.rw ?_)
-- %end P6
        intro wa kp hg hsz hRa
        have HRa := Lib.hid (hRa (PN wa b (basX S (fun i => S.T i (n + m + 1)) (fun _ => 0) n (i + 1))) (fun l u _ hne h => by
          have h' : Rv b (basX S (fun i => S.T i (n + m + 1)) (fun _ => 0) n i l) u w4 := h
          show Rv b (basX S (fun i => S.T i (n + m + 1)) (fun _ => 0) n (i + 1) l) u wa
          rw [basX_ne hne]; exact h'.keepN kp) (by
          show Rv b (basX S (fun i => S.T i (n + m + 1)) (fun _ => 0) n (i + 1) (S.b i)) _ wa
          rw [basX_self hbn]; exact r39.keepN kp))
        have HBa := Lib.hid (show Below w.heap.size w wa from (bthen HB.out hb HB.out.size).grown hg (bthen HB.out hb HB.out.size).size (fun x hx => by cases hx; exact HG.out))
        clear hb kp hg hsz hRa
        refine wpAny_end (by kernel_rfl) (calm_normal ?_) _
        go_wp2_with fail
        go_roundg (gk - 1)
        case measure => omega
        case rel => exact ⟨i + 1, by go_num, by omega, Lib.hid ⟨HRa.out, HBa.out⟩⟩
      · have i3 : ¬ ((S.b i : Int) < (n : Int)) := by omega
        go_wp2_with fail
        go_roundg (gk - 1)
        case measure => omega
        case rel => exact ⟨i + 1, by go_num, by omega, Lib.hid ⟨by rw [basX_skip hbn]; exact HR.out, HB.out⟩⟩
    · obtain rfl : m = i := by omega
      go_wp2_with fail
      go_ret
      exact ⟨g2, rfl, HG.out, HI.out.1, HI.out.2⟩
set_option maxRecDepth 100000 in
set_option maxHeartbeats 8000000 in
theorem ray_any (base p n m N b gg cr cb k : Nat) (Ar Ab : Option Addr) (rs : Nat → Nat) (S : Tab) (w : World) (hT : TabW base w p n m N b gg Ar cr Ab cb rs S) (hk : k < N) (hN2 : N ≤ 1000) (hb0 : b ≤ 1000) (hb2 : 2 ≤ b) :
    Calls Try.prog 39 #[.pointer (some ⟨p, 0, none⟩), .int .i64 k] w (RowX n b (basX S (fun i => -(S.T i k)) (fun j => if j = k then 1 else 0) n m) w) := by
  have HNn := Lib.hid hT.low.2.2
  have HT0 := Lib.hid hT; clear hT
  have hmm : m ≤ 1000 := by have := HNn.out; omega
  have hnm : n ≤ 1000 := by have := HNn.out; omega
  have c0 := HT0.out.c0; have pl := HT0.out.blk.lt
  go_enter Try.func39, Try.ntmps39
  go_upto_region 2 with (go_at_call 71; refine (zeros_any n hnm w).mono ?_; rintro e w1 ⟨g2, rfl, hg2, hz2, hb1⟩)
  clear c0 pl
  have HB1 := Lib.hid hb1
  have HG := Lib.hid hg2
  have HZ := Lib.hid hz2
  clear hz2 hg2 hb1
  have HT := Lib.hid (HT0.out.new HB1.out)
  have c0 := HT.out.c0; have pl := HT.out.blk.lt
  by_cases hkn : k < n
  · have k1 : ((k : Int) < (n : Int)) := by omega
    go_upto_region 3 with (fail)
    clear c0 pl
-- %Q3
    refine wp_region_joins (kss := [[], [], [], [(0, 19), (1, 20)]]) [(5, .slice (some (⟨g2, 0, none⟩)) n n), (1, .int .i64 ((k : Int)))] [fun zz _ => zz = .slice (some (⟨g2, 0, none⟩)) n n, fun zz _ => zz = .int .i64 ((k : Int)), Rv (2) (((1 : Int) : Rat)), fun zz _ => zz = .pointer (some (Addr.add (⟨g2, 0, none⟩) (k * 3)))] 4 (by kernel_rfl) ⟨rfl, rfl, trivial⟩ [false, false, false, false] ?_ ?_ ?_
    · exact ⟨fun _ _ _ h _ => h, fun _ _ _ h _ => h, fun _ _ _ h hb => h.new hb, fun _ _ _ h _ => h, trivial⟩
    · refine ⟨?_, ?_, ?_, ?_, trivial⟩
      · exact fun aa ww hb he hd => ob_plain rfl (gives_move _ rfl ⟨he.1, Below.refl _ _⟩)
      · exact fun aa ww hb he hd => ob_plain rfl (gives_move _ rfl ⟨he.2.1, Below.refl _ _⟩)
      · exact fun aa ww hb he hd => ob_plain rfl (gives_call1 _ _ _ rfl (by kernel_rfl) (int_w (1) (by omega) (by omega) _ rfl _))
      · exact fun aa ww hb he hd => ob_plain rfl (idx_rs (by omega) rfl hd.1 hd.2.1)
    intro vs w4 hb hR
    have e22 : vs 3 = .pointer (some (Addr.add (⟨g2, 0, none⟩) (k * 3))) := hR 3 (by decide)
    have r21 : Rv (2) (((1 : Int) : Rat)) (vs 2) w4 := hR 2 (by decide)
    clear hR
    simp only [putsL, Nat.zero_add, Nat.reduceAdd, List.take_succ_cons, List.take_zero, Act.put, List.setIfInBounds_toArray, List.set_cons_zero, List.set_cons_succ]
    rw [e22]
    clear e22
    have r21w : Rw b 1 (vs 2) w4 := by
      have h := r21
      rw [show ((1 : Int) : Rat) = 1 from by simp] at h
      exact (Rv.more h hb2).rw
    show wpOps _ _ _ [4] _ _
    refine wpOps_next rfl rfl (store_row (v := vs 2) (g := g2) (j := k) (b := b) (x := 1) rfl rfl rfl rfl (HZ.out.newN hb) hkn r21w ?_)
-- %end Q3
    intro wb kp hg hsz hRa
    have HL := Lib.hid (And.intro (hRa (PN wb b (basX S (fun i => -(S.T i k)) (fun j => if j = k then 1 else 0) n 0)) (fun l u _ hne h => by
      have h' : Rv 2 0 u w4 := h
      show Rv b (if l = k then 1 else 0) u wb
      rw [if_neg hne]; exact (h'.keepN kp).more hb2) (by
      show Rv b (if k = k then 1 else 0) _ wb
      rw [if_pos rfl]
      have h := r21
      rw [show ((1 : Int) : Rat) = 1 from by simp] at h
      exact (Rv.more h hb2).keepN kp)) (show Below w.heap.size w wb from (bthen HB1.out hb HB1.out.size).grown hg (bthen HB1.out hb HB1.out.size).size (fun x hx => by cases hx; exact HG.out)))
    clear hb kp hg hsz hRa HT HZ HB1 r21 r21w
    show Exit.then _ _ _ _ _
    rw [addr_zero]
    have HT := Lib.hid (HT0.out.new HL.out.2)
    have c4 := HT.out.c4; have pl := HT.out.blk.lt
    go_wp2_with fail
    clear c4 pl HT
    go_loopg [28] m (fun g iv wr => ∃ i : Nat, iv = .int .i64 i ∧ i + g = m ∧ Hid (RB wr g2 n (PN wr b (basX S (fun i => -(S.T i k)) (fun j => if j = k then 1 else 0) n i)) ∧ Below w.heap.size w wr))
    case atStart => exact ⟨0, rfl, by omega, HL⟩
    case round =>
      obtain ⟨i, rfl, him, HI⟩ := hrel
      clear HL
      by_cases hi : i < m
      · obtain ⟨⟨gr, rfl, -, -⟩, gb, rfl, -, -⟩ := HT0.out.some_ (by omega)
        have HR := Lib.hid HI.out.1
        have HB := Lib.hid HI.out.2
        clear HI
        have HT := Lib.hid (HT0.out.new HB.out)
        have bc := HT.out.bcell hi
        rw [addr_zero] at bc
        have c0 := HT.out.c0; have pl := HT.out.blk.lt
        have i1 : (0 : Int) ≤ (i : Int) := by omega
        have i2 : (i : Int) < (m : Int) := by omega
        by_cases hbn : S.b i < n
        · have i3 : ((S.b i : Int) < (n : Int)) := by omega
          go_upto_region 8 with (fail)
          clear bc c0 pl
-- %Q8a
          refine wp_region_joins (kss := [[], [], [], [(2, 41)], [(3, 42)], [(4, 43)], [], [(5, 44), (6, 45)], [(7, 46)], [], [(8, 47), (9, 48)], [(10, 49)], [(11, 50)], [(0, 39), (1, 40)]]) [(5, .slice (some (⟨g2, 0, none⟩)) n n), (7, .int .i64 ((S.b i : Int))), (0, .pointer (some ⟨p, 0, none⟩)), (6, .int .i64 ((i : Int))), (1, .int .i64 ((k : Int)))] [fun zz _ => zz = .slice (some (⟨g2, 0, none⟩)) n n, fun zz _ => zz = .int .i64 ((S.b i : Int)), fun zz _ => zz = .pointer (some ⟨p, 0, none⟩), fun zz _ => zz = .pointer (some ⟨p, 0, none⟩), fun zz _ => zz = .pointer (some ⟨p, 2, none⟩), fun zz _ => zz = .slice (some ⟨gr, 0, none⟩) m cr, fun zz _ => zz = .int .i64 ((i : Int)), fun zz _ => zz = .pointer (some (Addr.add ⟨gr, 0, none⟩ i)), fun zz _ => zz = .slice (some (⟨rs i, 0, none⟩)) N N, fun zz _ => zz = .int .i64 ((k : Int)), fun zz _ => zz = .pointer (some (Addr.add (⟨rs i, 0, none⟩) (k * 3))), Rv (b) ((S.T i) k), Rv (b) (-((S.T i) k)), fun zz _ => zz = .pointer (some (Addr.add (⟨g2, 0, none⟩) ((S.b i) * 3)))] 14 (by kernel_rfl) ⟨rfl, rfl, rfl, rfl, rfl, trivial⟩ [false, false, false, false, false, false, false, false, false, false, false, false, false, false] ?_ ?_ ?_
          · exact ⟨fun _ _ _ h _ => h, fun _ _ _ h _ => h, fun _ _ _ h _ => h, fun _ _ _ h _ => h, fun _ _ _ h _ => h, fun _ _ _ h _ => h, fun _ _ _ h _ => h, fun _ _ _ h _ => h, fun _ _ _ h _ => h, fun _ _ _ h _ => h, fun _ _ _ h _ => h, fun _ _ _ h hb => h.new hb, fun _ _ _ h hb => h.new hb, fun _ _ _ h _ => h, trivial⟩
          · refine ⟨?_, ?_, ?_, ?_, ?_, ?_, ?_, ?_, ?_, ?_, ?_, ?_, ?_, ?_, trivial⟩
            · exact fun aa ww hb he hd => ob_plain rfl (gives_move _ rfl ⟨he.1, Below.refl _ _⟩)
            · exact fun aa ww hb he hd => ob_plain rfl (gives_move _ rfl ⟨he.2.1, Below.refl _ _⟩)
            · exact fun aa ww hb he hd => ob_plain rfl (gives_move _ rfl ⟨he.2.2.1, Below.refl _ _⟩)
            · exact fun aa ww hb he hd => ob_plain rfl (nil_c rfl hd.1)
            · exact fun aa ww hb he hd => ob_plain rfl (fld_tab rfl (by decide) hd.1)
            · exact fun aa ww hb he hd => ob_plain rfl (load_c29 rfl hd.1 (TabW.new HT.out hb).c2)
            · exact fun aa ww hb he hd => ob_plain rfl (gives_move _ rfl ⟨he.2.2.2.1, Below.refl _ _⟩)
            · exact fun aa ww hb he hd => ob_plain rfl (idx_rws (by omega) rfl hd.1 hd.2.1)
            · exact fun aa ww hb he hd => ob_plain rfl (load_c28 rfl hd.1 ((TabW.new HT.out hb).rcell (by omega)))
            · exact fun aa ww hb he hd => ob_plain rfl (gives_move _ rfl ⟨he.2.2.2.2.1, Below.refl _ _⟩)
            · exact fun aa ww hb he hd => ob_plain rfl (idx_rs (by omega) rfl hd.1 hd.2.1)
            · exact fun aa ww hb he hd => ob_plain rfl (load_rn rfl hd.1 (Rs.of_rb ((TabW.new HT.out hb).row (by omega))) (by omega))
            · exact fun aa ww hb he hd => ob_plain rfl (gives_call1 _ _ _ rfl (by kernel_rfl) (neg_v (hd.1.rw) (by omega)))
            · exact fun aa ww hb he hd => ob_plain rfl (idx_rs (by omega) rfl hd.1 hd.2.1)
          intro vs w4 hb hR
          have e52 : vs 13 = .pointer (some (Addr.add (⟨g2, 0, none⟩) ((S.b i) * 3))) := hR 13 (by decide)
          have r51 : Rv (b) (-((S.T i) k)) (vs 12) w4 := hR 12 (by decide)
          clear hR
          simp only [putsL, Nat.zero_add, Nat.reduceAdd, List.take_succ_cons, List.take_zero, Act.put, List.setIfInBounds_toArray, List.set_cons_zero, List.set_cons_succ]
          rw [e52]
          clear e52
          show wpOps _ _ _ [14] _ _
          refine wpOps_next rfl rfl (store_row (v := vs 12) (g := g2) (j := S.b i) (b := b) (x := -(S.T i k)) rfl rfl rfl rfl (HR.out.newN hb) hbn r51.rw ?_)
-- %end Q8a
          intro wa kp hg hsz hRa
          have HRa := Lib.hid (hRa (PN wa b (basX S (fun i => -(S.T i k)) (fun j => if j = k then 1 else 0) n (i + 1))) (fun l u _ hne h => by
            have h' : Rv b (basX S (fun i => -(S.T i k)) (fun j => if j = k then 1 else 0) n i l) u w4 := h
            show Rv b (basX S (fun i => -(S.T i k)) (fun j => if j = k then 1 else 0) n (i + 1) l) u wa
            rw [basX_ne hne]; exact h'.keepN kp) (by
            show Rv b (basX S (fun i => -(S.T i k)) (fun j => if j = k then 1 else 0) n (i + 1) (S.b i)) _ wa
            rw [basX_self hbn]; exact r51.keepN kp))
          have HBa := Lib.hid (show Below w.heap.size w wa from (bthen HB.out hb HB.out.size).grown hg (bthen HB.out hb HB.out.size).size (fun x hx => by cases hx; exact HG.out))
          clear hb kp hg hsz hRa
          unfold wpOps
          go_wp2_with fail
          go_roundg (gk - 1)
          case measure => omega
          case rel => exact ⟨i + 1, by go_num, by omega, Lib.hid ⟨HRa.out, HBa.out⟩⟩
        · have i3 : ¬ ((S.b i : Int) < (n : Int)) := by omega
          go_wp2_with fail
          go_roundg (gk - 1)
          case measure => omega
          case rel => exact ⟨i + 1, by go_num, by omega, Lib.hid ⟨by rw [basX_skip hbn]; exact HR.out, HB.out⟩⟩
      · obtain rfl : m = i := by omega
        go_wp2_with fail
        go_ret
        exact ⟨g2, rfl, HG.out, HI.out.1, HI.out.2⟩
  · have k1 : ¬ ((k : Int) < (n : Int)) := by omega
    have HL := Lib.hid (And.intro (show RB w1 g2 n (PN w1 b (basX S (fun i => -(S.T i k)) (fun j => if j = k then 1 else 0) n 0)) from HZ.out.mono fun j v hj hv => by
      show Rv b (if j = k then 1 else 0) v w1
      rw [if_neg (by omega)]; exact Rv.more hv hb2) HB1.out)
    clear HZ HB1
    go_upto_region 4 with (fail)
    clear c0 pl HT
    have HT := Lib.hid (HT0.out.new HL.out.2)
    have c4 := HT.out.c4; have pl := HT.out.blk.lt
    go_wp2_with fail
    clear c4 pl HT
    go_loopg [28] m (fun g iv wr => ∃ i : Nat, iv = .int .i64 i ∧ i + g = m ∧ Hid (RB wr g2 n (PN wr b (basX S (fun i => -(S.T i k)) (fun j => if j = k then 1 else 0) n i)) ∧ Below w.heap.size w wr))
    case atStart => exact ⟨0, rfl, by omega, HL⟩
    case round =>
      obtain ⟨i, rfl, him, HI⟩ := hrel
      clear HL
      by_cases hi : i < m
      · obtain ⟨⟨gr, rfl, -, -⟩, gb, rfl, -, -⟩ := HT0.out.some_ (by omega)
        have HR := Lib.hid HI.out.1
        have HB := Lib.hid HI.out.2
        clear HI
        have HT := Lib.hid (HT0.out.new HB.out)
        have bc := HT.out.bcell hi
        rw [addr_zero] at bc
        have c0 := HT.out.c0; have pl := HT.out.blk.lt
        have i1 : (0 : Int) ≤ (i : Int) := by omega
        have i2 : (i : Int) < (m : Int) := by omega
        by_cases hbn : S.b i < n
        · have i3 : ((S.b i : Int) < (n : Int)) := by omega
          go_upto_region 8 with (fail)
          clear bc c0 pl
-- %Q8b
          refine wp_region_joins (kss := [[], [], [], [(2, 41)], [(3, 42)], [(4, 43)], [], [(5, 44), (6, 45)], [(7, 46)], [], [(8, 47), (9, 48)], [(10, 49)], [(11, 50)], [(0, 39), (1, 40)]]) [(5, .slice (some (⟨g2, 0, none⟩)) n n), (7, .int .i64 ((S.b i : Int))), (0, .pointer (some ⟨p, 0, none⟩)), (6, .int .i64 ((i : Int))), (1, .int .i64 ((k : Int)))] [fun zz _ => zz = .slice (some (⟨g2, 0, none⟩)) n n, fun zz _ => zz = .int .i64 ((S.b i : Int)), fun zz _ => zz = .pointer (some ⟨p, 0, none⟩), fun zz _ => zz = .pointer (some ⟨p, 0, none⟩), fun zz _ => zz = .pointer (some ⟨p, 2, none⟩), fun zz _ => zz = .slice (some ⟨gr, 0, none⟩) m cr, fun zz _ => zz = .int .i64 ((i : Int)), fun zz _ => zz = .pointer (some (Addr.add ⟨gr, 0, none⟩ i)), fun zz _ => zz = .slice (some (⟨rs i, 0, none⟩)) N N, fun zz _ => zz = .int .i64 ((k : Int)), fun zz _ => zz = .pointer (some (Addr.add (⟨rs i, 0, none⟩) (k * 3))), Rv (b) ((S.T i) k), Rv (b) (-((S.T i) k)), fun zz _ => zz = .pointer (some (Addr.add (⟨g2, 0, none⟩) ((S.b i) * 3)))] 14 (by kernel_rfl) ⟨rfl, rfl, rfl, rfl, rfl, trivial⟩ [false, false, false, false, false, false, false, false, false, false, false, false, false, false] ?_ ?_ ?_
          · exact ⟨fun _ _ _ h _ => h, fun _ _ _ h _ => h, fun _ _ _ h _ => h, fun _ _ _ h _ => h, fun _ _ _ h _ => h, fun _ _ _ h _ => h, fun _ _ _ h _ => h, fun _ _ _ h _ => h, fun _ _ _ h _ => h, fun _ _ _ h _ => h, fun _ _ _ h _ => h, fun _ _ _ h hb => h.new hb, fun _ _ _ h hb => h.new hb, fun _ _ _ h _ => h, trivial⟩
          · refine ⟨?_, ?_, ?_, ?_, ?_, ?_, ?_, ?_, ?_, ?_, ?_, ?_, ?_, ?_, trivial⟩
            · exact fun aa ww hb he hd => ob_plain rfl (gives_move _ rfl ⟨he.1, Below.refl _ _⟩)
            · exact fun aa ww hb he hd => ob_plain rfl (gives_move _ rfl ⟨he.2.1, Below.refl _ _⟩)
            · exact fun aa ww hb he hd => ob_plain rfl (gives_move _ rfl ⟨he.2.2.1, Below.refl _ _⟩)
            · exact fun aa ww hb he hd => ob_plain rfl (nil_c rfl hd.1)
            · exact fun aa ww hb he hd => ob_plain rfl (fld_tab rfl (by decide) hd.1)
            · exact fun aa ww hb he hd => ob_plain rfl (load_c29 rfl hd.1 (TabW.new HT.out hb).c2)
            · exact fun aa ww hb he hd => ob_plain rfl (gives_move _ rfl ⟨he.2.2.2.1, Below.refl _ _⟩)
            · exact fun aa ww hb he hd => ob_plain rfl (idx_rws (by omega) rfl hd.1 hd.2.1)
            · exact fun aa ww hb he hd => ob_plain rfl (load_c28 rfl hd.1 ((TabW.new HT.out hb).rcell (by omega)))
            · exact fun aa ww hb he hd => ob_plain rfl (gives_move _ rfl ⟨he.2.2.2.2.1, Below.refl _ _⟩)
            · exact fun aa ww hb he hd => ob_plain rfl (idx_rs (by omega) rfl hd.1 hd.2.1)
            · exact fun aa ww hb he hd => ob_plain rfl (load_rn rfl hd.1 (Rs.of_rb ((TabW.new HT.out hb).row (by omega))) (by omega))
            · exact fun aa ww hb he hd => ob_plain rfl (gives_call1 _ _ _ rfl (by kernel_rfl) (neg_v (hd.1.rw) (by omega)))
            · exact fun aa ww hb he hd => ob_plain rfl (idx_rs (by omega) rfl hd.1 hd.2.1)
          intro vs w4 hb hR
          have e52 : vs 13 = .pointer (some (Addr.add (⟨g2, 0, none⟩) ((S.b i) * 3))) := hR 13 (by decide)
          have r51 : Rv (b) (-((S.T i) k)) (vs 12) w4 := hR 12 (by decide)
          clear hR
          simp only [putsL, Nat.zero_add, Nat.reduceAdd, List.take_succ_cons, List.take_zero, Act.put, List.setIfInBounds_toArray, List.set_cons_zero, List.set_cons_succ]
          rw [e52]
          clear e52
          show wpOps _ _ _ [14] _ _
          refine wpOps_next rfl rfl (store_row (v := vs 12) (g := g2) (j := S.b i) (b := b) (x := -(S.T i k)) rfl rfl rfl rfl (HR.out.newN hb) hbn r51.rw ?_)
-- %end Q8b
          intro wa kp hg hsz hRa
          have HRa := Lib.hid (hRa (PN wa b (basX S (fun i => -(S.T i k)) (fun j => if j = k then 1 else 0) n (i + 1))) (fun l u _ hne h => by
            have h' : Rv b (basX S (fun i => -(S.T i k)) (fun j => if j = k then 1 else 0) n i l) u w4 := h
            show Rv b (basX S (fun i => -(S.T i k)) (fun j => if j = k then 1 else 0) n (i + 1) l) u wa
            rw [basX_ne hne]; exact h'.keepN kp) (by
            show Rv b (basX S (fun i => -(S.T i k)) (fun j => if j = k then 1 else 0) n (i + 1) (S.b i)) _ wa
            rw [basX_self hbn]; exact r51.keepN kp))
          have HBa := Lib.hid (show Below w.heap.size w wa from (bthen HB.out hb HB.out.size).grown hg (bthen HB.out hb HB.out.size).size (fun x hx => by cases hx; exact HG.out))
          clear hb kp hg hsz hRa
          unfold wpOps
          go_wp2_with fail
          go_roundg (gk - 1)
          case measure => omega
          case rel => exact ⟨i + 1, by go_num, by omega, Lib.hid ⟨HRa.out, HBa.out⟩⟩
        · have i3 : ¬ ((S.b i : Int) < (n : Int)) := by omega
          go_wp2_with fail
          go_roundg (gk - 1)
          case measure => omega
          case rel => exact ⟨i + 1, by go_num, by omega, Lib.hid ⟨by rw [basX_skip hbn]; exact HR.out, HB.out⟩⟩
      · obtain rfl : m = i := by omega
        go_wp2_with fail
        go_ret
        exact ⟨g2, rfl, HG.out, HI.out.1, HI.out.2⟩
end Go.Proofs.Ytamcibmjpmibdaa
namespace Go.Proofs.Ytamcibmjpmibdaa
open Go.RowKit
set_option linter.unusedVariables false
set_option linter.unusedSimpArgs false

/-- No digit lies in the block of a row. -/
def Clean (w : World) (v : Value) : Prop := ∀ g, v.ownBlock = some g → ∀ (i : Nat) (x : Int), w.cell? ⟨g, i, none⟩ ≠ some (.int .u32 x)
def ClV (u : Value) : Prop := ∀ x : Int, u ≠ .int .u32 x
theorem clean_row {w : World} {g n c : Nat} {cur : Array Value} {e : TypeId} (hg : w.heap[g]? = some (.cells cur e (0, 0))) (h : ∀ u ∈ cur.toList, ClV u) : Clean w (.slice (some ⟨g, 0, none⟩) n c) := by
  intro g' hg' i x hx
  simp only [Value.ownBlock, Option.some.injEq] at hg'
  subst hg'
  rw [cell_of_row w g i cur e (0, 0) hg] at hx
  exact h _ (by simpa using Array.mem_of_getElem? hx) x rfl
theorem Clean.cur {w : World} {g n c : Nat} {cur : Array Value} {e : TypeId} (hc : Clean w (.slice (some ⟨g, 0, none⟩) n c)) (hg : w.heap[g]? = some (.cells cur e (0, 0))) : ∀ u ∈ cur.toList, ClV u := by
  intro u hu x hx
  obtain ⟨i, hi⟩ := List.mem_iff_getElem?.1 hu
  refine hc g rfl i x ?_
  rw [cell_of_row w g i cur e (0, 0) hg, ← hx]
  simpa using hi
theorem zero_mem {z : Array Value} {n : Nat} {u : Value} (h : u ∈ (Builtin.zeroCells z n).toList) : u ∈ z.toList := by
  simp only [Builtin.zeroCells, Array.mem_toList_iff, Array.mem_map, Array.mem_range] at h ⊢
  obtain ⟨a, h1, h2⟩ := h
  have hz : 0 < z.size := by
    rcases Nat.eq_zero_or_pos z.size with h0 | h0
    · rw [h0] at h1; omega
    · exact h0
  have hl := Nat.mod_lt a hz
  rw [getElem!_pos z _ hl] at h2
  rw [← h2]
  exact Array.getElem_mem hl
section
variable {P : Program} (w : World)
theorem run_append_clean (base : Nat) (t ty e : TypeId) (i : TypeInfo) (z : Value) (size bytes : Nat) (ht : P.underlying t = some (.slice e)) (hi : P.info? e = some i) (hz : i.zero = some z)
    (hsize : i.size = size) (hby : i.bytes = bytes) (hzs : z.cells.size = size) (hsz : 0 < size)
    (v : Value) (n : Nat) (xs : List Value) (hown : w.ownsRow base e size v n xs) (hcl : Clean w v) (hzc : ∀ u ∈ z.cells.toList, ClV u)
    (B : Nat) (A : Option Addr) (m c : Nat) (news : List Value) (hr : Reads w B size A m news) (h1 : ∀ u ∈ news, u.oneCell' = true) (hnc : ∀ u ∈ news, ClV u) (hxc : ∀ u ∈ xs, ClV u)
    (h63 : n + m ≤ maxLen) (hbytes : (n + m) * bytes ≤ 140737488355328) (hbase : base ≤ w.heap.size) :
    ∃ v' w', (Builtin.append_ #[t, t] ty #[v, .slice A m c]).run P w = .ok v' w' ∧ w'.ownsRow base e size v' (n + m) (xs ++ news) ∧ w.grownBy w' v.ownBlock ∧
      (v'.ownBlock = v.ownBlock ∨ v'.ownBlock = some w.heap.size) ∧ Clean w' v' ∧ KeepsN w w' := by
  obtain ⟨v', w', hrun, h2, h3, h4⟩ := run_append_any (P := P) w base t ty e i z size bytes ht hi hz hsize hby hzs hsz v n xs hown B A m c news hr h1 h63 hbytes hbase
  refine ⟨v', w', hrun, h2, h3, h4, ?_, h3.size, fun p x hp => ?_⟩
  · rcases A with _ | ad
    · have hm : m = 0 := by
        rcases Nat.eq_zero_or_pos m with h0 | h0
        · exact h0
        · obtain ⟨ad, h, _⟩ := hr.2 h0
          cases h
      subst hm
      rw [run_append_of_nil w base t ty e i size ht hi v n xs hown c] at hrun
      injection hrun with e1 e2
      subst e1; subst e2
      exact hcl
    · rcases Nat.eq_zero_or_pos m with h0 | h0
      · subst h0
        have hn : news = [] := List.eq_nil_of_length_eq_zero (by simpa using hr.1)
        subst hn
        subst hsize
        rcases hown.2 with ⟨rfl, rfl⟩ | ⟨g, cap, cur, rfl, hbg, hg, hnc', hcm, hcs, htake⟩
        · have hr0 : (Builtin.append_ #[t, t] ty #[.slice none 0 0, .slice (some ad) 0 c]).run P w = .ok (.slice none 0 0) w := by
            simp [Builtin.append_, run_underlying ht, sizeOf, typeInfo, hi, Builtin.lenOf, Builtin.firstCells, loadCells, loadCellsFrom]
          rw [hr0] at hrun
          injection hrun with e1 e2
          subst e1; subst e2
          exact hcl
        · have hr0 := run_append_room (P := P) w t ty e i ht hi g n cap cur hg ad 0 c [] (by simp) (by simp) (by simp) (by omega) (by simp; rw [hcs]; exact Nat.mul_le_mul_right _ hnc')
          rw [hr0] at hrun
          injection hrun with e1 e2
          subst e1; subst e2
          refine clean_row (setRow_heap w g cur _ e _ hg) ?_
          intro u hu
          have hc := hcl.cur hg
          simp at hu
          exact hc u (by simpa using hu)
      · obtain ⟨ad', h, _, hcells⟩ := hr.2 h0
        injection h with h
        subst h
        subst hsize
        have hl := hr.1
        rcases hown.2 with ⟨rfl, rfl⟩ | ⟨g, cap, cur, rfl, hbg, hg, hnc', hcm, hcs, htake⟩
        · have hr0 := run_append_nil (P := P) w t ty e i z ht hi hz ad m c news hl hcells h0 (by simp only [maxLen] at h63; omega) (by rw [hby]; have hb := hbytes; simp only [Nat.zero_add] at hb; omega)
          rw [hr0] at hrun
          injection hrun with e1 e2
          subst e1; subst e2
          refine clean_row (heap_alloc_new w.drew _) ?_
          intro u hu
          simp only [Array.toList_append, List.mem_append] at hu
          rcases hu with hu | hu
          · exact hnc u hu
          · exact hzc u (zero_mem hu)
        · by_cases hroom : n + m ≤ cap
          · have hfit : n * i.size + news.length ≤ cur.size := by rw [hl, hcs, ← Nat.add_mul]; exact Nat.mul_le_mul_right _ hroom
            have hr0 := run_append_room (P := P) w t ty e i ht hi g n cap cur hg ad m c news hl hcells h1 hroom hfit
            rw [hr0] at hrun
            injection hrun with e1 e2
            subst e1; subst e2
            refine clean_row (setRow_heap w g cur _ e _ hg) ?_
            intro u hu
            have hc := hcl.cur hg
            simp only [List.mem_append] at hu
            rcases hu with (hu | hu) | hu
            · exact hc u (List.mem_of_mem_take hu)
            · exact hnc u hu
            · exact hc u (List.mem_of_mem_drop hu)
          · have holds : ∀ j u, xs[j]? = some u → w.cell? ((⟨g, 0, none⟩ : Addr).add j) = some u := hown.cells (g := g) rfl
            have hr0 := run_append_grow (P := P) w t ty e i z ht hi hz ⟨g, 0, none⟩ n cap xs hown.1 holds ad m c news hl hcells (by omega) (by simp only [maxLen] at h63; omega) (growslice_fits (by omega) (by rw [hby]; exact hbytes))
            rw [hr0] at hrun
            injection hrun with e1 e2
            subst e1; subst e2
            refine clean_row (heap_alloc_new w.drew _) ?_
            intro u hu
            simp only [Array.toList_append, List.mem_append] at hu
            rcases hu with (hu | hu) | hu
            · exact hxc u hu
            · exact hnc u hu
            · exact hzc u (zero_mem hu)
  · by_cases hb : some p.block = v.ownBlock
    · exfalso
      have hlt := World.block_lt_of_cell? w p hp
      rcases hown.2 with ⟨rfl, rfl⟩ | ⟨g, cap, cur, rfl, hbg, hg, hnc', hcm, hcs, htake⟩
      · cases hb
      · simp only [Value.ownBlock, Option.some.injEq] at hb
        have hc := hcl.cur hg
        unfold World.cell? at hp
        rw [hb, hg] at hp
        simp only at hp
        split at hp
        · cases hp
        · exact hc (.int .u32 x) (by simpa using Array.mem_of_getElem? (by simpa using hp)) x rfl
    · exact h3.cell hp hb
/-- An own row without digits. -/
structure OwnC (w : World) (base : Nat) (e : TypeId) (size : Nat) (v : Value) (n : Nat) (xs : List Value) : Prop where
  own : w.ownsRow base e size v n xs
  cl : Clean w v
end
theorem OwnC.nil (w : World) (base : Nat) (e : TypeId) (size : Nat) : OwnC w base e size (.slice none 0 0) 0 [] := ⟨World.ownsRow_nil w base e size, fun g h => by cases h⟩
theorem OwnC.xs {w : World} {base : Nat} {e : TypeId} {size n : Nat} {v : Value} {xs : List Value} (h : OwnC w base e size v n xs) : ∀ u ∈ xs, ClV u := by
  rcases h.own.2 with ⟨rfl, rfl⟩ | ⟨g, cap, cur, rfl, hbg, hg, hnc', hcm, hcs, htake⟩
  · have hx : xs = [] := List.eq_nil_of_length_eq_zero (by simpa using h.own.1)
    subst hx
    intro u hu; cases hu
  · intro u hu
    rw [← htake] at hu
    exact h.cl.cur hg u (List.mem_of_mem_take hu)
theorem Clean.kept {w w' : World} {base : Nat} {e : TypeId} {size n : Nat} {v : Value} {xs : List Value} (h : Clean w v) (ho : w.ownsRow base e size v n xs) {row : Option Nat} (hg : w.grownBy w' row) (hne : v.ownBlock = none ∨ v.ownBlock ≠ row) : Clean w' v := by
  intro g hgv i x hx
  have hlt := (ho.lt g hgv).2
  have hb : some g ≠ row := by
    rcases hne with h0 | h0
    · rw [h0] at hgv; cases hgv
    · rw [← hgv]; exact h0
  rw [World.cell?_of_block (a := ⟨g, i, none⟩) (hg.block g hlt hb)] at hx
  exact h g hgv i x hx
theorem OwnC.kept {w w' : World} {base : Nat} {e : TypeId} {size n : Nat} {v : Value} {xs : List Value} (h : OwnC w base e size v n xs) {row : Option Nat} (hg : w.grownBy w' row) (hne : v.ownBlock = none ∨ v.ownBlock ≠ row) : OwnC w' base e size v n xs :=
  ⟨h.own.kept hg hne, h.cl.kept h.own hg hne⟩
theorem OwnC.below {w w' : World} {base : Nat} {e : TypeId} {size n : Nat} {v : Value} {xs : List Value} (h : OwnC w base e size v n xs) (hb : Below w.heap.size w w') : OwnC w' base e size v n xs := by
  refine ⟨own_below h.own hb, fun g hgv i x hx => ?_⟩
  have hlt := (h.own.lt g hgv).2
  rw [hb.cell (p := ⟨g, i, none⟩) hlt] at hx
  exact h.cl g hgv i x hx
theorem OwnC.alloc {w : World} {base : Nat} {e : TypeId} {size n : Nat} {v : Value} {xs : List Value} (h : OwnC w base e size v n xs) (o : Obj) : OwnC (w.alloc o) base e size v n xs := h.below (al w o)
theorem OwnC.drewN {w : World} {base : Nat} {e : TypeId} {size n : Nat} {v : Value} {xs : List Value} (h : OwnC w base e size v n xs) (k : Nat) : OwnC (w.drewN k) base e size v n xs := ⟨h.own, h.cl⟩
/-- An own row of another element type is kept by an append, and so is a block. -/
theorem OwnC.beside {w w' : World} {base base' : Nat} {e e' : TypeId} {size n size' n' : Nat} {v v' : Value} {xs xs' : List Value} (h : OwnC w base e size v n xs) (h' : w.ownsRow base' e' size' v' n' xs') (hne : e ≠ e') (hg : w.grownBy w' v'.ownBlock) : OwnC w' base e size v n xs := by
  refine h.kept hg ?_
  rcases h.own.2 with ⟨rfl, rfl⟩ | ⟨g, cap, cur, rfl, hbg, hgc, _⟩
  · exact .inl rfl
  · right
    rcases h'.2 with ⟨rfl, rfl⟩ | ⟨g', cap', cur', rfl, hbg', hgc', _⟩
    · simp [Value.ownBlock]
    · simp only [Value.ownBlock, ne_eq, Option.some.injEq]
      intro he
      subst he
      rw [hgc] at hgc'
      injection hgc' with h1
      injection h1 with _ h2
      exact hne h2
theorem OwnC.blk {w w' : World} {base : Nat} {e t : TypeId} {size n g : Nat} {v : Value} {xs : List Value} {cs : Array Value} (h : OwnC w base e size v n xs) (hb : Blk w g t cs) (hne : e ≠ t) (hg : w.grownBy w' (some g)) : OwnC w' base e size v n xs := by
  refine h.kept hg ?_
  rcases h.own.2 with ⟨rfl, rfl⟩ | ⟨g', cap, cur, rfl, hbg, hgc, _⟩
  · exact .inl rfl
  · right
    simp only [Value.ownBlock, ne_eq, Option.some.injEq]
    intro he
    subst he
    exact Blk.ne_ (t := e) hgc hb hne rfl
section
variable {ops : Array Oper} {o : Oper} {a : Act} {w : World} {K : Act → World → Prop} {Q : Exit → Act → World → Prop} {E : Prop}
theorem wp_append_clean {P : Program} (s x : Operand) (t : TypeId)
    (ho : o.op = .call { callee := .builtin .append, args := #[s, x], argTypes := #[t, t] })
    (base : Nat) (e : TypeId) (i : TypeInfo) (z : Value) (size bytes : Nat) (ht : P.underlying t = some (.slice e)) (hi : P.info? e = some i) (hz : i.zero = some z)
    (hsize : i.size = size) (hby : i.bytes = bytes) (hzs : z.cells.size = size) (hsz : 0 < size) (hzc : ∀ u ∈ z.cells.toList, ClV u)
    (v : Value) (n : Nat) (xs : List Value) (hs : a.eval s = v) (hown : OwnC w base e size v n xs)
    (B : Nat) (A : Option Addr) (m c : Nat) (news : List Value) (hx : a.eval x = .slice A m c) (hr : Reads w B size A m news) (h1 : ∀ u ∈ news, u.oneCell' = true) (hnc : ∀ u ∈ news, ClV u)
    (h63 : n + m ≤ maxLen) (hbytes : (n + m) * bytes ≤ 140737488355328) (hbase : base ≤ w.heap.size)
    (h : ∀ v' w', OwnC w' base e size v' (n + m) (xs ++ news) → w.grownBy w' v.ownBlock → (v'.ownBlock = v.ownBlock ∨ v'.ownBlock = some w.heap.size) → KeepsN w w' → K (a.put o.dst v') w') : o.wp P a w K Q := by
  obtain ⟨v', w', hrun, h2, h3, h4, h5, h6⟩ := run_append_clean (P := P) w base t o.type e i z size bytes ht hi hz hsize hby hzs hsz v n xs hown.own hown.cl hzc B A m c news hr h1 hnc hown.xs h63 hbytes hbase
  unfold Oper.wp execOp
  simp only [ho, resolve, invoke, builtin, Sem.run_bind, Sem.run_pure, Result.andThen_ok, List.map_toArray, List.map_cons, List.map_nil, hs, hx, hrun]
  exact h v' w' ⟨h2, h5⟩ h3 h4 h6
theorem info_rats : (Try.prog.info? 28).map (fun i => (i.zero, i.size, i.bytes)) = some (some (.slice none 0 0), 1, 24) := by kernel_rfl
/-- A slice of Rats is put behind a row of such slices. -/
theorem wp_app_rows (s x : Operand) (ho : o.op = .call { callee := .builtin .append, args := #[s, x], argTypes := #[29, 29] })
    (base : Nat) (v : Value) (n : Nat) (xs : List Value) (hs : a.eval s = v) (hown : OwnC w base 28 1 v n xs) (g : Nat) (A : Option Addr) (k c : Nat) (hx : a.eval x = .slice (some ⟨g, 0, none⟩) 1 1) (hb : Blk w g 28 #[.slice A k c])
    (hk : n ≤ 1000000) (hbase : base ≤ w.heap.size)
    (h : ∀ v' w', OwnC w' base 28 1 v' (n + 1) (xs ++ [.slice A k c]) → w.grownBy w' v.ownBlock → (v'.ownBlock = v.ownBlock ∨ v'.ownBlock = some w.heap.size) → KeepsN w w' → K (a.put o.dst v') w') : o.wp Try.prog a w K Q := by
  obtain ⟨i, hi, hz, hs1, hby⟩ := info_parts info_rats
  have hr : Reads w w.heap.size 1 (some ⟨g, 0, none⟩) 1 [.slice A k c] := ⟨rfl, fun _ => ⟨_, rfl, hb.lt, fun j u hu => by
    rw [addr_zero, hb.cell]; simpa using hu⟩⟩
  refine wp_append_clean s x 29 ho base 28 i _ 1 24 Try.underlying29 hi hz hs1 hby rfl (by omega) (by intro u hu z hz'; simp [Value.cells] at hu; subst hu; cases hz') v n xs hs hown w.heap.size _ 1 1 _ hx hr (by simp; rfl) (by intro u hu z hz'; simp at hu; subst hu; cases hz') (by simp only [maxLen]; omega) (by omega) hbase h
/-- An int is put behind a row of ints. -/
theorem wp_app_ints (s x : Operand) (ho : o.op = .call { callee := .builtin .append, args := #[s, x], argTypes := #[86, 86] })
    (base : Nat) (v : Value) (n : Nat) (xs : List Value) (hs : a.eval s = v) (hown : OwnC w base 3 1 v n xs) (g : Nat) (y : Int) (hx : a.eval x = .slice (some ⟨g, 0, none⟩) 1 1) (hb : Blk w g 3 #[.int .i64 y])
    (hk : n ≤ 1000000) (hbase : base ≤ w.heap.size)
    (h : ∀ v' w', OwnC w' base 3 1 v' (n + 1) (xs ++ [.int .i64 y]) → w.grownBy w' v.ownBlock → (v'.ownBlock = v.ownBlock ∨ v'.ownBlock = some w.heap.size) → KeepsN w w' → K (a.put o.dst v') w') : o.wp Try.prog a w K Q := by
  obtain ⟨i, hi, hz, hs1, hby⟩ := info_parts info_int
  have hr : Reads w w.heap.size 1 (some ⟨g, 0, none⟩) 1 [.int .i64 y] := ⟨rfl, fun _ => ⟨_, rfl, hb.lt, fun j u hu => by
    rw [addr_zero, hb.cell]; simpa using hu⟩⟩
  refine wp_append_clean s x 86 ho base 3 i _ 1 8 Try.underlying86 hi hz hs1 hby rfl (by omega) (by intro u hu z hz'; simp [Value.cells] at hu; subst hu; cases hz') v n xs hs hown w.heap.size _ 1 1 _ hx hr (by simp; rfl) (by intro u hu z hz'; simp at hu; subst hu; cases hz') (by simp only [maxLen]; omega) (by omega) hbase h
/-- A Rat is put behind a row of Rats. -/
theorem wp_app_rat (s x : Operand) (ho : o.op = .call { callee := .builtin .append, args := #[s, x], argTypes := #[28, 28] })
    (base : Nat) (v : Value) (n : Nat) (xs : List Value) (hs : a.eval s = v) (hown : OwnC w base 41 3 v n xs) (g : Nat) (b : Bool) (A B : Option Addr) (k c m d : Nat) (hx : a.eval x = .slice (some ⟨g, 0, none⟩) 1 1) (hb : Blk w g 41 #[.bool b, .slice A k c, .slice B m d])
    (hk : n ≤ 1000000) (hbase : base ≤ w.heap.size)
    (h : ∀ v' w', OwnC w' base 41 3 v' (n + 1) (xs ++ [.bool b, .slice A k c, .slice B m d]) → w.grownBy w' v.ownBlock → (v'.ownBlock = v.ownBlock ∨ v'.ownBlock = some w.heap.size) → KeepsN w w' → K (a.put o.dst v') w') : o.wp Try.prog a w K Q := by
  obtain ⟨i, hi, hz, hs1, hby⟩ := info_parts info_rat
  have hr : Reads w w.heap.size 3 (some ⟨g, 0, none⟩) 1 [.bool b, .slice A k c, .slice B m d] := ⟨rfl, fun _ => ⟨_, rfl, hb.lt, fun j u hu => by
    rw [addr_zero, hb.cell]; simpa using hu⟩⟩
  refine wp_append_clean s x 28 ho base 41 i _ 3 56 Try.underlying28 hi hz hs1 hby rfl (by omega) (by intro u hu z hz'; simp [Value.cells] at hu; rcases hu with rfl | rfl <;> cases hz') v n xs hs hown w.heap.size _ 1 1 _ hx hr (by simp; exact ⟨rfl, rfl, rfl⟩) (by intro u hu z hz'; simp at hu; rcases hu with rfl | rfl | rfl <;> cases hz') (by simp only [maxLen]; omega) (by omega) hbase h
/-- .. as a step of a region. -/
theorem app_rows {rest : List Oper} (hgd : o.guard = none) (s x : Operand) (ho : o.op = .call { callee := .builtin .append, args := #[s, x], argTypes := #[29, 29] })
    (base : Nat) (v : Value) (n : Nat) (xs : List Value) (hs : a.eval s = v) (hown : OwnC w base 28 1 v n xs) (g : Nat) (A : Option Addr) (k c : Nat) (hx : a.eval x = .slice (some ⟨g, 0, none⟩) 1 1) (hb : Blk w g 28 #[.slice A k c])
    (hk : n ≤ 1000000) (hbase : base ≤ w.heap.size)
    (h : ∀ v' w', OwnC w' base 28 1 v' (n + 1) (xs ++ [.slice A k c]) → w.grownBy w' v.ownBlock → (v'.ownBlock = v.ownBlock ∨ v'.ownBlock = some w.heap.size) → KeepsN w w' → wpList Try.prog ops Q rest (a.put o.dst v') w') : wpList Try.prog ops Q (o :: rest) a w :=
  wpList_plain hgd fun _ hK => wp_app_rows s x ho base v n xs hs hown g A k c hx hb hk hbase fun v' w' h2 h3 h4 h5 => hK _ _ (h v' w' h2 h3 h4 h5)
theorem app_rat {rest : List Oper} (hgd : o.guard = none) (s x : Operand) (ho : o.op = .call { callee := .builtin .append, args := #[s, x], argTypes := #[28, 28] })
    (base : Nat) (v : Value) (n : Nat) (xs : List Value) (hs : a.eval s = v) (hown : OwnC w base 41 3 v n xs) (g : Nat) (b : Bool) (A B : Option Addr) (k c m d : Nat) (hx : a.eval x = .slice (some ⟨g, 0, none⟩) 1 1) (hb : Blk w g 41 #[.bool b, .slice A k c, .slice B m d])
    (hk : n ≤ 1000000) (hbase : base ≤ w.heap.size)
    (h : ∀ v' w', OwnC w' base 41 3 v' (n + 1) (xs ++ [.bool b, .slice A k c, .slice B m d]) → w.grownBy w' v.ownBlock → (v'.ownBlock = v.ownBlock ∨ v'.ownBlock = some w.heap.size) → KeepsN w w' → wpList Try.prog ops Q rest (a.put o.dst v') w') : wpList Try.prog ops Q (o :: rest) a w :=
  wpList_plain hgd fun _ hK => wp_app_rat s x ho base v n xs hs hown g b A B k c m d hx hb hk hbase fun v' w' h2 h3 h4 h5 => hK _ _ (h v' w' h2 h3 h4 h5)
theorem step_app_ints (hgd : o.guard = none) (s x : Operand) (ho : o.op = .call { callee := .builtin .append, args := #[s, x], argTypes := #[86, 86] })
    (base : Nat) (v : Value) (n : Nat) (xs : List Value) (hs : a.eval s = v) (hown : OwnC w base 3 1 v n xs) (g : Nat) (y : Int) (hx : a.eval x = .slice (some ⟨g, 0, none⟩) 1 1) (hb : Blk w g 3 #[.int .i64 y])
    (hk : n ≤ 1000000) (hbase : base ≤ w.heap.size)
    (h : ∀ v' w', OwnC w' base 3 1 v' (n + 1) (xs ++ [.int .i64 y]) → w.grownBy w' v.ownBlock → (v'.ownBlock = v.ownBlock ∨ v'.ownBlock = some w.heap.size) → KeepsN w w' → K (a.put o.dst v') w') : if Region.wanted o (yielded ops a.tmps) = true then Oper.wp Try.prog o a w K Q else E := by
  rw [if_pos (by simp [Region.wanted, hgd])]
  exact wp_app_ints s x ho base v n xs hs hown g y hx hb hk hbase h
theorem step_app_rows (hgd : o.guard = none) (s x : Operand) (ho : o.op = .call { callee := .builtin .append, args := #[s, x], argTypes := #[29, 29] })
    (base : Nat) (v : Value) (n : Nat) (xs : List Value) (hs : a.eval s = v) (hown : OwnC w base 28 1 v n xs) (g : Nat) (A : Option Addr) (k c : Nat) (hx : a.eval x = .slice (some ⟨g, 0, none⟩) 1 1) (hb : Blk w g 28 #[.slice A k c])
    (hk : n ≤ 1000000) (hbase : base ≤ w.heap.size)
    (h : ∀ v' w', OwnC w' base 28 1 v' (n + 1) (xs ++ [.slice A k c]) → w.grownBy w' v.ownBlock → (v'.ownBlock = v.ownBlock ∨ v'.ownBlock = some w.heap.size) → KeepsN w w' → K (a.put o.dst v') w') : if Region.wanted o (yielded ops a.tmps) = true then Oper.wp Try.prog o a w K Q else E := by
  rw [if_pos (by simp [Region.wanted, hgd])]
  exact wp_app_rows s x ho base v n xs hs hown g A k c hx hb hk hbase h
end
theorem RB.beside {w w' : World} {base g n : Nat} {e : TypeId} {size k : Nat} {v : Value} {xs : List Value} {P Q : Nat → Value → Prop} (h : RB w g n P) (ho : w.ownsRow base e size v k xs) (hne : e ≠ 41) (hg : w.grownBy w' v.ownBlock) (hq : ∀ j v, j < n → P j v → Q j v) : RB w' g n Q := by
  obtain ⟨cs, h1, h2⟩ := h
  exact ⟨cs, Blk.appended h1 ho hg hne, h2.mono hq⟩
/-- An element of a row is set. -/
theorem store_upd {o : Oper} {a : Act} {w : World} {t u : Tmp} {g n j b : Nat} {f : Nat → Rat} {x : Rat} {v : Value} {K : Act → World → Prop} {Q : Exit → Act → World → Prop} (ho : o.op = .store 41 (.tmp t) (.tmp u)) (hd : o.dst = none) (ht : a.eval (.tmp t) = .pointer (some (Addr.add ⟨g, 0, none⟩ (j * 3)))) (hu : a.eval (.tmp u) = v)
    (hr : RB w g n (PN w b f)) (hj : j < n) (hv : Rv b x v w) (next : ∀ w', KeepsN w w' → w.grownBy w' (some g) → w'.heap.size = w.heap.size → RB w' g n (PN w' b (upd f j x)) → K a w') : o.wp Try.prog a w K Q :=
  store_row ho hd ht hu hr hj hv.rw fun w' kp hg hs hR => next w' kp hg hs (hR (PN w' b (upd f j x)) (fun i u _ hne hp => by
    have h' : Rv b (f i) u w := hp
    show Rv b (upd f j x i) u w'
    rw [upd_ne f x hne]; exact h'.keepN kp) (by
    show Rv b (upd f j x j) v w'
    rw [upd_self]; exact hv.keepN kp))
end Go.Proofs.Ytamcibmjpmibdaa
namespace Go.Proofs.Ytamcibmjpmibdaa
open Go.RowKit
set_option linter.unusedVariables false
set_option linter.unusedSimpArgs false

/-- The fraction of a Small. -/
def smq (N : Int) (D : Nat) : Rat := ((N.tmod 10 : Int) : Rat) / (((1 + D % 4 : Nat) : Int) : Rat)
set_option maxRecDepth 100000 in
set_option maxHeartbeats 8000000 in
theorem q_any (N : Int) (D : Nat) (hN : -128 ≤ N) (hN' : N ≤ 127) (hD : D ≤ 255) (w : World) :
    Calls Try.prog 20 #[.agg #[.int .i8 N, .int .u8 D]] w (fun e w' => e = .returned (QL (smq N D)) ∧ Below w.heap.size w w') := by
  have hk : -9 ≤ N.tmod 10 ∧ N.tmod 10 ≤ 9 := by
    have h : (N.tmod 10).natAbs = N.natAbs % 10 := Int.natAbs_tmod N 10
    generalize N.tmod 10 = t at h ⊢
    omega
  have e1 : RowKit.wrap64 (N.tmod 10) = N.tmod 10 := (IntWalk.i64_left _).symm.trans (IntWalk.i64_in _ (by omega))
  have e2 : (1 + (D : Int) % 4) = ((1 + D % 4 : Nat) : Int) := by omega
  have HE1 := Lib.hid e1; have HE2 := Lib.hid e2; clear e1 e2
  go_enter Try.func20, Try.ntmps20
  go_upto_region 1 with (fail)
  have T := Lib.hid ((Blk.new (w.alloc (.cells #[.int .i8 N, .int .u8 D] 52)) 58 #[.int .i64 0, .int .i64 0]))
  have HB0 := Lib.hid (((al w (.cells #[.int .i8 N, .int .u8 D] 52))).alloc (by simp) (.cells #[.int .i64 0, .int .i64 0] 58))
  go_wp2_with fail
  rw [show ((1 : Int) + (D : Int) % 4) = ((1 + D % 4 : Nat) : Int) from HE2.out]
  refine (rlow_pos (N.tmod 10) (1 + D % 4) (by omega) (by omega) (by omega) (by omega)).mono ?_
  rintro e w2 ⟨rfl, hb⟩
  have U := Lib.hid (T.out.below hb T.out.lt)
  have HB2 := Lib.hid (bthen HB0.out hb HB0.out.size)
  rw [show (w.alloc (.cells #[.int .i8 N, .int .u8 D] 52)).heap.size = w.heap.size + 1 from Array.size_push _] at U
  have c0 : w2.cell? ⟨w.heap.size + 1, 0, none⟩ = some (.int .i64 0) := by rw [U.out.cell]; rfl
  have c1 : w2.cell? ⟨w.heap.size + 1, 1, none⟩ = some (.int .i64 0) := by rw [U.out.cell]; rfl
  have f0 := U.out.frozen 0; have f1 := U.out.frozen 1
  have pl := U.out.lt
  clear hb T HB0
  generalize hx : (((N.tmod 10 : Int) : Rat) / (((1 + D % 4 : Nat) : Int) : Rat)) = x
  go_wp2_with fail
  refine bodyPost_ret (v := QL x) (results_cell_row Try.results20 _ _ _ _ _ (0, 0) _ rfl ((U.out.set_ 0 _).set_ 1 _) Try.underlying58 rfl rfl) rfl ⟨by rw [← hx]; rfl, ?_⟩
  exact (HB2.out.setCell (p := ⟨w.heap.size + 1, 0, none⟩) (by show w.heap.size ≤ w.heap.size + 1; omega) _).setCell (p := ⟨w.heap.size + 1, 1, none⟩) (by show w.heap.size ≤ w.heap.size + 1; omega) _
set_option maxRecDepth 100000 in
set_option maxHeartbeats 8000000 in
theorem rzero_any (w : World) : Calls Try.prog 57 #[] w (fun e w' => e = .returned (QL 0) ∧ Below w.heap.size w w') := by
  go_enter Try.func57, Try.ntmps57
  go_upto_region 1 with (fail)
  have U := Lib.hid (Blk.new w 58 #[.int .i64 0, .int .i64 0])
  have HB := Lib.hid (al w (.cells #[.int .i64 0, .int .i64 0] 58))
  generalize w.alloc (.cells #[.int .i64 0, .int .i64 0] 58) = w1 at *
  have c0 : w1.cell? ⟨w.heap.size, 0, none⟩ = some (.int .i64 0) := by rw [U.out.cell]; rfl
  have c1 : w1.cell? ⟨w.heap.size, 1, none⟩ = some (.int .i64 0) := by rw [U.out.cell]; rfl
  have f0 := U.out.frozen 0; have f1 := U.out.frozen 1
  have pl := U.out.lt
  go_wp2_with fail
  refine bodyPost_ret (v := QL 0) (results_cell_row Try.results57 _ _ _ _ _ (0, 0) _ rfl ((U.out.set_ 0 _).set_ 1 _) Try.underlying58 rfl rfl) rfl ⟨rfl, ?_⟩
  exact (HB.out.setCell (p := ⟨w.heap.size, 0, none⟩) (Nat.le_refl _) _).setCell (p := ⟨w.heap.size, 1, none⟩) (Nat.le_refl _) _
end Go.Proofs.Ytamcibmjpmibdaa
