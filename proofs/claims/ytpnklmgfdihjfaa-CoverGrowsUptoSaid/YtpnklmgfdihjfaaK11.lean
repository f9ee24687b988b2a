/-
Contract of the tableau's feasible. Regions printed by gen/sx.py.
Contract of dual.
-/
import Derived.Test.YtpnklmgfdihjfaaK10
import Derived.Test.YtpnklmgfdihjfaaK9
namespace Go.Proofs.Ytpnklmgfdihjfaa
open Go.RowKit
set_option linter.unusedVariables false
set_option linter.unusedSimpArgs false

section
variable {base : Nat} {w w' : World} {p n m N b n3 d3 gr cr gb cb : Nat} {A3 Ar Ab : Option Addr} {rs : Nat → Nat} {S : Tab}
theorem Tab0.c2 (h : Tab0 base w p n m N b A3 n3 d3 Ar cr Ab cb rs S) : w.cell? ⟨p, 2, none⟩ = some (.slice Ar m cr) := by rw [h.blk.cell]; rfl
theorem Tab0.rcell (h : Tab0 base w p n m N b A3 n3 d3 (some ⟨gr, 0, none⟩) cr Ab cb rs S) {i : Nat} (hi : i < m) : w.cell? (Addr.add ⟨gr, 0, none⟩ i) = some (.slice (some ⟨rs i, 0, none⟩) N N) := by
  rw [addr_zero, h.rows.cellAt i (by omega)]
  simp [rowsL, hi]
theorem Tab0.some_ (h : Tab0 base w p n m N b A3 n3 d3 Ar cr Ab cb rs S) (hm : 0 < m) : (∃ gr, Ar = some ⟨gr, 0, none⟩ ∧ base ≤ gr ∧ gr < w.heap.size) ∧ ∃ gb, Ab = some ⟨gb, 0, none⟩ ∧ base ≤ gb ∧ gb < w.heap.size := by
  obtain ⟨g1, c1, e1, h1, k1⟩ := h.rows.form hm
  obtain ⟨g2, c2, e2, h2, k2⟩ := h.bas.form hm
  injection e1 with e1
  injection e2 with e2
  exact ⟨⟨g1, e1, h1, k1⟩, ⟨g2, e2, h2, k2⟩⟩
end
theorem rcq_ltb {x y : Rat} : decide (rcq x y < 0) = decide (x < y) := by
  by_cases h : x < y
  · rw [rcq_lt h, decide_eq_true h]; rfl
  · by_cases h2 : y < x
    · rw [rcq_gt h2, decide_eq_false h]; rfl
    · rw [rcq_eq (by grind), decide_eq_false h]; rfl
theorem gArt_upd (n m : Nat) : upd (fun _ => (0 : Rat)) (n + m) 1 = gArt n m := by
  funext j
  by_cases h : j = n + m
  · subst h; rw [upd_self]; exact (if_pos rfl).symm
  · rw [upd_ne _ _ h]; exact (if_neg h).symm
theorem Worst.one {B : Nat → Rat} {i : Nat} (h : ∀ l, l < i → 0 ≤ B l) (hn : B i < 0) : Worst (i + 1) B i :=
  ⟨by omega, hn, fun l hl => by
    by_cases hli : l = i
    · rw [hli]; exact Rat.le_refl
    · have := h l (by omega); grind, fun l hl => by have := h l hl; grind⟩
theorem Worst.skip {B : Nat → Rat} {i r : Nat} (h : Worst i B r) (hn : B r ≤ B i) : Worst (i + 1) B r :=
  ⟨by have := h.lt; omega, h.neg, fun l hl => by
    by_cases hli : l = i
    · rw [hli]; exact hn
    · exact h.le l (by omega), h.first⟩
theorem Worst.less {B : Nat → Rat} {i r : Nat} (h : Worst i B r) (hn : B i < B r) : Worst (i + 1) B i :=
  ⟨by omega, by have := h.neg; grind, fun l hl => by
    by_cases hli : l = i
    · rw [hli]; exact Rat.le_refl
    · have := h.le l (by omega); grind, fun l hl => by have := h.le l hl; grind⟩
def FeRet (base p n m N b cr cb : Nat) (Ar Ab : Option Addr) (A : Nat → Nat → Rat) (B : Nat → Rat) (w : World) (e : Ending) (w' : World) : Prop := ∃ (ok : Bool) (S : Tab) (rs : Nat → Nat), e = .returned (.bool ok) ∧ Ph1 n m A B S ok ∧ Below base w w' ∧
  ((ok = true ∧ ∃ (A3 : Option Addr) (n3 d3 : Nat), Tab0 base w' p n m N b A3 n3 d3 Ar cr Ab cb rs S) ∨ (ok = false ∧ ∃ gg : Nat, TabW base w' p n m N b gg Ar cr Ab cb rs S))
set_option maxRecDepth 100000 in
set_option maxHeartbeats 8000000 in
theorem feasible_any (base p n m N b n3 d3 cr cb : Nat) (A3 Ar Ab : Option Addr) (rs : Nat → Nat) (A : Nat → Nat → Rat) (B : Nat → Rat) (w : World) (hT : Tab0 base w p n m N b A3 n3 d3 Ar cr Ab cb rs (P1 n m A B))
    (hF : 0 < m → ∀ F, Canon m (n + m + 1) F → Eqv m (n + m + 1) (P1 n m A B) F → Eqv m (n + m + 1) F (P1 n m A B) → (∀ i, i < m → ∀ j, j < N → Fit b (F.T i j)) ∧ ∀ j, j < N → Fit b (F.G j)) (hN2 : N ≤ 1000) (hb0 : b ≤ 1000) (hb2 : 2 ≤ b) :
    Calls Try.prog 65 #[.pointer (some ⟨p, 0, none⟩)] w (FeRet base p n m N b cr cb Ar Ab A B w) := by
  have HNn := Lib.hid hT.low.2.2
  have HF := Lib.hid hF; clear hF
  have hmm : m ≤ 1000 := by have := HNn.out; omega
  have hnm : n ≤ 1000 := by have := HNn.out; omega
  have hrt : n + m + 1 < N := by have := HNn.out; omega
  have har : n + m < N := by have := HNn.out; omega
  have hb1 : 1 ≤ b := by omega
  obtain ⟨S, hS⟩ : ∃ S, S = P1 n m A B := ⟨_, rfl⟩
  rw [← hS] at hT
  have HT0 := Lib.hid hT; clear hT
  have HSe := Lib.hid hS; clear hS
  have c2 := HT0.out.c2; have pl := HT0.out.blk.lt
  go_enter Try.func65, Try.ntmps65
  go_wp2_with fail
  clear c2 pl
  go_loopw [3, 15] (fun bv iv wr => ∃ (z : Int) (i : Nat), bv = .int .i64 z ∧ iv = .int .i64 i ∧ i ≤ m ∧ Hid (Below w.heap.size w wr ∧ ((z = -1 ∧ (∀ l, l < i → 0 ≤ S.T l (n + m + 1))) ∨ ∃ r : Nat, z = (r : Int) ∧ Worst i (fun l => S.T l (n + m + 1)) r))) (fun _ iv _ => m - (intOf iv).toNat)
  case atStart => exact ⟨-1, 0, rfl, rfl, Nat.zero_le _, Lib.hid ⟨Below.refl _ _, .inl ⟨rfl, fun l hl => absurd hl (by omega)⟩⟩⟩
  case round =>
    obtain ⟨z, i, rfl, rfl, him, HI⟩ := hrel
    have HT := Lib.hid (HT0.out.new HI.out.1)
    have HB := Lib.hid HI.out.1
    have HS := Lib.hid HI.out.2
    clear HI
    by_cases hi : i < m
    · obtain ⟨⟨gr, rfl, -, -⟩, gb, rfl, -, -⟩ := HT0.out.some_ (by omega)
      have rc := HT.out.rcell hi
      have i0 : (0 : Int) ≤ (i : Int) := by omega
      have i2 : (i : Int) < (m : Int) := by omega
      rw [addr_zero] at rc
      go_upto_region 5 with (fail)
      clear rc
      refine wp_region_joins (kss := [[], [], [(1, 21)], [(0, 20), (2, 22)], [(3, 23)], []]) [(5, .slice (some (⟨rs i, 0, none⟩)) N N), (0, .pointer (some ⟨p, 0, none⟩))] [EV (.slice (some (⟨rs i, 0, none⟩)) N N), EV (.pointer (some ⟨p, 0, none⟩)), EV (.int .i64 (((n + m + 1 : Nat) : Int))), EV (.pointer (some (Addr.add (⟨rs i, 0, none⟩) ((n + m + 1) * 3)))), Rv (b) ((S.T i) (n + m + 1)), Zb wr.heap.size] 6 (by kernel_rfl) ⟨rfl, rfl, trivial⟩ [false, false, false, false, false, true] ?_ ?_ ?_
      · exact ⟨eI, eI, eI, eI, fun _ _ _ h hb => h.new hb, fun _ _ _ h hb => Zb.new h hb, trivial⟩
      · refine ⟨?_, ?_, ?_, ?_, ?_, ?_, trivial⟩
        · exact fun _ _ _ he hd => ob_mv rfl rfl he.1
        · exact fun _ _ _ he hd => ob_mv rfl rfl he.2.1
        · exact fun aa ww hb he hd => ob_plain rfl (gives_call1 _ _ _ rfl (by kernel_rfl) (by rw [show aa.eval (.tmp 21) = .pointer (some ⟨p, 0, none⟩) from hd.1]; exact rv_one (right_any (Tab0.new HT.out hb).blk (by omega) (by omega))))
        · exact fun aa ww hb he hd => ob_plain rfl (idx_rs (by omega) rfl hd.1 hd.2.1)
        · exact fun aa ww hb he hd => ob_plain rfl (load_rn rfl hd.1 (Rs.of_rb ((Tab0.new HT.out hb).row hi)) (by omega))
        · exact fun aa ww hb he hd => ⟨by simp [Region.wanted], alloc_rat rfl hb⟩
      intro vs w4 hb hR
      have r24 : Rv (b) ((S.T i) (n + m + 1)) (vs 4) w4 := hR 4 (by decide)
      have r6 : Zb wr.heap.size (vs 5) w4 := hR 5 (by decide)
      clear hR
      simp only [putsL, Nat.zero_add, Nat.reduceAdd, List.take_succ_cons, List.take_zero, Act.put, List.setIfInBounds_toArray, List.set_cons_zero, List.set_cons_succ]
      obtain ⟨g6, k6, z6⟩ := r6
      rw [k6]
      clear k6
      show wpOps _ _ _ [6] _ _
      refine wpOps_next rfl rfl (store_row (v := vs 4) (g := g6) (j := 0) (n := 1) (b := b) (x := S.T i (n + m + 1)) rfl rfl rfl rfl z6.rb (by omega) r24.rw ?_)
      intro wa kp hg hsz hR
      have HX := Lib.hid (RB.bx (hR (fun _ v => Rw b (S.T i (n + m + 1)) v wa) (fun l u hl hne _ => absurd hl (by omega)) (r24.rw.keepN kp)))
      have hl : wr.heap.size ≤ g6 := z6.1
      have hlow : w.heap.size ≤ wr.heap.size := HB.out.size
      have HBa := Lib.hid (show Below w.heap.size w wa from (bthen HB.out hb HB.out.size).grown hg (bthen HB.out hb HB.out.size).size (fun x hx => by cases hx; omega))
      clear hb kp hg hsz hR r24 z6 hl hlow HB HT
      have HT := Lib.hid (HT0.out.new HBa.out)
      show Exit.then _ _ _ _ _
      by_cases hp : 0 ≤ S.T i (n + m + 1)
      · have hs : decide ((S.T i (n + m + 1)).num.sign < 0) = false := sign_lt.trans (decide_eq_false (by grind))
        go_upto_region 6 with (fail)
        refine wp_region_each (kss := [[], [(0, 25)], [(1, 26)], [(2, 27)], [(3, 28)], [(3, 28), (4, 29)], [(3, 28), (5, 30)], [(6, 31)], [(6, 31)], [(6, 31), (8, 33)], [(6, 31), (9, 34)], [(6, 31), (10, 35)], [(6, 31)], [(6, 31), (11, 36), (12, 37)], [(6, 31), (13, 38)], [(6, 31)], [(6, 31), (15, 40)], [(6, 31), (14, 39), (16, 41)], [(6, 31), (17, 42)], [(6, 31), (7, 32), (18, 43)], [(6, 31), (19, 44)], [(3, 28), (6, 31), (20, 45)], [(3, 28), (21, 46)]]) [(6, .pointer (some ⟨g6, 0, none⟩)), (3, .int .i64 z), (0, .pointer (some ⟨p, 0, none⟩))] [Rw (b) (S.T i (n + m + 1)), EV (.int .i64 ((S.T i (n + m + 1)).num.sign)), EV (.bool false), EV (.bool false), EV (undef), EV (undef), EV (undef), EV (undef), EV (undef), EV (undef), EV (undef), EV (undef), EV (undef), EV (undef), EV (undef), EV (undef), EV (undef), EV (undef), EV (undef), EV (undef), EV (undef), EV (undef), EV (.bool false)] (by kernel_rfl) (by kernel_rfl) ⟨rfl, rfl, rfl, trivial⟩ ?_ ?_ ?_
        · exact ⟨fun _ _ _ h hb => h.new hb, eI, eI, eI, eI, eI, eI, eI, eI, eI, eI, eI, eI, eI, eI, eI, eI, eI, eI, eI, eI, eI, eI, trivial⟩
        · refine ⟨?_, ?_, ?_, ?_, ?_, ?_, ?_, ?_, ?_, ?_, ?_, ?_, ?_, ?_, ?_, ?_, ?_, ?_, ?_, ?_, ?_, ?_, ?_, trivial⟩
          · exact fun aa ww hb he hd => ob_plain rfl (load_bx rfl he.1 (Bx.new HX.out hb))
          · exact fun aa ww hb he hd => ob_plain rfl (gives_call1 _ _ _ rfl (by kernel_rfl) (sign_v (hd.1)))
          · exact fun aa ww hb he hd => ob_plain rfl (gives_lt_int ((S.T i (n + m + 1)).num.sign) 0 .i64 _ _ _ _ rfl hd.1 rfl ⟨congrArg Value.bool (hs), Below.refl _ _⟩)
          · exact fun _ _ _ he hd => ob_mv rfl rfl hd.1
          · exact fun aa ww hb he hd => ob_off 28 rfl (by kernel_rfl) hd.1 rfl
          · exact fun aa ww hb he hd => ob_off 28 rfl (by kernel_rfl) hd.1 rfl
          · exact fun aa ww hb he hd => ob_off 28 rfl (by kernel_rfl) hd.1 rfl
          · exact fun aa ww hb he hd => ob_undef 31 rfl (by kernel_rfl) hd.1 rfl
          · exact fun aa ww hb he hd => ob_undef 31 rfl (by kernel_rfl) hd.1 rfl
          · exact fun aa ww hb he hd => ob_undef 31 rfl (by kernel_rfl) hd.1 rfl
          · exact fun aa ww hb he hd => ob_undef 31 rfl (by kernel_rfl) hd.1 rfl
          · exact fun aa ww hb he hd => ob_undef 31 rfl (by kernel_rfl) hd.1 rfl
          · exact fun aa ww hb he hd => ob_undef 31 rfl (by kernel_rfl) hd.1 rfl
          · exact fun aa ww hb he hd => ob_undef 31 rfl (by kernel_rfl) hd.1 rfl
          · exact fun aa ww hb he hd => ob_undef 31 rfl (by kernel_rfl) hd.1 rfl
          · exact fun aa ww hb he hd => ob_undef 31 rfl (by kernel_rfl) hd.1 rfl
          · exact fun aa ww hb he hd => ob_undef 31 rfl (by kernel_rfl) hd.1 rfl
          · exact fun aa ww hb he hd => ob_undef 31 rfl (by kernel_rfl) hd.1 rfl
          · exact fun aa ww hb he hd => ob_undef 31 rfl (by kernel_rfl) hd.1 rfl
          · exact fun aa ww hb he hd => ob_undef 31 rfl (by kernel_rfl) hd.1 rfl
          · exact fun aa ww hb he hd => ob_undef 31 rfl (by kernel_rfl) hd.1 rfl
          · exact fun aa ww hb he hd => ob_off 28 rfl (by kernel_rfl) hd.1 rfl
          · exact fun aa ww hb he hd => ob_plain rfl (gives_pick false _ _ _ rfl hd.1 ⟨rfl, Below.refl _ _⟩)
        intro vs w5 hb hR
        have e47 : vs 22 = .bool false := hR 22 (by decide)
        clear hR
        simp only [putsL, Nat.zero_add, Nat.reduceAdd, List.take_succ_cons, List.take_zero, Act.put, List.setIfInBounds_toArray, List.set_cons_zero, List.set_cons_succ]
        rw [e47]
        clear e47
        go_wp2_with fail
        refine ⟨⟨z, i + 1, rfl, by go_num, by omega, Lib.hid ⟨bthen HBa.out hb HBa.out.size, ?_⟩⟩, by simp [intOf]; omega⟩
        rcases HS.out with ⟨h1, h2⟩ | ⟨r, h1, h2⟩
        · refine .inl ⟨h1, fun l hl => ?_⟩
          by_cases hli : l = i
          · rw [hli]; exact hp
          · exact h2 l (by omega)
        · exact .inr ⟨r, h1, h2.skip (by have := h2.neg; grind)⟩
      · have hneg : S.T i (n + m + 1) < 0 := by grind
        have hs : decide ((S.T i (n + m + 1)).num.sign < 0) = true := sign_lt.trans (decide_eq_true hneg)
        rcases HS.out with ⟨rfl, h2⟩ | ⟨r, rfl, h2⟩
        · have H2 := Lib.hid h2; clear h2 HS
          go_upto_region 6 with (fail)
          refine wp_region_each (kss := [[], [(0, 25)], [(1, 26)], [(2, 27)], [(3, 28)], [(3, 28), (4, 29)], [(3, 28), (5, 30)], [(6, 31)], [(6, 31)], [(6, 31), (8, 33)], [(6, 31), (9, 34)], [(6, 31), (10, 35)], [(6, 31)], [(6, 31), (11, 36), (12, 37)], [(6, 31), (13, 38)], [(6, 31)], [(6, 31), (15, 40)], [(6, 31), (14, 39), (16, 41)], [(6, 31), (17, 42)], [(6, 31), (7, 32), (18, 43)], [(6, 31), (19, 44)], [(3, 28), (6, 31), (20, 45)], [(3, 28), (21, 46)]]) [(6, .pointer (some ⟨g6, 0, none⟩)), (3, .int .i64 ((-1))), (0, .pointer (some ⟨p, 0, none⟩))] [Rw (b) (S.T i (n + m + 1)), EV (.int .i64 ((S.T i (n + m + 1)).num.sign)), EV (.bool true), EV (.bool true), EV (.int .i64 ((-1))), EV (.bool true), EV (.bool true), EV (undef), EV (undef), EV (undef), EV (undef), EV (undef), EV (undef), EV (undef), EV (undef), EV (undef), EV (undef), EV (undef), EV (undef), EV (undef), EV (undef), EV (.bool true), EV (.bool true)] (by kernel_rfl) (by kernel_rfl) ⟨rfl, rfl, rfl, trivial⟩ ?_ ?_ ?_
          · exact ⟨fun _ _ _ h hb => h.new hb, eI, eI, eI, eI, eI, eI, eI, eI, eI, eI, eI, eI, eI, eI, eI, eI, eI, eI, eI, eI, eI, eI, trivial⟩
          · refine ⟨?_, ?_, ?_, ?_, ?_, ?_, ?_, ?_, ?_, ?_, ?_, ?_, ?_, ?_, ?_, ?_, ?_, ?_, ?_, ?_, ?_, ?_, ?_, trivial⟩
            · exact fun aa ww hb he hd => ob_plain rfl (load_bx rfl he.1 (Bx.new HX.out hb))
            · exact fun aa ww hb he hd => ob_plain rfl (gives_call1 _ _ _ rfl (by kernel_rfl) (sign_v (hd.1)))
            · exact fun aa ww hb he hd => ob_plain rfl (gives_lt_int ((S.T i (n + m + 1)).num.sign) 0 .i64 _ _ _ _ rfl hd.1 rfl ⟨congrArg Value.bool (hs), Below.refl _ _⟩)
            · exact fun _ _ _ he hd => ob_mv rfl rfl hd.1
            · exact fun aa ww hb he hd => ob_on 28 rfl (by kernel_rfl) hd.1 (gives_move _ rfl ⟨he.2.1, Below.refl _ _⟩)
            · exact fun aa ww hb he hd => ob_on 28 rfl (by kernel_rfl) hd.1 (gives_lt_int ((-1)) 0 .i64 _ _ _ _ rfl hd.2.1 rfl ⟨congrArg Value.bool (by decide), Below.refl _ _⟩)
            · exact fun aa ww hb he hd => ob_on 28 rfl (by kernel_rfl) hd.1 (gives_move _ rfl ⟨hd.2.1, Below.refl _ _⟩)
            · exact fun aa ww hb he hd => ob_off 31 rfl (by kernel_rfl) hd.1 rfl
            · exact fun aa ww hb he hd => ob_off 31 rfl (by kernel_rfl) hd.1 rfl
            · exact fun aa ww hb he hd => ob_off 31 rfl (by kernel_rfl) hd.1 rfl
            · exact fun aa ww hb he hd => ob_off 31 rfl (by kernel_rfl) hd.1 rfl
            · exact fun aa ww hb he hd => ob_off 31 rfl (by kernel_rfl) hd.1 rfl
            · exact fun aa ww hb he hd => ob_off 31 rfl (by kernel_rfl) hd.1 rfl
            · exact fun aa ww hb he hd => ob_off 31 rfl (by kernel_rfl) hd.1 rfl
            · exact fun aa ww hb he hd => ob_off 31 rfl (by kernel_rfl) hd.1 rfl
            · exact fun aa ww hb he hd => ob_off 31 rfl (by kernel_rfl) hd.1 rfl
            · exact fun aa ww hb he hd => ob_off 31 rfl (by kernel_rfl) hd.1 rfl
            · exact fun aa ww hb he hd => ob_off 31 rfl (by kernel_rfl) hd.1 rfl
            · exact fun aa ww hb he hd => ob_off 31 rfl (by kernel_rfl) hd.1 rfl
            · exact fun aa ww hb he hd => ob_off 31 rfl (by kernel_rfl) hd.1 rfl
            · exact fun aa ww hb he hd => ob_off 31 rfl (by kernel_rfl) hd.1 rfl
            · exact fun aa ww hb he hd => ob_on 28 rfl (by kernel_rfl) hd.1 (gives_pick true _ _ _ rfl hd.2.1 ⟨rfl, Below.refl _ _⟩)
            · exact fun aa ww hb he hd => ob_plain rfl (gives_pick true _ _ _ rfl hd.1 ⟨hd.2.1, Below.refl _ _⟩)
          intro vs w5 hb hR
          have e47 : vs 22 = .bool true := hR 22 (by decide)
          clear hR
          simp only [putsL, Nat.zero_add, Nat.reduceAdd, List.take_succ_cons, List.take_zero, Act.put, List.setIfInBounds_toArray, List.set_cons_zero, List.set_cons_succ]
          rw [e47]
          clear e47
          go_wp2_with fail
          exact ⟨⟨(i : Int), i + 1, rfl, by go_num, by omega, Lib.hid ⟨bthen HBa.out hb HBa.out.size, .inr ⟨i, rfl, Worst.one H2.out hneg⟩⟩⟩, by simp [intOf]; omega⟩
        · have H2 := Lib.hid h2; clear h2 HS
          have hri : r < m := by have := H2.out.lt; omega
          have hr0 : decide ((r : Int) < 0) = false := decide_eq_false (by omega)
          by_cases hq0 : S.T i (n + m + 1) < S.T r (n + m + 1)
          · have hq : decide (rcq (S.T i (n + m + 1)) (S.T r (n + m + 1)) < 0) = true := rcq_ltb.trans (decide_eq_true hq0)
            go_upto_region 6 with (fail)
            refine wp_region_each (kss := [[], [(0, 25)], [(1, 26)], [(2, 27)], [(3, 28)], [(3, 28), (4, 29)], [(3, 28), (5, 30)], [(6, 31)], [(6, 31)], [(6, 31), (8, 33)], [(6, 31), (9, 34)], [(6, 31), (10, 35)], [(6, 31)], [(6, 31), (11, 36), (12, 37)], [(6, 31), (13, 38)], [(6, 31)], [(6, 31), (15, 40)], [(6, 31), (14, 39), (16, 41)], [(6, 31), (17, 42)], [(6, 31), (7, 32), (18, 43)], [(6, 31), (19, 44)], [(3, 28), (6, 31), (20, 45)], [(3, 28), (21, 46)]]) [(6, .pointer (some ⟨g6, 0, none⟩)), (3, .int .i64 ((r : Int))), (0, .pointer (some ⟨p, 0, none⟩))] [Rw (b) (S.T i (n + m + 1)), EV (.int .i64 ((S.T i (n + m + 1)).num.sign)), EV (.bool true), EV (.bool true), EV (.int .i64 ((r : Int))), EV (.bool false), EV (.bool false), Rw (b) (S.T i (n + m + 1)), EV (.pointer (some ⟨p, 0, none⟩)), EV (.pointer (some ⟨p, 0, none⟩)), EV (.pointer (some ⟨p, 2, none⟩)), EV (.slice (some ⟨gr, 0, none⟩) m cr), EV (.int .i64 ((r : Int))), EV (.pointer (some (Addr.add ⟨gr, 0, none⟩ r))), EV (.slice (some (⟨rs r, 0, none⟩)) N N), EV (.pointer (some ⟨p, 0, none⟩)), EV (.int .i64 (((n + m + 1 : Nat) : Int))), EV (.pointer (some (Addr.add (⟨rs r, 0, none⟩) ((n + m + 1) * 3)))), Rv (b) ((S.T r) (n + m + 1)), EV (.int .i64 (rcq (S.T i (n + m + 1)) ((S.T r) (n + m + 1)))), EV (.bool true), EV (.bool true), EV (.bool true)] (by kernel_rfl) (by kernel_rfl) ⟨rfl, rfl, rfl, trivial⟩ ?_ ?_ ?_
            · exact ⟨fun _ _ _ h hb => h.new hb, eI, eI, eI, eI, eI, eI, fun _ _ _ h hb => h.new hb, eI, eI, eI, eI, eI, eI, eI, eI, eI, eI, fun _ _ _ h hb => h.new hb, eI, eI, eI, eI, trivial⟩
            · refine ⟨?_, ?_, ?_, ?_, ?_, ?_, ?_, ?_, ?_, ?_, ?_, ?_, ?_, ?_, ?_, ?_, ?_, ?_, ?_, ?_, ?_, ?_, ?_, trivial⟩
              · exact fun aa ww hb he hd => ob_plain rfl (load_bx rfl he.1 (Bx.new HX.out hb))
              · exact fun aa ww hb he hd => ob_plain rfl (gives_call1 _ _ _ rfl (by kernel_rfl) (sign_v (hd.1)))
              · exact fun aa ww hb he hd => ob_plain rfl (gives_lt_int ((S.T i (n + m + 1)).num.sign) 0 .i64 _ _ _ _ rfl hd.1 rfl ⟨congrArg Value.bool (hs), Below.refl _ _⟩)
              · exact fun _ _ _ he hd => ob_mv rfl rfl hd.1
              · exact fun aa ww hb he hd => ob_on 28 rfl (by kernel_rfl) hd.1 (gives_move _ rfl ⟨he.2.1, Below.refl _ _⟩)
              · exact fun aa ww hb he hd => ob_on 28 rfl (by kernel_rfl) hd.1 (gives_lt_int ((r : Int)) 0 .i64 _ _ _ _ rfl hd.2.1 rfl ⟨congrArg Value.bool (hr0), Below.refl _ _⟩)
              · exact fun aa ww hb he hd => ob_on 28 rfl (by kernel_rfl) hd.1 (gives_move _ rfl ⟨hd.2.1, Below.refl _ _⟩)
              · exact fun aa ww hb he hd => ob_on 31 rfl (by kernel_rfl) hd.1 (load_bx rfl he.1 (Bx.new HX.out hb))
              · exact fun aa ww hb he hd => ob_on 31 rfl (by kernel_rfl) hd.1 (gives_move _ rfl ⟨he.2.2.1, Below.refl _ _⟩)
              · exact fun aa ww hb he hd => ob_on 31 rfl (by kernel_rfl) hd.1 (nil_c rfl hd.2.1)
              · exact fun aa ww hb he hd => ob_on 31 rfl (by kernel_rfl) hd.1 (fld_tab rfl (by decide) hd.2.1)
              · exact fun aa ww hb he hd => ob_on 31 rfl (by kernel_rfl) hd.1 (load_c29 rfl hd.2.1 (Tab0.new HT.out hb).c2)
              · exact fun aa ww hb he hd => ob_on 31 rfl (by kernel_rfl) hd.1 (gives_move _ rfl ⟨he.2.1, Below.refl _ _⟩)
              · exact fun aa ww hb he hd => ob_on 31 rfl (by kernel_rfl) hd.1 (idx_rws (by omega) rfl hd.2.1 hd.2.2.1)
              · exact fun aa ww hb he hd => ob_on 31 rfl (by kernel_rfl) hd.1 (load_c28 rfl hd.2.1 ((Tab0.new HT.out hb).rcell (by omega)))
              · exact fun aa ww hb he hd => ob_on 31 rfl (by kernel_rfl) hd.1 (gives_move _ rfl ⟨he.2.2.1, Below.refl _ _⟩)
              · exact fun aa ww hb he hd => ob_on 31 rfl (by kernel_rfl) hd.1 (gives_call1 _ _ _ rfl (by kernel_rfl) (by rw [show aa.eval (.tmp 40) = .pointer (some ⟨p, 0, none⟩) from hd.2.1]; exact rv_one (right_any (Tab0.new HT.out hb).blk (by omega) (by omega))))
              · exact fun aa ww hb he hd => ob_on 31 rfl (by kernel_rfl) hd.1 (idx_rs (by omega) rfl hd.2.1 hd.2.2.1)
              · exact fun aa ww hb he hd => ob_on 31 rfl (by kernel_rfl) hd.1 (load_rn rfl hd.2.1 (Rs.of_rb ((Tab0.new HT.out hb).row (by omega))) (by omega))
              · exact fun aa ww hb he hd => ob_on 31 rfl (by kernel_rfl) hd.1 (gives_call2 _ _ _ _ rfl (by kernel_rfl) (cmp_v (hd.2.1) (hd.2.2.1.rw) (by omega)))
              · exact fun aa ww hb he hd => ob_on 31 rfl (by kernel_rfl) hd.1 (gives_lt_int (rcq (S.T i (n + m + 1)) ((S.T r) (n + m + 1))) 0 .i64 _ _ _ _ rfl hd.2.1 rfl ⟨congrArg Value.bool (hq), Below.refl _ _⟩)
              · exact fun aa ww hb he hd => ob_on 28 rfl (by kernel_rfl) hd.1 (gives_pick false _ _ _ rfl hd.2.1 ⟨hd.2.2.1, Below.refl _ _⟩)
              · exact fun aa ww hb he hd => ob_plain rfl (gives_pick true _ _ _ rfl hd.1 ⟨hd.2.1, Below.refl _ _⟩)
            intro vs w5 hb hR
            have e47 : vs 22 = .bool true := hR 22 (by decide)
            clear hR
            simp only [putsL, Nat.zero_add, Nat.reduceAdd, List.take_succ_cons, List.take_zero, Act.put, List.setIfInBounds_toArray, List.set_cons_zero, List.set_cons_succ]
            rw [e47]
            clear e47
            go_wp2_with fail
            exact ⟨⟨(i : Int), i + 1, rfl, by go_num, by omega, Lib.hid ⟨bthen HBa.out hb HBa.out.size, .inr ⟨i, rfl, H2.out.less hq0⟩⟩⟩, by simp [intOf]; omega⟩
          · have hq : decide (rcq (S.T i (n + m + 1)) (S.T r (n + m + 1)) < 0) = false := rcq_ltb.trans (decide_eq_false hq0)
            go_upto_region 6 with (fail)
            refine wp_region_each (kss := [[], [(0, 25)], [(1, 26)], [(2, 27)], [(3, 28)], [(3, 28), (4, 29)], [(3, 28), (5, 30)], [(6, 31)], [(6, 31)], [(6, 31), (8, 33)], [(6, 31), (9, 34)], [(6, 31), (10, 35)], [(6, 31)], [(6, 31), (11, 36), (12, 37)], [(6, 31), (13, 38)], [(6, 31)], [(6, 31), (15, 40)], [(6, 31), (14, 39), (16, 41)], [(6, 31), (17, 42)], [(6, 31), (7, 32), (18, 43)], [(6, 31), (19, 44)], [(3, 28), (6, 31), (20, 45)], [(3, 28), (21, 46)]]) [(6, .pointer (some ⟨g6, 0, none⟩)), (3, .int .i64 ((r : Int))), (0, .pointer (some ⟨p, 0, none⟩))] [Rw (b) (S.T i (n + m + 1)), EV (.int .i64 ((S.T i (n + m + 1)).num.sign)), EV (.bool true), EV (.bool true), EV (.int .i64 ((r : Int))), EV (.bool false), EV (.bool false), Rw (b) (S.T i (n + m + 1)), EV (.pointer (some ⟨p, 0, none⟩)), EV (.pointer (some ⟨p, 0, none⟩)), EV (.pointer (some ⟨p, 2, none⟩)), EV (.slice (some ⟨gr, 0, none⟩) m cr), EV (.int .i64 ((r : Int))), EV (.pointer (some (Addr.add ⟨gr, 0, none⟩ r))), EV (.slice (some (⟨rs r, 0, none⟩)) N N), EV (.pointer (some ⟨p, 0, none⟩)), EV (.int .i64 (((n + m + 1 : Nat) : Int))), EV (.pointer (some (Addr.add (⟨rs r, 0, none⟩) ((n + m + 1) * 3)))), Rv (b) ((S.T r) (n + m + 1)), EV (.int .i64 (rcq (S.T i (n + m + 1)) ((S.T r) (n + m + 1)))), EV (.bool false), EV (.bool false), EV (.bool false)] (by kernel_rfl) (by kernel_rfl) ⟨rfl, rfl, rfl, trivial⟩ ?_ ?_ ?_
            · exact ⟨fun _ _ _ h hb => h.new hb, eI, eI, eI, eI, eI, eI, fun _ _ _ h hb => h.new hb, eI, eI, eI, eI, eI, eI, eI, eI, eI, eI, fun _ _ _ h hb => h.new hb, eI, eI, eI, eI, trivial⟩
            · refine ⟨?_, ?_, ?_, ?_, ?_, ?_, ?_, ?_, ?_, ?_, ?_, ?_, ?_, ?_, ?_, ?_, ?_, ?_, ?_, ?_, ?_, ?_, ?_, trivial⟩
              · exact fun aa ww hb he hd => ob_plain rfl (load_bx rfl he.1 (Bx.new HX.out hb))
              · exact fun aa ww hb he hd => ob_plain rfl (gives_call1 _ _ _ rfl (by kernel_rfl) (sign_v (hd.1)))
              · exact fun aa ww hb he hd => ob_plain rfl (gives_lt_int ((S.T i (n + m + 1)).num.sign) 0 .i64 _ _ _ _ rfl hd.1 rfl ⟨congrArg Value.bool (hs), Below.refl _ _⟩)
              · exact fun _ _ _ he hd => ob_mv rfl rfl hd.1
              · exact fun aa ww hb he hd => ob_on 28 rfl (by kernel_rfl) hd.1 (gives_move _ rfl ⟨he.2.1, Below.refl _ _⟩)
              · exact fun aa ww hb he hd => ob_on 28 rfl (by kernel_rfl) hd.1 (gives_lt_int ((r : Int)) 0 .i64 _ _ _ _ rfl hd.2.1 rfl ⟨congrArg Value.bool (hr0), Below.refl _ _⟩)
              · exact fun aa ww hb he hd => ob_on 28 rfl (by kernel_rfl) hd.1 (gives_move _ rfl ⟨hd.2.1, Below.refl _ _⟩)
              · exact fun aa ww hb he hd => ob_on 31 rfl (by kernel_rfl) hd.1 (load_bx rfl he.1 (Bx.new HX.out hb))
              · exact fun aa ww hb he hd => ob_on 31 rfl (by kernel_rfl) hd.1 (gives_move _ rfl ⟨he.2.2.1, Below.refl _ _⟩)
              · exact fun aa ww hb he hd => ob_on 31 rfl (by kernel_rfl) hd.1 (nil_c rfl hd.2.1)
              · exact fun aa ww hb he hd => ob_on 31 rfl (by kernel_rfl) hd.1 (fld_tab rfl (by decide) hd.2.1)
              · exact fun aa ww hb he hd => ob_on 31 rfl (by kernel_rfl) hd.1 (load_c29 rfl hd.2.1 (Tab0.new HT.out hb).c2)
              · exact fun aa ww hb he hd => ob_on 31 rfl (by kernel_rfl) hd.1 (gives_move _ rfl ⟨he.2.1, Below.refl _ _⟩)
              · exact fun aa ww hb he hd => ob_on 31 rfl (by kernel_rfl) hd.1 (idx_rws (by omega) rfl hd.2.1 hd.2.2.1)
              · exact fun aa ww hb he hd => ob_on 31 rfl (by kernel_rfl) hd.1 (load_c28 rfl hd.2.1 ((Tab0.new HT.out hb).rcell (by omega)))
              · exact fun aa ww hb he hd => ob_on 31 rfl (by kernel_rfl) hd.1 (gives_move _ rfl ⟨he.2.2.1, Below.refl _ _⟩)
              · exact fun aa ww hb he hd => ob_on 31 rfl (by kernel_rfl) hd.1 (gives_call1 _ _ _ rfl (by kernel_rfl) (by rw [show aa.eval (.tmp 40) = .pointer (some ⟨p, 0, none⟩) from hd.2.1]; exact rv_one (right_any (Tab0.new HT.out hb).blk (by omega) (by omega))))
              · exact fun aa ww hb he hd => ob_on 31 rfl (by kernel_rfl) hd.1 (idx_rs (by omega) rfl hd.2.1 hd.2.2.1)
              · exact fun aa ww hb he hd => ob_on 31 rfl (by kernel_rfl) hd.1 (load_rn rfl hd.2.1 (Rs.of_rb ((Tab0.new HT.out hb).row (by omega))) (by omega))
              · exact fun aa ww hb he hd => ob_on 31 rfl (by kernel_rfl) hd.1 (gives_call2 _ _ _ _ rfl (by kernel_rfl) (cmp_v (hd.2.1) (hd.2.2.1.rw) (by omega)))
              · exact fun aa ww hb he hd => ob_on 31 rfl (by kernel_rfl) hd.1 (gives_lt_int (rcq (S.T i (n + m + 1)) ((S.T r) (n + m + 1))) 0 .i64 _ _ _ _ rfl hd.2.1 rfl ⟨congrArg Value.bool (hq), Below.refl _ _⟩)
              · exact fun aa ww hb he hd => ob_on 28 rfl (by kernel_rfl) hd.1 (gives_pick false _ _ _ rfl hd.2.1 ⟨hd.2.2.1, Below.refl _ _⟩)
              · exact fun aa ww hb he hd => ob_plain rfl (gives_pick true _ _ _ rfl hd.1 ⟨hd.2.1, Below.refl _ _⟩)
            intro vs w5 hb hR
            have e47 : vs 22 = .bool false := hR 22 (by decide)
            clear hR
            simp only [putsL, Nat.zero_add, Nat.reduceAdd, List.take_succ_cons, List.take_zero, Act.put, List.setIfInBounds_toArray, List.set_cons_zero, List.set_cons_succ]
            rw [e47]
            clear e47
            go_wp2_with fail
            exact ⟨⟨(r : Int), i + 1, rfl, by go_num, by omega, Lib.hid ⟨bthen HBa.out hb HBa.out.size, .inr ⟨r, rfl, H2.out.skip (by grind)⟩⟩⟩, by simp [intOf]; omega⟩
    · obtain rfl : m = i := by omega
      have hB : (fun l => S.T l (n + m + 1)) = B := by
        funext l; rw [HSe.out]; exact tab0_right
      rw [hB] at HS
      clear hB
      rcases HS.out with ⟨rfl, h2⟩ | ⟨r, rfl, h2⟩
      · have H2 := Lib.hid h2; clear h2 HS
        go_wp2_with fail
        go_ret
        exact ⟨true, S, rs, rfl, .inl ⟨rfl, fun l hl => by
          have := H2.out l hl
          rw [HSe.out] at this
          have e : (P1 n m A B).T l (n + m + 1) = B l := tab0_right
          rw [e] at this
          exact this, HSe.out⟩, HB.out.mono HT0.out.low.2.1, .inl ⟨rfl, A3, n3, d3, HT.out⟩⟩
      · have HW := Lib.hid h2; clear h2 HS
        have hrm := HW.out.lt
        obtain ⟨⟨gr, rfl, -, -⟩, gb, rfl, -, -⟩ := HT0.out.some_ (by omega)
        have hm0 : 0 < m := by omega
        go_upto_region 11 with (fail)
        refine wp_region_joins (kss := [[], [], [(1, 53)], [(2, 54)], [(3, 55)], [(0, 52)], [(5, 57)]]) [(0, .pointer (some ⟨p, 0, none⟩))] [EV (.pointer (some ⟨p, 0, none⟩)), EV (.pointer (some ⟨p, 0, none⟩)), EV (.int .i64 (((n + m + 1 : Nat) : Int))), EV (.int .i64 (((N : Nat) : Int))), fun v w' => ∃ g : Nat, v = .slice (some ⟨g, 0, none⟩) N N ∧ wr.heap.size ≤ g ∧ RB w' g N (PN w' 2 (fun _ => 0)), EV (.pointer (some ⟨p, 0, none⟩)), EV (.pointer (some ⟨p, 3, none⟩))] 7 (by kernel_rfl) ⟨rfl, trivial⟩ [false, false, false, false, false, false, false] ?_ ?_ ?_
        · exact ⟨eI, eI, eI, eI, fun _ _ _ ⟨g, h1, h2, h3⟩ hb => ⟨g, h1, h2, h3.newN hb⟩, eI, eI, trivial⟩
        · refine ⟨?_, ?_, ?_, ?_, ?_, ?_, ?_, trivial⟩
          · exact fun _ _ _ he hd => ob_mv rfl rfl he.1
          · exact fun _ _ _ he hd => ob_mv rfl rfl he.1
          · exact fun aa ww hb he hd => ob_plain rfl (gives_call1 _ _ _ rfl (by kernel_rfl) (by rw [show aa.eval (.tmp 53) = .pointer (some ⟨p, 0, none⟩) from hd.1]; exact rv_one (right_any (Tab0.new HT.out hb).blk (by omega) (by omega))))
          · exact fun aa ww hb he hd => ob_plain rfl (gives_add_nat (n + m + 1) 1 N rfl hd.1 rfl (by have := HNn.out; omega) (by omega))
          · exact fun aa ww hb he hd => ob_plain rfl (gives_zeros rfl (hd.1) hN2 hb.size)
          · exact fun aa ww hb he hd => ob_plain rfl (nil_c rfl hd.1)
          · exact fun aa ww hb he hd => ob_plain rfl (fld_tab rfl (by decide) hd.1)
        intro vs w2 hb hR
        have e58 : vs 6 = .pointer (some ⟨p, 3, none⟩) := hR 6 (by decide)
        have r56 := hR 4 (by decide)
        clear hR
        simp only [putsL, Nat.zero_add, Nat.reduceAdd, List.take_succ_cons, List.take_zero, Act.put, List.setIfInBounds_toArray, List.set_cons_zero, List.set_cons_succ]
        rw [e58]
        clear e58
        obtain ⟨g2, e56, hg2, hz2⟩ := (show ∃ g : Nat, vs 4 = .slice (some ⟨g, 0, none⟩) N N ∧ wr.heap.size ≤ g ∧ RB w2 g N (PN w2 2 (fun _ => 0)) from r56)
        rw [e56]
        clear r56 e56
        have HT2 := Lib.hid (HT.out.new hb)
        have HB2 := Lib.hid (show Below base w w2 from (HB.out.mono HT0.out.low.2.1).trans (hb.mono HT.out.low.2.1))
        have HG2 := Lib.hid (show ∀ i, i < m → rs i ≠ g2 from fun i hi => by have := (HT.out.row hi).lt; omega)
        have HG3 := Lib.hid (show base ≤ g2 from Nat.le_trans HT.out.low.2.1 hg2)
        have HZ2 := Lib.hid (show RB w2 g2 N (PN w2 b (fun _ => 0)) from hz2.mono fun j v _ hv => by
          have h' : Rv 2 0 v w2 := hv
          exact h'.more hb2)
        clear hg2 hz2 hb HT HB
        obtain ⟨s1, s2⟩ := HT2.out.setGoal HZ2.out
        have HN1 := Lib.hid s1
        have HN2 := Lib.hid (show Below base w (w2.setCell ⟨p, 3, none⟩ (.slice (some ⟨g2, 0, none⟩) N N)) from HB2.out.setCell (p := ⟨p, 3, none⟩) HT2.out.low.1 _)
        clear s1 s2
        show wpOps _ _ _ [7] _ _
        refine wpOps_next rfl rfl (store_c28 rfl rfl rfl rfl HT2.out.c3 (HT2.out.blk.frozen 3) ?_)
        show Exit.then _ _ _ _ _
        generalize w2.setCell ⟨p, 3, none⟩ (.slice (some ⟨g2, 0, none⟩) N N) = w3 at *
        clear HT2 HB2 HZ2
        have HT := HN1; have HB := HN2
        clear HN1 HN2
        obtain ⟨S2, hS2⟩ : ∃ S2 : Tab, S2 = ⟨S.T, fun _ => 0, S.b⟩ := ⟨_, rfl⟩
        rw [← hS2] at HT
        have HS2 := Lib.hid hS2; clear hS2
        go_upto_region 12 with (fail)
        refine wp_region_join (kss := [[], [(0, 59)], [(1, 60)], [(2, 61)], [], [(4, 63)], [], [(3, 62), (5, 64)]]) [(0, .pointer (some ⟨p, 0, none⟩))] [EV (.pointer (some ⟨p, 0, none⟩)), EV (.pointer (some ⟨p, 0, none⟩)), EV (.pointer (some ⟨p, 3, none⟩)), EV (.slice (some (⟨g2, 0, none⟩)) N N), EV (.pointer (some ⟨p, 0, none⟩)), EV (.int .i64 (((n + m : Nat) : Int))), Rv (2) (((1 : Int) : Rat)), EV (.pointer (some (Addr.add (⟨g2, 0, none⟩) ((n + m) * 3))))] 8 [] (by kernel_rfl) (by kernel_rfl) ⟨rfl, trivial⟩ [false, false, false, false, false, false, false, false] ?_ ?_ ?_ ?_
        · exact fun i hi => absurd hi (by simp)
        · exact ⟨eI, eI, eI, eI, eI, eI, fun _ _ _ h hb => h.new hb, eI, trivial⟩
        · refine ⟨?_, ?_, ?_, ?_, ?_, ?_, ?_, ?_, trivial⟩
          · exact fun _ _ _ he hd => ob_mv rfl rfl he.1
          · exact fun aa ww hb he hd => ob_plain rfl (nil_c rfl hd.1)
          · exact fun aa ww hb he hd => ob_plain rfl (fld_tab rfl (by decide) hd.1)
          · exact fun aa ww hb he hd => ob_plain rfl (load_c28 rfl hd.1 (TabW.new HT.out hb).c3)
          · exact fun _ _ _ he hd => ob_mv rfl rfl he.1
          · exact fun aa ww hb he hd => ob_plain rfl (gives_call1 _ _ _ rfl (by kernel_rfl) (by rw [show aa.eval (.tmp 63) = .pointer (some ⟨p, 0, none⟩) from hd.1]; exact rv_one (artificial_any (TabW.new HT.out hb).blk (by omega) (by omega))))
          · exact fun aa ww hb he hd => ob_plain rfl (gives_call1 _ _ _ rfl (by kernel_rfl) (int_w (1) (by omega) (by omega) _ rfl _))
          · exact fun aa ww hb he hd => ob_plain rfl (idx_rs (by omega) rfl hd.1 hd.2.1)
        intro vs w4 hb hR _
        have e66 : vs 7 = .pointer (some (Addr.add (⟨g2, 0, none⟩) ((n + m) * 3))) := hR 7 (by decide)
        have r65 : Rv (2) (((1 : Int) : Rat)) (vs 6) w4 := hR 6 (by decide)
        clear hR
        simp only [putsL, Nat.zero_add, Nat.reduceAdd, List.take_succ_cons, List.take_zero, Act.put, List.setIfInBounds_toArray, List.set_cons_zero, List.set_cons_succ]
        rw [e66]
        clear e66
        have r65' : Rv b 1 (vs 6) w4 := by
          have h := r65
          rw [show ((1 : Int) : Rat) = 1 from by simp] at h
          exact Rv.more h hb2
        show wpAny _ _ _ _ 1 _ _ _
        refine wpAny_next (i := 8) (by kernel_rfl) rfl rfl (store_upd (v := vs 6) (g := g2) (j := n + m) (b := b) (x := 1) rfl rfl rfl rfl (HT.out.new hb).goal har r65' ?_)
        intro w5 kp hg hsz hR
        have HT5 := Lib.hid (show TabW base w5 p n m N b g2 (some ⟨gr, 0, none⟩) cr (some ⟨gb, 0, none⟩) cb rs (P1 n m A B) from by
          have h1 := (HT.out.new hb).goalStore HG2.out kp hg hsz hR
          rw [HS2.out] at h1
          rw [show (upd (⟨S.T, fun _ => 0, S.b⟩ : Tab).G (n + m) 1) = gArt n m from gArt_upd n m] at h1
          rw [HSe.out] at h1
          exact h1)
        have HB5 := Lib.hid (show Below base w w5 from (HB.out.trans (hb.mono HT.out.low.2.1)).grown hg (HT.out.new hb).low.2.1 (fun x hx => by cases hx; exact HG3.out))
        clear hb kp hg hsz hR r65 r65' HT HB HG2 HG3
        refine wpAny_end (by kernel_rfl) (calm_normal ?_) _
        have hne : (P1 n m A B).T r (n + m) ≠ 0 := by
          show tab0 n m A B r (n + m) ≠ 0
          rw [tab0_art]; grind
        have HPv := Lib.hid (P1.piv (n := n) (A := A) (B := B) hrm)
        have HFp := Lib.hid (HF.out hm0 _ HPv.out.1 HPv.out.2.1 HPv.out.2.2)
        go_upto_region 14 with (first
          | (go_at_call 89; refine (artificial_any HT5.out.blk hnm hmm).mono ?_; rintro e w6 ⟨rfl, hb6⟩; have HT6 := Lib.hid (HT5.out.new hb6); have HB6 := Lib.hid (show Below base w w6 from HB5.out.trans (hb6.mono HT5.out.low.2.1)); clear hb6)
          | (go_at_call 90; refine (pivot_any base p n m N b g2 gr cr gb cb r (n + m) rs (P1 n m A B) w6 HT6.out hrm har hN2 hb0 hb1 hne HFp.out.1 HFp.out.2).mono ?_; rintro e w7 ⟨gg7, rs7, rfl, hT7, hB7⟩; have HT7 := Lib.hid hT7; have HB7 := Lib.hid (HB6.out.trans hB7); clear hT7 hB7))
        clear HT5 HT6 HB5 HB6
        have HFe := Lib.hid (P1.feas (n := n) (A := A) HW.out)
        go_upto_region 15 with (first
          | (go_at_call 71; refine (right_any HT7.out.blk hnm hmm).mono ?_; rintro e w8 ⟨rfl, hb8⟩; have HT8 := Lib.hid (HT7.out.new hb8); have HB8 := Lib.hid (show Below base w w8 from HB7.out.trans (hb8.mono HT7.out.low.2.1)); clear hb8)
          | (go_at_call 68; refine (maximize_any base p n m N b gg7 cr cb (n + m + 1) (some ⟨gr, 0, none⟩) (some ⟨gb, 0, none⟩) rs7 ((P1 n m A B).piv r (n + m)) w8 HT8.out (n + m + 1) rfl (Nat.le_refl _) HPv.out.1 HFe.out (fun S' c1 c2 c3 => HF.out hm0 S' c1 (HPv.out.2.1.trans c2) (c3.trans HPv.out.2.2)) hN2 hb0 hb1).mono ?_; rintro e w9 ⟨K, S3, gg9, rs9, z9, t9, rfl, hrun, hend, hT9, hB9⟩; have HT9 := Lib.hid hT9; have HB9 := Lib.hid (HB8.out.trans hB9); have HRun := Lib.hid hrun; have HEnd := Lib.hid hend; clear hT9 hB9 hrun hend))
        clear HT7 HT8 HB7 HB8 HFp
        have HT := HT9; have HB := HB9
        clear HT9 HB9
        by_cases hg0 : S3.G (n + m + 1) < 0
        · have hs : decide ((S3.G (n + m + 1)).num.sign < 0) = true := sign_lt.trans (decide_eq_true hg0)
          refine wp_region_each (kss := [[], [(0, 76)], [(1, 77)], [(2, 78)], [], [(4, 80)], [(3, 79), (5, 81)], [(6, 82)], [(7, 83)], [(8, 84)]]) [(0, .pointer (some ⟨p, 0, none⟩))] [EV (.pointer (some ⟨p, 0, none⟩)), EV (.pointer (some ⟨p, 0, none⟩)), EV (.pointer (some ⟨p, 3, none⟩)), EV (.slice (some (⟨gg9, 0, none⟩)) N N), EV (.pointer (some ⟨p, 0, none⟩)), EV (.int .i64 (((n + m + 1 : Nat) : Int))), EV (.pointer (some (Addr.add (⟨gg9, 0, none⟩) ((n + m + 1) * 3)))), Rv (b) ((S3.G) (n + m + 1)), EV (.int .i64 (((S3.G) (n + m + 1)).num.sign)), EV (.bool true)] (by kernel_rfl) (by kernel_rfl) ⟨rfl, trivial⟩ ?_ ?_ ?_
          · exact ⟨eI, eI, eI, eI, eI, eI, eI, fun _ _ _ h hb => h.new hb, eI, eI, trivial⟩
          · refine ⟨?_, ?_, ?_, ?_, ?_, ?_, ?_, ?_, ?_, ?_, trivial⟩
            · exact fun _ _ _ he hd => ob_mv rfl rfl he.1
            · exact fun aa ww hb he hd => ob_plain rfl (nil_c rfl hd.1)
            · exact fun aa ww hb he hd => ob_plain rfl (fld_tab rfl (by decide) hd.1)
            · exact fun aa ww hb he hd => ob_plain rfl (load_c28 rfl hd.1 (TabW.new HT.out hb).c3)
            · exact fun _ _ _ he hd => ob_mv rfl rfl he.1
            · exact fun aa ww hb he hd => ob_plain rfl (gives_call1 _ _ _ rfl (by kernel_rfl) (by rw [show aa.eval (.tmp 80) = .pointer (some ⟨p, 0, none⟩) from hd.1]; exact rv_one (right_any (TabW.new HT.out hb).blk (by omega) (by omega))))
            · exact fun aa ww hb he hd => ob_plain rfl (idx_rs (by omega) rfl hd.1 hd.2.1)
            · exact fun aa ww hb he hd => ob_plain rfl (load_rn rfl hd.1 (Rs.of_rb (TabW.new HT.out hb).goal) (by omega))
            · exact fun aa ww hb he hd => ob_plain rfl (gives_call1 _ _ _ rfl (by kernel_rfl) (sign_v (hd.1.rw)))
            · exact fun aa ww hb he hd => ob_plain rfl (gives_lt_int (((S3.G) (n + m + 1)).num.sign) 0 .i64 _ _ _ _ rfl hd.1 rfl ⟨congrArg Value.bool (hs), Below.refl _ _⟩)
          intro vs w8 hb hR
          have e85 : vs 9 = .bool true := hR 9 (by decide)
          clear hR
          simp only [putsL, Nat.zero_add, Nat.reduceAdd, List.take_succ_cons, List.take_zero, Act.put, List.setIfInBounds_toArray, List.set_cons_zero, List.set_cons_succ]
          rw [e85]
          clear e85
          go_wp2_with fail
          go_ret
          exact ⟨false, S3, rs9, rfl, .inr ⟨r, K, S3, z9, t9, HW.out, HRun.out, HEnd.out, .inl ⟨hg0, rfl, rfl⟩⟩, HB.out.trans (hb.mono HT.out.low.2.1), .inr ⟨rfl, gg9, HT.out.new hb⟩⟩
        · have hs : decide ((S3.G (n + m + 1)).num.sign < 0) = false := sign_lt.trans (decide_eq_false hg0)
          refine wp_region_each (kss := [[], [(0, 76)], [(1, 77)], [(2, 78)], [], [(4, 80)], [(3, 79), (5, 81)], [(6, 82)], [(7, 83)], [(8, 84)]]) [(0, .pointer (some ⟨p, 0, none⟩))] [EV (.pointer (some ⟨p, 0, none⟩)), EV (.pointer (some ⟨p, 0, none⟩)), EV (.pointer (some ⟨p, 3, none⟩)), EV (.slice (some (⟨gg9, 0, none⟩)) N N), EV (.pointer (some ⟨p, 0, none⟩)), EV (.int .i64 (((n + m + 1 : Nat) : Int))), EV (.pointer (some (Addr.add (⟨gg9, 0, none⟩) ((n + m + 1) * 3)))), Rv (b) ((S3.G) (n + m + 1)), EV (.int .i64 (((S3.G) (n + m + 1)).num.sign)), EV (.bool false)] (by kernel_rfl) (by kernel_rfl) ⟨rfl, trivial⟩ ?_ ?_ ?_
          · exact ⟨eI, eI, eI, eI, eI, eI, eI, fun _ _ _ h hb => h.new hb, eI, eI, trivial⟩
          · refine ⟨?_, ?_, ?_, ?_, ?_, ?_, ?_, ?_, ?_, ?_, trivial⟩
            · exact fun _ _ _ he hd => ob_mv rfl rfl he.1
            · exact fun aa ww hb he hd => ob_plain rfl (nil_c rfl hd.1)
            · exact fun aa ww hb he hd => ob_plain rfl (fld_tab rfl (by decide) hd.1)
            · exact fun aa ww hb he hd => ob_plain rfl (load_c28 rfl hd.1 (TabW.new HT.out hb).c3)
            · exact fun _ _ _ he hd => ob_mv rfl rfl he.1
            · exact fun aa ww hb he hd => ob_plain rfl (gives_call1 _ _ _ rfl (by kernel_rfl) (by rw [show aa.eval (.tmp 80) = .pointer (some ⟨p, 0, none⟩) from hd.1]; exact rv_one (right_any (TabW.new HT.out hb).blk (by omega) (by omega))))
            · exact fun aa ww hb he hd => ob_plain rfl (idx_rs (by omega) rfl hd.1 hd.2.1)
            · exact fun aa ww hb he hd => ob_plain rfl (load_rn rfl hd.1 (Rs.of_rb (TabW.new HT.out hb).goal) (by omega))
            · exact fun aa ww hb he hd => ob_plain rfl (gives_call1 _ _ _ rfl (by kernel_rfl) (sign_v (hd.1.rw)))
            · exact fun aa ww hb he hd => ob_plain rfl (gives_lt_int (((S3.G) (n + m + 1)).num.sign) 0 .i64 _ _ _ _ rfl hd.1 rfl ⟨congrArg Value.bool (hs), Below.refl _ _⟩)
          intro vs w8 hb hR
          have e85 : vs 9 = .bool false := hR 9 (by decide)
          clear hR
          simp only [putsL, Nat.zero_add, Nat.reduceAdd, List.take_succ_cons, List.take_zero, Act.put, List.setIfInBounds_toArray, List.set_cons_zero, List.set_cons_succ]
          rw [e85]
          clear e85
          have HD0 := Lib.hid (P1.drv HW.out HRun.out (show 0 ≤ S3.G (n + m + 1) by grind))
          have HT8 := Lib.hid (HT.out.new hb)
          have HB8 := Lib.hid (show Below base w w8 from HB.out.trans (hb.mono HT.out.low.2.1))
          clear hb HT HB
          have c4 := HT8.out.c4; have pl := HT8.out.blk.lt
          go_wp2_with fail
          clear c4 pl
          go_loopg [91] m (fun g iv wr => ∃ (i gg : Nat) (rs : Nat → Nat), iv = .int .i64 i ∧ i + g = m ∧ Hid (DrvI n m A B i (driveN (n + m) S3 i) ∧ TabW base wr p n m N b gg (some ⟨gr, 0, none⟩) cr (some ⟨gb, 0, none⟩) cb rs (driveN (n + m) S3 i) ∧ Below base w wr))
          case atStart => exact ⟨0, gg9, rs9, rfl, by omega, Lib.hid ⟨HD0.out, HT8.out, HB8.out⟩⟩
          case round =>
            obtain ⟨i, gg4, rs4, rfl, him, HI⟩ := hrel
            obtain ⟨S4, hS4⟩ : ∃ S4, S4 = driveN (n + m) S3 i := ⟨_, rfl⟩
            rw [← hS4] at HI
            have HS4 := Lib.hid hS4; clear hS4
            have HD := Lib.hid HI.out.1
            have HT := Lib.hid HI.out.2.1
            have HB := Lib.hid HI.out.2.2
            clear HI HT8 HB8 HD0
            obtain ⟨w9, hw9⟩ : ∃ w9, w9 = wr := ⟨_, rfl⟩
            subst hw9
            obtain ⟨G, hG⟩ : ∃ G, G = gk := ⟨_, rfl⟩
            subst hG
            by_cases hi : i < m
            · have bc := HT.out.bcell hi
              rw [addr_zero] at bc
              have i1 : (0 : Int) ≤ (i : Int) := by omega
              have i2 : (i : Int) < (m : Int) := by omega
              go_wp2_with (go_at_call 89; refine (artificial_any HT.out.blk hnm hmm).mono ?_; rintro e wc ⟨rfl, hbc⟩; have HTc := Lib.hid (HT.out.new hbc); have HBc := Lib.hid (show Below base w wc from HB.out.trans (hbc.mono HT.out.low.2.1)); clear hbc bc)
              clear HT HB
              go_loopg [98] (n + m) (fun g iv wr => ∃ j : Nat, iv = .int .i64 j ∧ j + g = n + m ∧ Hid ((S4.b i = n + m → ∀ l, l < j → S4.T i l = 0) ∧ TabW base wr p n m N b gg4 (some ⟨gr, 0, none⟩) cr (some ⟨gb, 0, none⟩) cb rs4 S4 ∧ Below base w wr))
              case atStart => exact ⟨0, rfl, by omega, Lib.hid ⟨fun _ l hl => absurd hl (by omega), HTc.out, HBc.out⟩⟩
              case round =>
                obtain ⟨j, rfl, hjn, HI⟩ := hrel
                have HZ := Lib.hid HI.out.1
                have HT := Lib.hid HI.out.2.1
                have HB := Lib.hid HI.out.2.2
                clear HI HTc HBc
                by_cases hj : j < n + m
                · have j1 : ((j : Int) < ((n + m : Nat) : Int)) := by omega
                  have j2 : ((j : Int) < (n : Int) + (m : Int)) := by omega
                  by_cases hba0 : S4.b i = n + m
                  · have hba : (((S4.b i : Nat) : Int) == ((n + m : Nat) : Int)) = true := by rw [hba0]; exact beq_self_eq_true _
                    by_cases hz : S4.T i j = 0
                    · have hs : ((S4.T i j).num.sign != 0) = false := bne_of (sign_zero hz)
                      have HZ0 := Lib.hid hz; clear hz
                      have HBA := Lib.hid hba0; clear hba0
                      go_upto_region 23 with (fail)
                      refine wp_region_seq (kss := [[], [], [(1, 102)], [(0, 101), (2, 103)], [(3, 104)], [(4, 105)], [(4, 105), (5, 106)], [(4, 105), (6, 107)], [(4, 105), (7, 108)], [(4, 105)], [(4, 105), (8, 109), (9, 110)], [(4, 105), (10, 111)], [(4, 105)], [(4, 105), (11, 112), (12, 113)], [(4, 105), (13, 114)], [(4, 105), (14, 115)], [(4, 105), (15, 116)], [(4, 105), (16, 117)]]) [(8, .int .i64 ((S4.b i : Int))), (0, .pointer (some ⟨p, 0, none⟩)), (7, .int .i64 ((i : Int))), (9, .int .i64 ((j : Int)))] [EV (.int .i64 ((S4.b i : Int))), EV (.pointer (some ⟨p, 0, none⟩)), EV (.int .i64 (((n + m : Nat) : Int))), EV (.bool true), EV (.bool true), EV (.pointer (some ⟨p, 0, none⟩)), EV (.pointer (some ⟨p, 0, none⟩)), EV (.pointer (some ⟨p, 2, none⟩)), EV (.slice (some ⟨gr, 0, none⟩) m cr), EV (.int .i64 ((i : Int))), EV (.pointer (some (Addr.add ⟨gr, 0, none⟩ i))), EV (.slice (some (⟨rs4 i, 0, none⟩)) N N), EV (.int .i64 ((j : Int))), EV (.pointer (some (Addr.add (⟨rs4 i, 0, none⟩) (j * 3)))), Rv (b) ((S4.T i) j), EV (.int .i64 (((S4.T i) j).num.sign)), EV (.bool false), EV (.bool false)] (by kernel_rfl) ⟨rfl, rfl, rfl, rfl, trivial⟩ ?_ ?_ ?_
                      · exact ⟨eI, eI, eI, eI, eI, eI, eI, eI, eI, eI, eI, eI, eI, eI, fun _ _ _ h hb => h.new hb, eI, eI, eI, trivial⟩
                      · refine ⟨?_, ?_, ?_, ?_, ?_, ?_, ?_, ?_, ?_, ?_, ?_, ?_, ?_, ?_, ?_, ?_, ?_, ?_, trivial⟩
                        · exact fun _ _ _ he hd => ob_mv rfl rfl he.1
                        · exact fun _ _ _ he hd => ob_mv rfl rfl he.2.1
                        · exact fun aa ww hb he hd => ob_plain rfl (gives_call1 _ _ _ rfl (by kernel_rfl) (by rw [show aa.eval (.tmp 102) = .pointer (some ⟨p, 0, none⟩) from hd.1]; exact rv_one (artificial_any (TabW.new HT.out hb).blk (by omega) (by omega))))
                        · exact fun aa ww hb he hd => ob_plain rfl (gives_eq_int ((S4.b i : Int)) (((n + m : Nat) : Int)) .i64 _ _ _ _ rfl hd.1 hd.2.1 ⟨congrArg Value.bool (hba), Below.refl _ _⟩)
                        · exact fun _ _ _ he hd => ob_mv rfl rfl hd.1
                        · exact fun aa ww hb he hd => ob_on 105 rfl (by kernel_rfl) hd.1 (gives_move _ rfl ⟨he.2.1, Below.refl _ _⟩)
                        · exact fun aa ww hb he hd => ob_on 105 rfl (by kernel_rfl) hd.1 (nil_c rfl hd.2.1)
                        · exact fun aa ww hb he hd => ob_on 105 rfl (by kernel_rfl) hd.1 (fld_tab rfl (by decide) hd.2.1)
                        · exact fun aa ww hb he hd => ob_on 105 rfl (by kernel_rfl) hd.1 (load_c29 rfl hd.2.1 (TabW.new HT.out hb).c2)
                        · exact fun aa ww hb he hd => ob_on 105 rfl (by kernel_rfl) hd.1 (gives_move _ rfl ⟨he.2.2.1, Below.refl _ _⟩)
                        · exact fun aa ww hb he hd => ob_on 105 rfl (by kernel_rfl) hd.1 (idx_rws (by omega) rfl hd.2.1 hd.2.2.1)
                        · exact fun aa ww hb he hd => ob_on 105 rfl (by kernel_rfl) hd.1 (load_c28 rfl hd.2.1 ((TabW.new HT.out hb).rcell (by omega)))
                        · exact fun aa ww hb he hd => ob_on 105 rfl (by kernel_rfl) hd.1 (gives_move _ rfl ⟨he.2.2.2.1, Below.refl _ _⟩)
                        · exact fun aa ww hb he hd => ob_on 105 rfl (by kernel_rfl) hd.1 (idx_rs (by omega) rfl hd.2.1 hd.2.2.1)
                        · exact fun aa ww hb he hd => ob_on 105 rfl (by kernel_rfl) hd.1 (load_rn rfl hd.2.1 (Rs.of_rb ((TabW.new HT.out hb).row (by omega))) (by omega))
                        · exact fun aa ww hb he hd => ob_on 105 rfl (by kernel_rfl) hd.1 (gives_call1 _ _ _ rfl (by kernel_rfl) (sign_v (hd.2.1.rw)))
                        · exact fun aa ww hb he hd => ob_on 105 rfl (by kernel_rfl) hd.1 (gives_ne_int (((S4.T i) j).num.sign) 0 .i64 _ _ _ _ rfl hd.2.1 rfl ⟨congrArg Value.bool (hs), Below.refl _ _⟩)
                        · exact fun aa ww hb he hd => ob_plain rfl (gives_pick true _ _ _ rfl hd.1 ⟨hd.2.1, Below.refl _ _⟩)
                      intro vs wb hb hR
                      have e118 : vs 17 = .bool false := hR 17 (by decide)
                      clear hR
                      simp only [putsL, Nat.zero_add, Nat.reduceAdd, List.take_succ_cons, List.take_zero, Act.put, List.setIfInBounds_toArray, List.set_cons_zero, List.set_cons_succ]
                      rw [e118]
                      clear e118
                      go_wp2_with fail
                      go_roundg (gk - 1)
                      case measure => omega
                      case rel => exact ⟨j + 1, by go_num, by omega, Lib.hid ⟨fun h l hl => by
                        by_cases hlj : l = j
                        · rw [hlj]; exact HZ0.out
                        · exact HZ.out h l (by omega), HT.out.new hb, HB.out.trans (hb.mono HT.out.low.2.1)⟩⟩
                    · have hs : ((S4.T i j).num.sign != 0) = true := bne_of (sign_ne hz)
                      have hne : S4.T i j ≠ 0 := hz
                      have HBA := Lib.hid hba0; clear hba0
                      have HPv := Lib.hid (HD.out.piv hi HBA.out hj hne)
                      have HFp := Lib.hid (HF.out hm0 _ HPv.out.canon HPv.out.e1 HPv.out.e2)
                      have HDr := Lib.hid (drive_at HBA.out hj hne (HZ.out HBA.out))
                      go_upto_region 23 with (fail)
                      refine wp_region_seq (kss := [[], [], [(1, 102)], [(0, 101), (2, 103)], [(3, 104)], [(4, 105)], [(4, 105), (5, 106)], [(4, 105), (6, 107)], [(4, 105), (7, 108)], [(4, 105)], [(4, 105), (8, 109), (9, 110)], [(4, 105), (10, 111)], [(4, 105)], [(4, 105), (11, 112), (12, 113)], [(4, 105), (13, 114)], [(4, 105), (14, 115)], [(4, 105), (15, 116)], [(4, 105), (16, 117)]]) [(8, .int .i64 ((S4.b i : Int))), (0, .pointer (some ⟨p, 0, none⟩)), (7, .int .i64 ((i : Int))), (9, .int .i64 ((j : Int)))] [EV (.int .i64 ((S4.b i : Int))), EV (.pointer (some ⟨p, 0, none⟩)), EV (.int .i64 (((n + m : Nat) : Int))), EV (.bool true), EV (.bool true), EV (.pointer (some ⟨p, 0, none⟩)), EV (.pointer (some ⟨p, 0, none⟩)), EV (.pointer (some ⟨p, 2, none⟩)), EV (.slice (some ⟨gr, 0, none⟩) m cr), EV (.int .i64 ((i : Int))), EV (.pointer (some (Addr.add ⟨gr, 0, none⟩ i))), EV (.slice (some (⟨rs4 i, 0, none⟩)) N N), EV (.int .i64 ((j : Int))), EV (.pointer (some (Addr.add (⟨rs4 i, 0, none⟩) (j * 3)))), Rv (b) ((S4.T i) j), EV (.int .i64 (((S4.T i) j).num.sign)), EV (.bool true), EV (.bool true)] (by kernel_rfl) ⟨rfl, rfl, rfl, rfl, trivial⟩ ?_ ?_ ?_
                      · exact ⟨eI, eI, eI, eI, eI, eI, eI, eI, eI, eI, eI, eI, eI, eI, fun _ _ _ h hb => h.new hb, eI, eI, eI, trivial⟩
                      · refine ⟨?_, ?_, ?_, ?_, ?_, ?_, ?_, ?_, ?_, ?_, ?_, ?_, ?_, ?_, ?_, ?_, ?_, ?_, trivial⟩
                        · exact fun _ _ _ he hd => ob_mv rfl rfl he.1
                        · exact fun _ _ _ he hd => ob_mv rfl rfl he.2.1
                        · exact fun aa ww hb he hd => ob_plain rfl (gives_call1 _ _ _ rfl (by kernel_rfl) (by rw [show aa.eval (.tmp 102) = .pointer (some ⟨p, 0, none⟩) from hd.1]; exact rv_one (artificial_any (TabW.new HT.out hb).blk (by omega) (by omega))))
                        · exact fun aa ww hb he hd => ob_plain rfl (gives_eq_int ((S4.b i : Int)) (((n + m : Nat) : Int)) .i64 _ _ _ _ rfl hd.1 hd.2.1 ⟨congrArg Value.bool (hba), Below.refl _ _⟩)
                        · exact fun _ _ _ he hd => ob_mv rfl rfl hd.1
                        · exact fun aa ww hb he hd => ob_on 105 rfl (by kernel_rfl) hd.1 (gives_move _ rfl ⟨he.2.1, Below.refl _ _⟩)
                        · exact fun aa ww hb he hd => ob_on 105 rfl (by kernel_rfl) hd.1 (nil_c rfl hd.2.1)
                        · exact fun aa ww hb he hd => ob_on 105 rfl (by kernel_rfl) hd.1 (fld_tab rfl (by decide) hd.2.1)
                        · exact fun aa ww hb he hd => ob_on 105 rfl (by kernel_rfl) hd.1 (load_c29 rfl hd.2.1 (TabW.new HT.out hb).c2)
                        · exact fun aa ww hb he hd => ob_on 105 rfl (by kernel_rfl) hd.1 (gives_move _ rfl ⟨he.2.2.1, Below.refl _ _⟩)
                        · exact fun aa ww hb he hd => ob_on 105 rfl (by kernel_rfl) hd.1 (idx_rws (by omega) rfl hd.2.1 hd.2.2.1)
                        · exact fun aa ww hb he hd => ob_on 105 rfl (by kernel_rfl) hd.1 (load_c28 rfl hd.2.1 ((TabW.new HT.out hb).rcell (by omega)))
                        · exact fun aa ww hb he hd => ob_on 105 rfl (by kernel_rfl) hd.1 (gives_move _ rfl ⟨he.2.2.2.1, Below.refl _ _⟩)
                        · exact fun aa ww hb he hd => ob_on 105 rfl (by kernel_rfl) hd.1 (idx_rs (by omega) rfl hd.2.1 hd.2.2.1)
                        · exact fun aa ww hb he hd => ob_on 105 rfl (by kernel_rfl) hd.1 (load_rn rfl hd.2.1 (Rs.of_rb ((TabW.new HT.out hb).row (by omega))) (by omega))
                        · exact fun aa ww hb he hd => ob_on 105 rfl (by kernel_rfl) hd.1 (gives_call1 _ _ _ rfl (by kernel_rfl) (sign_v (hd.2.1.rw)))
                        · exact fun aa ww hb he hd => ob_on 105 rfl (by kernel_rfl) hd.1 (gives_ne_int (((S4.T i) j).num.sign) 0 .i64 _ _ _ _ rfl hd.2.1 rfl ⟨congrArg Value.bool (hs), Below.refl _ _⟩)
                        · exact fun aa ww hb he hd => ob_plain rfl (gives_pick true _ _ _ rfl hd.1 ⟨hd.2.1, Below.refl _ _⟩)
                      intro vs wb hb hR
                      have e118 : vs 17 = .bool true := hR 17 (by decide)
                      clear hR
                      simp only [putsL, Nat.zero_add, Nat.reduceAdd, List.take_succ_cons, List.take_zero, Act.put, List.setIfInBounds_toArray, List.set_cons_zero, List.set_cons_succ]
                      rw [e118]
                      clear e118
                      have HTb := Lib.hid (HT.out.new hb)
                      have HBb := Lib.hid (show Below base w wb from HB.out.trans (hb.mono HT.out.low.2.1))
                      clear hb HT HB
                      go_wp2_with (go_at_call 90; refine (pivot_any base p n m N b gg4 gr cr gb cb i j rs4 S4 wb HTb.out hi (by omega) hN2 hb0 hb1 hne HFp.out.1 HFp.out.2).mono ?_; rintro e wd ⟨ggd, rsd, rfl, hTd, hBd⟩; have HTd := Lib.hid hTd; have HBd := Lib.hid (HBb.out.trans hBd); clear hTd hBd)
                      go_roundg (G - 1)
                      case measure => omega
                      case rel => exact ⟨i + 1, ggd, rsd, by go_num, by omega, Lib.hid (by
                        rw [show driveN (n + m) S3 (i + 1) = S4.piv i j from by
                          show drive (n + m) (driveN (n + m) S3 i) i = _
                          rw [← HS4.out]; exact HDr.out]
                        exact ⟨HPv.out, HTd.out, HBd.out⟩)⟩
                  · have hba : (((S4.b i : Nat) : Int) == ((n + m : Nat) : Int)) = false := beq_false_of_ne (by omega)
                    have HBA := Lib.hid hba0; clear hba0
                    go_upto_region 23 with (fail)
                    refine wp_region_seq (kss := [[], [], [(1, 102)], [(0, 101), (2, 103)], [(3, 104)], [(4, 105)], [(4, 105), (5, 106)], [(4, 105), (6, 107)], [(4, 105), (7, 108)], [(4, 105)], [(4, 105), (8, 109), (9, 110)], [(4, 105), (10, 111)], [(4, 105)], [(4, 105), (11, 112), (12, 113)], [(4, 105), (13, 114)], [(4, 105), (14, 115)], [(4, 105), (15, 116)], [(4, 105), (16, 117)]]) [(8, .int .i64 ((S4.b i : Int))), (0, .pointer (some ⟨p, 0, none⟩)), (7, .int .i64 ((i : Int))), (9, .int .i64 ((j : Int)))] [EV (.int .i64 ((S4.b i : Int))), EV (.pointer (some ⟨p, 0, none⟩)), EV (.int .i64 (((n + m : Nat) : Int))), EV (.bool false), EV (.bool false), EV (undef), EV (undef), EV (undef), EV (undef), EV (undef), EV (undef), EV (undef), EV (undef), EV (undef), EV (undef), EV (undef), EV (undef), EV (.bool false)] (by kernel_rfl) ⟨rfl, rfl, rfl, rfl, trivial⟩ ?_ ?_ ?_
                    · exact ⟨eI, eI, eI, eI, eI, eI, eI, eI, eI, eI, eI, eI, eI, eI, eI, eI, eI, eI, trivial⟩
                    · refine ⟨?_, ?_, ?_, ?_, ?_, ?_, ?_, ?_, ?_, ?_, ?_, ?_, ?_, ?_, ?_, ?_, ?_, ?_, trivial⟩
                      · exact fun _ _ _ he hd => ob_mv rfl rfl he.1
                      · exact fun _ _ _ he hd => ob_mv rfl rfl he.2.1
                      · exact fun aa ww hb he hd => ob_plain rfl (gives_call1 _ _ _ rfl (by kernel_rfl) (by rw [show aa.eval (.tmp 102) = .pointer (some ⟨p, 0, none⟩) from hd.1]; exact rv_one (artificial_any (TabW.new HT.out hb).blk (by omega) (by omega))))
                      · exact fun aa ww hb he hd => ob_plain rfl (gives_eq_int ((S4.b i : Int)) (((n + m : Nat) : Int)) .i64 _ _ _ _ rfl hd.1 hd.2.1 ⟨congrArg Value.bool (hba), Below.refl _ _⟩)
                      · exact fun _ _ _ he hd => ob_mv rfl rfl hd.1
                      · exact fun aa ww hb he hd => ob_off 105 rfl (by kernel_rfl) hd.1 rfl
                      · exact fun aa ww hb he hd => ob_off 105 rfl (by kernel_rfl) hd.1 rfl
                      · exact fun aa ww hb he hd => ob_off 105 rfl (by kernel_rfl) hd.1 rfl
                      · exact fun aa ww hb he hd => ob_off 105 rfl (by kernel_rfl) hd.1 rfl
                      · exact fun aa ww hb he hd => ob_off 105 rfl (by kernel_rfl) hd.1 rfl
                      · exact fun aa ww hb he hd => ob_off 105 rfl (by kernel_rfl) hd.1 rfl
                      · exact fun aa ww hb he hd => ob_off 105 rfl (by kernel_rfl) hd.1 rfl
                      · exact fun aa ww hb he hd => ob_off 105 rfl (by kernel_rfl) hd.1 rfl
                      · exact fun aa ww hb he hd => ob_off 105 rfl (by kernel_rfl) hd.1 rfl
                      · exact fun aa ww hb he hd => ob_off 105 rfl (by kernel_rfl) hd.1 rfl
                      · exact fun aa ww hb he hd => ob_off 105 rfl (by kernel_rfl) hd.1 rfl
                      · exact fun aa ww hb he hd => ob_off 105 rfl (by kernel_rfl) hd.1 rfl
                      · exact fun aa ww hb he hd => ob_plain rfl (gives_pick false _ _ _ rfl hd.1 ⟨rfl, Below.refl _ _⟩)
                    intro vs wb hb hR
                    have e118 : vs 17 = .bool false := hR 17 (by decide)
                    clear hR
                    simp only [putsL, Nat.zero_add, Nat.reduceAdd, List.take_succ_cons, List.take_zero, Act.put, List.setIfInBounds_toArray, List.set_cons_zero, List.set_cons_succ]
                    rw [e118]
                    clear e118
                    go_wp2_with fail
                    go_roundg (gk - 1)
                    case measure => omega
                    case rel => exact ⟨j + 1, by go_num, by omega, Lib.hid ⟨fun h => absurd h HBA.out, HT.out.new hb, HB.out.trans (hb.mono HT.out.low.2.1)⟩⟩
                · obtain rfl : j = n + m := by omega
                  have hbne : S4.b i ≠ n + m := fun h => by
                    obtain ⟨l, hl, hne⟩ := art_other HD.out.canon HD.out.e1 hi h
                    exact hne (HZ.out h l hl)
                  have HBN := Lib.hid hbne; clear hbne
                  go_wp2_with fail
                  go_roundg (G - 1)
                  case measure => omega
                  case rel => exact ⟨i + 1, gg4, rs4, by go_num, by omega, Lib.hid (by
                    rw [show driveN (n + m) S3 (i + 1) = S4 from by
                      show drive (n + m) (driveN (n + m) S3 i) i = _
                      rw [← HS4.out]; exact drive_no HBN.out]
                    exact ⟨HD.out.skip HBN.out, HT.out, HB.out⟩)⟩
            · obtain rfl : m = i := by omega
              go_wp2_with fail
              go_ret
              exact ⟨true, S4, rs4, rfl, .inr ⟨r, K, S3, z9, t9, HW.out, HRun.out, HEnd.out, .inr ⟨by grind, rfl, HS4.out⟩⟩, HB.out, .inl ⟨rfl, _, _, _, HT.out.to0⟩⟩
end Go.Proofs.Ytpnklmgfdihjfaa
namespace Go.Proofs.Ytpnklmgfdihjfaa
open Go.RowKit
set_option linter.unusedVariables false
set_option linter.unusedSimpArgs false

theorem run_bound (i y : Nat) (code : BoundsCode) (w : World) (h : i ≤ y) (hy : y ≤ 1000) : (Instr.sliceBound (.int .i64 (i : Int)) y code).run Try.prog w = .ok i w := by
  unfold Instr.sliceBound
  have i1 : (i : Int) ≤ (y : Int) := by omega
  have i3 : (0 : Int) ≤ (i : Int) := by omega
  go_simp
  try (simp; omega)
theorem gives_sub {o : Oper} {a : Act} {w : World} {t x y : Tmp} {gg N lo hi : Nat} (ho : o.op = .slice 28 (.tmp t) (some (.tmp x)) (some (.tmp y)) none) (e : tv a t = .slice (some ⟨gg, 0, none⟩) N N) (ex : tv a x = .int .i64 (lo : Int)) (ey : tv a y = .int .i64 (hi : Int)) (h1 : lo ≤ hi) (h2 : hi ≤ N) (h3 : lo < N) (hN : N ≤ 1000) :
    gives Try.prog o a.eval w (fun v w' => v = .slice (some ⟨gg, lo * 3, none⟩) (hi - lo) (N - lo) ∧ Below w.heap.size w w') := by
  refine gives_val (.slice (some ⟨gg, lo * 3, none⟩) (hi - lo) (N - lo)) ?_ ⟨rfl, Below.refl _ _⟩
  have e' : a.eval (.tmp t) = .slice (some ⟨gg, 0, none⟩) N N := e
  have ex' : a.eval (.tmp x) = .int .i64 (lo : Int) := ex
  have ey' : a.eval (.tmp y) = .int .i64 (hi : Int) := ey
  have i1 : (lo : Int) ≤ (hi : Int) := by omega
  have i2 : (hi : Int) ≤ (N : Int) := by omega
  have i3 : (0 : Int) ≤ (lo : Int) := by omega
  have i4 : (lo : Int) ≤ (N : Int) := by omega
  unfold execOp
  rw [ho]
  simp only [e', ex', ey']
  simp only [Option.map_some, Option.map_none, ex', ey']
  have q1 := fun c => run_bound hi N c w h2 hN
  have q2 := fun c => run_bound lo hi c w h1 (by omega)
  go_simp
  intro h
  omega
/-- A part of a row. -/
theorem RB.sub {w : World} {g N lo k : Nat} {P : Nat → Value → Prop} (h : RB w g N P) (hk : lo + k ≤ N) : Rs w w.heap.size (some ⟨g, lo * 3, none⟩) k (fun j v => P (lo + j) v) := by
  obtain ⟨cs, h1, h2⟩ := h
  have hat : ∀ i, i < k * 3 → ((cs.toList.drop (lo * 3)).take (k * 3))[i]? = cs.toList[lo * 3 + i]? := by
    intro i hi
    rw [List.getElem?_take_of_lt hi, List.getElem?_drop]
  have hlen : ((cs.toList.drop (lo * 3)).take (k * 3)).length = k * 3 := by
    have := h2.1
    rw [List.length_take, List.length_drop]; omega
  refine ⟨(cs.toList.drop (lo * 3)).take (k * 3), ⟨hlen, fun _ => ⟨_, rfl, h1.lt, fun j u hu => ?_⟩⟩, hlen, fun j hj => ?_⟩
  · have hj : j < k * 3 := by
      rcases Nat.lt_or_ge j (k * 3) with h4 | h4
      · exact h4
      · rw [List.getElem?_eq_none (by omega)] at hu; cases hu
    rw [hat j hj] at hu
    have e : Addr.add ⟨g, lo * 3, none⟩ j = ⟨g, lo * 3 + j, none⟩ := by simp [Addr.add]
    rw [e, h1.cell]; simpa using hu
  · obtain ⟨s, A, k', c, B, m, d, q0, q1, q2, q3⟩ := h2.2 (lo + j) (by omega)
    refine ⟨s, A, k', c, B, m, d, ?_, ?_, ?_, q3⟩
    · rw [hat _ (by omega), ← q0]; congr 1; omega
    · rw [hat _ (by omega), ← q1]; congr 1; omega
    · rw [hat _ (by omega), ← q2]; congr 1; omega
section
variable {o : Oper} {a : Act} {w : World}
theorem copy_rat {d s : Operand} {g n dc sc : Nat} {ad : Addr} {P R : Nat → Value → Prop} {B : Nat} {K : Act → World → Prop} {Q : Exit → Act → World → Prop} (ho : o.op = .call { callee := .builtin .copy, args := #[d, s], argTypes := #[28, 28] })
    (hd : a.eval d = .slice (some ⟨g, 0, none⟩) n dc) (hs : a.eval s = .slice (some ad) n sc) (hr : RB w g n P) (hsrc : Rs w B (some ad) n R)
    (next : ∀ w', KeepsN w w' → w.grownBy w' (some g) → w'.heap.size = w.heap.size → (∀ R' : Nat → Value → Prop, (∀ i u, i < n → R i u → R' i u) → RB w' g n R') → K (a.put o.dst (goInt n)) w') : o.wp Try.prog a w K Q := by
  obtain ⟨cur, hg, hcl⟩ := hr
  obtain ⟨cs, ⟨hcs, hrd⟩, hrl⟩ := hsrc
  have hc : ∀ j v, cs[j]? = some v → w.cell? (ad.add j) = some v := by
    intro j v hj
    have hn : 0 < n := by
      rcases Nat.eq_zero_or_pos n with h0 | h0
      · subst h0
        have : cs = [] := List.length_eq_zero_iff.1 (by omega)
        rw [this] at hj; cases hj
      · exact h0
    obtain ⟨ad', e, hb, hc⟩ := hrd hn
    injection e with e
    subst e
    exact hc j v hj
  have hsz : cur.size = n * 3 := by have := hcl.1; simpa using this
  have hone : ∀ v ∈ cs, v.oneCell' = true := by
    intro v hv
    obtain ⟨i, hi⟩ := List.mem_iff_getElem?.1 hv
    have hil : i < n * 3 := by
      rcases Nat.lt_or_ge i cs.length with h4 | h4
      · omega
      · rw [List.getElem?_eq_none h4] at hi; cases hi
    obtain ⟨s', A', k', c', B', m', d', q0, q1, q2, _⟩ := hrl.2 (i / 3) (by omega)
    have : i = i / 3 * 3 ∨ i = i / 3 * 3 + 1 ∨ i = i / 3 * 3 + 2 := by omega
    rcases this with h5 | h5 | h5
    · rw [← h5, hi] at q0; injection q0 with q0; rw [q0]; rfl
    · rw [← h5, hi] at q1; injection q1 with q1; rw [q1]; rfl
    · rw [← h5, hi] at q2; injection q2 with q2; rw [q2]; rfl
  have hrun := run_copy_rat (w := w) o.type hg hsz hcs hc hone (dc := dc) (sc := sc)
  unfold Oper.wp
  simp only [execOp, ho, resolve, invoke, builtin, Sem.run_bind, Sem.run_pure, Result.andThen_ok, List.map_toArray, List.map_cons, List.map_nil, hd, hs, hrun]
  refine next _ ⟨by simp [World.setRow], fun p x hp => ?_⟩ ⟨rfl, rfl, rfl, by simp [World.setRow], fun k hk hne => setRow_other w g k _ (fun e => hne (by rw [e]))⟩ (by simp [World.setRow]) (fun R' hR => ⟨cs.toArray, setRow_heap w g cur _ _ _ hg, by simpa using hrl.mono (fun j v hj hv => hR j v hj hv)⟩)
  have hne : p.block ≠ g := by
    intro he
    have hh : w.heap[g]? = some (.cells cur 31 (0, 0)) := hg
    unfold World.cell? at hp
    rw [he, hh] at hp
    simp only at hp
    split at hp
    · cases hp
    · exact hcl.clean p.off x (by simpa using hp)
  have hblk : (w.setRow g cs.toArray).heap[p.block]? = w.heap[p.block]? := setRow_other w g p.block _ hne
  exact (World.cell?_of_block hblk).trans hp
end
theorem gives_sub2 {o : Oper} {a : Act} {w : World} {t x y : Tmp} {gg N lo k : Nat} (ho : o.op = .slice 28 (.tmp t) (some (.tmp x)) (some (.tmp y)) none) (e : tv a t = .slice (some ⟨gg, 0, none⟩) N N) (ex : tv a x = .int .i64 (lo : Int)) (ey : tv a y = .int .i64 ((lo + k : Nat) : Int)) (h2 : lo + k ≤ N) (h3 : lo < N) (hN : N ≤ 1000) :
    gives Try.prog o a.eval w (fun v w' => v = .slice (some ⟨gg, lo * 3, none⟩) k (N - lo) ∧ Below w.heap.size w w') := by
  have h := gives_sub (w := w) (hi := lo + k) ho e ex ey (by omega) h2 h3 hN
  rw [Nat.add_sub_cancel_left] at h
  exact h
set_option maxRecDepth 100000 in
set_option maxHeartbeats 8000000 in
theorem dual_any (base p n m N b gg cr cb : Nat) (Ar Ab : Option Addr) (rs : Nat → Nat) (S : Tab) (w : World) (hT : TabW base w p n m N b gg Ar cr Ab cb rs S) (hN2 : N ≤ 1000) (hb0 : b ≤ 1000) (hb2 : 2 ≤ b) :
    Calls Try.prog 66 #[.pointer (some ⟨p, 0, none⟩)] w (RowX m b (fun j => S.G (n + j)) w) := by
  have HNn := Lib.hid hT.low.2.2
  have HT0 := Lib.hid hT; clear hT
  have hmm : m ≤ 1000 := by have := HNn.out; omega
  have hnm : n ≤ 1000 := by have := HNn.out; omega
  have hsN : n + m < N := by have := HNn.out; omega
  have c1 := HT0.out.c1; have pl := HT0.out.blk.lt
  go_enter Try.func66, Try.ntmps66
  go_upto_region 2 with (go_at_call 88; refine (zeros_any m hmm w).mono ?_; rintro e w1 ⟨g2, rfl, hg2, hz2, hb1⟩)
  clear c1 pl
  have HB1 := Lib.hid hb1
  have HG := Lib.hid hg2
  have HZ := Lib.hid hz2
  clear hz2 hg2 hb1
  have HT := Lib.hid (HT0.out.new HB1.out)
  refine wp_region_join (kss := [[], [], [(1, 10)], [(2, 11)], [(3, 12)], [], [(5, 14)], [(6, 15)], [(7, 16)], [], [(9, 18)], [(10, 19)], [(11, 20)], [], [(13, 22)], [(14, 23)], [(15, 24)], [(12, 21), (16, 25)], [(4, 13), (8, 17), (17, 26)]]) [(3, .slice (some (⟨g2, 0, none⟩)) m m), (0, .pointer (some ⟨p, 0, none⟩))] [EV (.slice (some (⟨g2, 0, none⟩)) m m), EV (.pointer (some ⟨p, 0, none⟩)), EV (.pointer (some ⟨p, 0, none⟩)), EV (.pointer (some ⟨p, 3, none⟩)), EV (.slice (some (⟨gg, 0, none⟩)) N N), EV (.pointer (some ⟨p, 0, none⟩)), EV (.pointer (some ⟨p, 0, none⟩)), EV (.pointer (some ⟨p, 0, none⟩)), EV (.int .i64 ((n : Int))), EV (.pointer (some ⟨p, 0, none⟩)), EV (.pointer (some ⟨p, 0, none⟩)), EV (.pointer (some ⟨p, 0, none⟩)), EV (.int .i64 ((n : Int))), EV (.pointer (some ⟨p, 0, none⟩)), EV (.pointer (some ⟨p, 0, none⟩)), EV (.pointer (some ⟨p, 1, none⟩)), EV (.int .i64 ((m : Int))), EV (.int .i64 (((n + m : Nat) : Int))), EV (.slice (some (⟨gg, n * 3, none⟩)) m (N - n))] 19 [] (by kernel_rfl) (by kernel_rfl) ⟨rfl, rfl, trivial⟩ [false, false, false, false, false, false, false, false, false, false, false, false, false, false, false, false, false, false, false] ?_ ?_ ?_ ?_
  · exact fun i hi => absurd hi (by simp)
  · exact ⟨eI, eI, eI, eI, eI, eI, eI, eI, eI, eI, eI, eI, eI, eI, eI, eI, eI, eI, eI, trivial⟩
  · refine ⟨?_, ?_, ?_, ?_, ?_, ?_, ?_, ?_, ?_, ?_, ?_, ?_, ?_, ?_, ?_, ?_, ?_, ?_, ?_, trivial⟩
    · exact fun _ _ _ he hd => ob_mv rfl rfl he.1
    · exact fun _ _ _ he hd => ob_mv rfl rfl he.2.1
    · exact fun aa ww hb he hd => ob_plain rfl (nil_c rfl hd.1)
    · exact fun aa ww hb he hd => ob_plain rfl (fld_tab rfl (by decide) hd.1)
    · exact fun aa ww hb he hd => ob_plain rfl (load_c28 rfl hd.1 (TabW.new HT.out hb).c3)
    · exact fun _ _ _ he hd => ob_mv rfl rfl he.2.1
    · exact fun aa ww hb he hd => ob_plain rfl (nil_c rfl hd.1)
    · exact fun aa ww hb he hd => ob_plain rfl (fld_tab rfl (by decide) hd.1)
    · exact fun aa ww hb he hd => ob_plain rfl (load_c3 rfl hd.1 (TabW.new HT.out hb).c0)
    · exact fun _ _ _ he hd => ob_mv rfl rfl he.2.1
    · exact fun aa ww hb he hd => ob_plain rfl (nil_c rfl hd.1)
    · exact fun aa ww hb he hd => ob_plain rfl (fld_tab rfl (by decide) hd.1)
    · exact fun aa ww hb he hd => ob_plain rfl (load_c3 rfl hd.1 (TabW.new HT.out hb).c0)
    · exact fun _ _ _ he hd => ob_mv rfl rfl he.2.1
    · exact fun aa ww hb he hd => ob_plain rfl (nil_c rfl hd.1)
    · exact fun aa ww hb he hd => ob_plain rfl (fld_tab rfl (by decide) hd.1)
    · exact fun aa ww hb he hd => ob_plain rfl (load_c3 rfl hd.1 (TabW.new HT.out hb).c1)
    · exact fun aa ww hb he hd => ob_plain rfl (gives_add_nat n m (n + m) rfl hd.1 hd.2.1 (by first | rfl | omega) (by omega))
    · exact fun aa ww hb he hd => ob_plain rfl (gives_sub2 rfl hd.1 hd.2.1 hd.2.2.1 (by omega) (by omega) hN2)
  intro vs w4 hb hR _
  have e9 : vs 0 = .slice (some (⟨g2, 0, none⟩)) m m := hR 0 (by decide)
  have e27 : vs 18 = .slice (some (⟨gg, n * 3, none⟩)) m (N - n) := hR 18 (by decide)
  clear hR
  simp only [putsL, Nat.zero_add, Nat.reduceAdd, List.take_succ_cons, List.take_zero, Act.put, List.setIfInBounds_toArray, List.set_cons_zero, List.set_cons_succ]
  rw [e9, e27]
  clear e9 e27
  have hk : n + m ≤ N := by omega
  show wpAny _ _ _ _ 1 _ _ _
  refine wpAny_next (i := 19) (by kernel_rfl) rfl rfl (copy_rat rfl rfl rfl (HZ.out.newN hb) ((HT.out.new hb).goal.sub hk) ?_)
  intro wa kp hg hsz hR
  have HRa := Lib.hid (hR (PN wa b (fun j => S.G (n + j))) (fun j v _ hv => by
    have h' : Rv b (S.G (n + j)) v w4 := hv
    exact h'.keepN kp))
  have HBa := Lib.hid (show Below w.heap.size w wa from (bthen HB1.out hb HB1.out.size).grown hg (bthen HB1.out hb HB1.out.size).size (fun x hx => by cases hx; exact HG.out))
  clear hb kp hg hsz hR HT HZ HB1
  refine wpAny_end (by kernel_rfl) (calm_normal ?_) _
  go_wp2_with fail
  go_ret
  exact ⟨g2, rfl, HG.out, HRa.out, HBa.out⟩
end Go.Proofs.Ytpnklmgfdihjfaa
