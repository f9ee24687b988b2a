/-
Contracts of point and ray. Regions printed by gen/sx.py.
Plain: what the end of a run of the simplex method proves.
Plain: what Solve computes, as a relation with one result; its certificate; how great its numbers are.
Plain: what certificates of linear programs say of each other.
Plain: fractional edge covers. Weak duality; the program's linear program; what the certificate says.
A map from uint32 to bool that the call makes: it holds true for each of its keys.
-/
import Derived.Test.YtpnklmgfdihjfaaK8
import Derived.Test.YtpnklmgfdihjfaaK6
import Derived.MapKept
namespace Go.Proofs.Ytpnklmgfdihjfaa
open Go.RowKit
set_option linter.unusedVariables false
set_option linter.unusedSimpArgs false

/-- A row of n normal Rats in a block of its own is answered. -/
def RowX (n b : Nat) (x : Nat → Rat) (w : World) (e : Ending) (w' : World) : Prop := ∃ g : Nat, e = .returned (.slice (some ⟨g, 0, none⟩) n n) ∧ w.heap.size ≤ g ∧ RB w' g n (PN w' b x) ∧ Below w.heap.size w w'
/-- The values h i of the basic columns among the first n, over what x holds. -/
def basX (S : Tab) (h : Nat → Rat) (x : Nat → Rat) (n : Nat) : Nat → Nat → Rat
  | 0, j => x j
  | i + 1, j => if S.b i < n ∧ j = S.b i then h i else basX S h x n i j
theorem basX_ne {S : Tab} {h x : Nat → Rat} {n i j : Nat} (hne : j ≠ S.b i) : basX S h x n (i + 1) j = basX S h x n i j := if_neg (fun hh => hne hh.2)
theorem basX_self {S : Tab} {h x : Nat → Rat} {n i : Nat} (hb : S.b i < n) : basX S h x n (i + 1) (S.b i) = h i := if_pos ⟨hb, rfl⟩
theorem basX_skip {S : Tab} {h x : Nat → Rat} {n i : Nat} (hb : ¬ S.b i < n) : basX S h x n (i + 1) = basX S h x n i := by funext j; exact if_neg (fun hh => hb hh.1)
set_option maxRecDepth 100000 in
set_option maxHeartbeats 8000000 in
theorem point_any (base p n m N b gg cr cb : Nat) (Ar Ab : Option Addr) (rs : Nat → Nat) (S : Tab) (w : World) (hT : TabW base w p n m N b gg Ar cr Ab cb rs S) (hN2 : N ≤ 1000) (hb0 : b ≤ 1000) (hb2 : 2 ≤ b) :
    Calls Try.prog 69 #[.pointer (some ⟨p, 0, none⟩)] w (RowX n b (basX S (fun i => S.T i (n + m + 1)) (fun _ => 0) n m) w) := by
  have HNn := Lib.hid hT.low.2.2
  have HT0 := Lib.hid hT; clear hT
  have hmm : m ≤ 1000 := by have := HNn.out; omega
  have hnm : n ≤ 1000 := by have := HNn.out; omega
  have hRN : n + m + 1 < N := by have := HNn.out; omega
  have c0 := HT0.out.c0; have pl := HT0.out.blk.lt
  go_enter Try.func69, Try.ntmps69
  go_upto_region 2 with (go_at_call 88; refine (zeros_any n hnm w).mono ?_; rintro e w1 ⟨g2, rfl, hg2, hz2, hb1⟩)
  clear c0 pl
  have HB1 := Lib.hid hb1
  have HG := Lib.hid hg2
  have HZ := Lib.hid (show RB w1 g2 n (PN w1 b (basX S (fun i => S.T i (n + m + 1)) (fun _ => 0) n 0)) from hz2.mono fun j v _ hv => Rv.more hv hb2)
  clear hz2 hg2 hb1
  have HT := Lib.hid (HT0.out.new HB1.out)
  have c4 := HT.out.c4; have pl := HT.out.blk.lt
  go_wp2_with fail
  clear c4 pl HT
  go_loopg [16] m (fun g iv wr => ∃ i : Nat, iv = .int .i64 i ∧ i + g = m ∧ Hid (RB wr g2 n (PN wr b (basX S (fun i => S.T i (n + m + 1)) (fun _ => 0) n i)) ∧ Below w.heap.size w wr))
  case atStart => exact ⟨0, rfl, by omega, Lib.hid ⟨HZ.out, HB1.out⟩⟩
  case round =>
    obtain ⟨i, rfl, him, HI⟩ := hrel
    clear HZ HB1
    by_cases hi : i < m
    · obtain ⟨⟨gr, rfl, -, -⟩, gb, rfl, -, -⟩ := HT0.out.some_ (by omega)
      have HR := Lib.hid HI.out.1
      have HB := Lib.hid HI.out.2
      clear HI
      have HT := Lib.hid (HT0.out.new HB.out)
      have bc := HT.out.bcell hi
      rw [addr_zero] at bc
      have c0 := HT.out.c0; have pl := HT.out.blk.lt
      have i1 : (0 : Int) ≤ (i : Int) := by omega
      have i2 : (i : Int) < (m : Int) := by omega
      by_cases hbn : S.b i < n
      · have i3 : ((S.b i : Int) < (n : Int)) := by omega
        go_upto_region 6 with (fail)
        clear bc c0 pl
        refine wp_region_join (kss := [[], [], [], [(2, 29)], [(3, 30)], [(4, 31)], [], [(5, 32), (6, 33)], [(7, 34)], [], [(9, 36)], [(8, 35), (10, 37)], [(11, 38)], [(0, 27), (1, 28)]]) [(3, .slice (some (⟨g2, 0, none⟩)) n n), (5, .int .i64 ((S.b i : Int))), (0, .pointer (some ⟨p, 0, none⟩)), (4, .int .i64 ((i : Int)))] [EV (.slice (some (⟨g2, 0, none⟩)) n n), EV (.int .i64 ((S.b i : Int))), EV (.pointer (some ⟨p, 0, none⟩)), EV (.pointer (some ⟨p, 0, none⟩)), EV (.pointer (some ⟨p, 2, none⟩)), EV (.slice (some ⟨gr, 0, none⟩) m cr), EV (.int .i64 ((i : Int))), EV (.pointer (some (Addr.add ⟨gr, 0, none⟩ i))), EV (.slice (some (⟨rs i, 0, none⟩)) N N), EV (.pointer (some ⟨p, 0, none⟩)), EV (.int .i64 (((n + m + 1 : Nat) : Int))), EV (.pointer (some (Addr.add (⟨rs i, 0, none⟩) ((n + m + 1) * 3)))), Rv (b) ((S.T i) (n + m + 1)), EV (.pointer (some (Addr.add (⟨g2, 0, none⟩) ((S.b i) * 3))))] 14 [] (by kernel_rfl) (by kernel_rfl) ⟨rfl, rfl, rfl, rfl, trivial⟩ [false, false, false, false, false, false, false, false, false, false, false, false, false, false] ?_ ?_ ?_ ?_
        · exact fun i hi => absurd hi (by simp)
        · exact ⟨eI, eI, eI, eI, eI, eI, eI, eI, eI, eI, eI, eI, fun _ _ _ h hb => h.new hb, eI, trivial⟩
        · refine ⟨?_, ?_, ?_, ?_, ?_, ?_, ?_, ?_, ?_, ?_, ?_, ?_, ?_, ?_, trivial⟩
          · exact fun _ _ _ he hd => ob_mv rfl rfl he.1
          · exact fun _ _ _ he hd => ob_mv rfl rfl he.2.1
          · exact fun _ _ _ he hd => ob_mv rfl rfl he.2.2.1
          · exact fun aa ww hb he hd => ob_plain rfl (nil_c rfl hd.1)
          · exact fun aa ww hb he hd => ob_plain rfl (fld_tab rfl (by decide) hd.1)
          · exact fun aa ww hb he hd => ob_plain rfl (load_c29 rfl hd.1 (TabW.new HT.out hb).c2)
          · exact fun _ _ _ he hd => ob_mv rfl rfl he.2.2.2.1
          · exact fun aa ww hb he hd => ob_plain rfl (idx_rws (by omega) rfl hd.1 hd.2.1)
          · exact fun aa ww hb he hd => ob_plain rfl (load_c28 rfl hd.1 ((TabW.new HT.out hb).rcell (by omega)))
          · exact fun _ _ _ he hd => ob_mv rfl rfl he.2.2.1
          · exact fun aa ww hb he hd => ob_plain rfl (gives_call1 _ _ _ rfl (by kernel_rfl) (by rw [show aa.eval (.tmp 36) = .pointer (some ⟨p, 0, none⟩) from hd.1]; exact rv_one (right_any (TabW.new HT.out hb).blk (by omega) (by omega))))
          · exact fun aa ww hb he hd => ob_plain rfl (idx_rs (by omega) rfl hd.1 hd.2.1)
          · exact fun aa ww hb he hd => ob_plain rfl (load_rn rfl hd.1 (Rs.of_rb ((TabW.new HT.out hb).row (by omega))) (by omega))
          · exact fun aa ww hb he hd => ob_plain rfl (idx_rs (by omega) rfl hd.1 hd.2.1)
        intro vs w4 hb hR _
        have e40 : vs 13 = .pointer (some (Addr.add (⟨g2, 0, none⟩) ((S.b i) * 3))) := hR 13 (by decide)
        have r39 : Rv (b) ((S.T i) (n + m + 1)) (vs 12) w4 := hR 12 (by decide)
        clear hR
        simp only [putsL, Nat.zero_add, Nat.reduceAdd, List.take_succ_cons, List.take_zero, Act.put, List.setIfInBounds_toArray, List.set_cons_zero, List.set_cons_succ]
        rw [e40]
        clear e40
        show wpAny _ _ _ _ 1 _ _ _
        refine wpAny_next (i := 14) (by kernel_rfl) rfl rfl (store_row (v := vs 12) (g := g2) (j := S.b i) (b := b) (x := S.T i (n + m + 1)) rfl rfl rfl rfl (HR.out.newN hb) hbn r39.rw ?_)
        intro wa kp hg hsz hRa
        have HRa := Lib.hid (hRa (PN wa b (basX S (fun i => S.T i (n + m + 1)) (fun _ => 0) n (i + 1))) (fun l u _ hne h => by
          have h' : Rv b (basX S (fun i => S.T i (n + m + 1)) (fun _ => 0) n i l) u w4 := h
          show Rv b (basX S (fun i => S.T i (n + m + 1)) (fun _ => 0) n (i + 1) l) u wa
          rw [basX_ne hne]; exact h'.keepN kp) (by
          show Rv b (basX S (fun i => S.T i (n + m + 1)) (fun _ => 0) n (i + 1) (S.b i)) _ wa
          rw [basX_self hbn]; exact r39.keepN kp))
        have HBa := Lib.hid (show Below w.heap.size w wa from (bthen HB.out hb HB.out.size).grown hg (bthen HB.out hb HB.out.size).size (fun x hx => by cases hx; exact HG.out))
        clear hb kp hg hsz hRa
        refine wpAny_end (by kernel_rfl) (calm_normal ?_) _
        go_wp2_with fail
        go_roundg (gk - 1)
        case measure => omega
        case rel => exact ⟨i + 1, by go_num, by omega, Lib.hid ⟨HRa.out, HBa.out⟩⟩
      · have i3 : ¬ ((S.b i : Int) < (n : Int)) := by omega
        go_wp2_with fail
        go_roundg (gk - 1)
        case measure => omega
        case rel => exact ⟨i + 1, by go_num, by omega, Lib.hid ⟨by rw [basX_skip hbn]; exact HR.out, HB.out⟩⟩
    · obtain rfl : m = i := by omega
      go_wp2_with fail
      go_ret
      exact ⟨g2, rfl, HG.out, HI.out.1, HI.out.2⟩
set_option maxRecDepth 100000 in
set_option maxHeartbeats 8000000 in
theorem ray_any (base p n m N b gg cr cb k : Nat) (Ar Ab : Option Addr) (rs : Nat → Nat) (S : Tab) (w : World) (hT : TabW base w p n m N b gg Ar cr Ab cb rs S) (hk : k < N) (hN2 : N ≤ 1000) (hb0 : b ≤ 1000) (hb2 : 2 ≤ b) :
    Calls Try.prog 70 #[.pointer (some ⟨p, 0, none⟩), .int .i64 k] w (RowX n b (basX S (fun i => -(S.T i k)) (fun j => if j = k then 1 else 0) n m) w) := by
  have HNn := Lib.hid hT.low.2.2
  have HT0 := Lib.hid hT; clear hT
  have hmm : m ≤ 1000 := by have := HNn.out; omega
  have hnm : n ≤ 1000 := by have := HNn.out; omega
  have c0 := HT0.out.c0; have pl := HT0.out.blk.lt
  go_enter Try.func70, Try.ntmps70
  go_upto_region 2 with (go_at_call 88; refine (zeros_any n hnm w).mono ?_; rintro e w1 ⟨g2, rfl, hg2, hz2, hb1⟩)
  clear c0 pl
  have HB1 := Lib.hid hb1
  have HG := Lib.hid hg2
  have HZ := Lib.hid hz2
  clear hz2 hg2 hb1
  have HT := Lib.hid (HT0.out.new HB1.out)
  have c0 := HT.out.c0; have pl := HT.out.blk.lt
  by_cases hkn : k < n
  · have k1 : ((k : Int) < (n : Int)) := by omega
    go_upto_region 3 with (fail)
    clear c0 pl
    refine wp_region_joins (kss := [[], [], [], [(0, 19), (1, 20)]]) [(5, .slice (some (⟨g2, 0, none⟩)) n n), (1, .int .i64 ((k : Int)))] [EV (.slice (some (⟨g2, 0, none⟩)) n n), EV (.int .i64 ((k : Int))), Rv (2) (((1 : Int) : Rat)), EV (.pointer (some (Addr.add (⟨g2, 0, none⟩) (k * 3))))] 4 (by kernel_rfl) ⟨rfl, rfl, trivial⟩ [false, false, false, false] ?_ ?_ ?_
    · exact ⟨eI, eI, fun _ _ _ h hb => h.new hb, eI, trivial⟩
    · refine ⟨?_, ?_, ?_, ?_, trivial⟩
      · exact fun _ _ _ he hd => ob_mv rfl rfl he.1
      · exact fun _ _ _ he hd => ob_mv rfl rfl he.2.1
      · exact fun aa ww hb he hd => ob_plain rfl (gives_call1 _ _ _ rfl (by kernel_rfl) (int_w (1) (by omega) (by omega) _ rfl _))
      · exact fun aa ww hb he hd => ob_plain rfl (idx_rs (by omega) rfl hd.1 hd.2.1)
    intro vs w4 hb hR
    have e22 : vs 3 = .pointer (some (Addr.add (⟨g2, 0, none⟩) (k * 3))) := hR 3 (by decide)
    have r21 : Rv (2) (((1 : Int) : Rat)) (vs 2) w4 := hR 2 (by decide)
    clear hR
    simp only [putsL, Nat.zero_add, Nat.reduceAdd, List.take_succ_cons, List.take_zero, Act.put, List.setIfInBounds_toArray, List.set_cons_zero, List.set_cons_succ]
    rw [e22]
    clear e22
    have r21w : Rw b 1 (vs 2) w4 := by
      have h := r21
      rw [show ((1 : Int) : Rat) = 1 from by simp] at h
      exact (Rv.more h hb2).rw
    show wpOps _ _ _ [4] _ _
    refine wpOps_next rfl rfl (store_row (v := vs 2) (g := g2) (j := k) (b := b) (x := 1) rfl rfl rfl rfl (HZ.out.newN hb) hkn r21w ?_)
    intro wb kp hg hsz hRa
    have HL := Lib.hid (And.intro (hRa (PN wb b (basX S (fun i => -(S.T i k)) (fun j => if j = k then 1 else 0) n 0)) (fun l u _ hne h => by
      have h' : Rv 2 0 u w4 := h
      show Rv b (if l = k then 1 else 0) u wb
      rw [if_neg hne]; exact (h'.keepN kp).more hb2) (by
      show Rv b (if k = k then 1 else 0) _ wb
      rw [if_pos rfl]
      have h := r21
      rw [show ((1 : Int) : Rat) = 1 from by simp] at h
      exact (Rv.more h hb2).keepN kp)) (show Below w.heap.size w wb from (bthen HB1.out hb HB1.out.size).grown hg (bthen HB1.out hb HB1.out.size).size (fun x hx => by cases hx; exact HG.out)))
    clear hb kp hg hsz hRa HT HZ HB1 r21 r21w
    show Exit.then _ _ _ _ _
    rw [addr_zero]
    have HT := Lib.hid (HT0.out.new HL.out.2)
    have c4 := HT.out.c4; have pl := HT.out.blk.lt
    go_wp2_with fail
    clear c4 pl HT
    go_loopg [28] m (fun g iv wr => ∃ i : Nat, iv = .int .i64 i ∧ i + g = m ∧ Hid (RB wr g2 n (PN wr b (basX S (fun i => -(S.T i k)) (fun j => if j = k then 1 else 0) n i)) ∧ Below w.heap.size w wr))
    case atStart => exact ⟨0, rfl, by omega, HL⟩
    case round =>
      obtain ⟨i, rfl, him, HI⟩ := hrel
      clear HL
      by_cases hi : i < m
      · obtain ⟨⟨gr, rfl, -, -⟩, gb, rfl, -, -⟩ := HT0.out.some_ (by omega)
        have HR := Lib.hid HI.out.1
        have HB := Lib.hid HI.out.2
        clear HI
        have HT := Lib.hid (HT0.out.new HB.out)
        have bc := HT.out.bcell hi
        rw [addr_zero] at bc
        have c0 := HT.out.c0; have pl := HT.out.blk.lt
        have i1 : (0 : Int) ≤ (i : Int) := by omega
        have i2 : (i : Int) < (m : Int) := by omega
        by_cases hbn : S.b i < n
        · have i3 : ((S.b i : Int) < (n : Int)) := by omega
          go_upto_region 8 with (fail)
          clear bc c0 pl
          refine wp_region_joins (kss := [[], [], [], [(2, 41)], [(3, 42)], [(4, 43)], [], [(5, 44), (6, 45)], [(7, 46)], [], [(8, 47), (9, 48)], [(10, 49)], [(11, 50)], [(0, 39), (1, 40)]]) [(5, .slice (some (⟨g2, 0, none⟩)) n n), (7, .int .i64 ((S.b i : Int))), (0, .pointer (some ⟨p, 0, none⟩)), (6, .int .i64 ((i : Int))), (1, .int .i64 ((k : Int)))] [EV (.slice (some (⟨g2, 0, none⟩)) n n), EV (.int .i64 ((S.b i : Int))), EV (.pointer (some ⟨p, 0, none⟩)), EV (.pointer (some ⟨p, 0, none⟩)), EV (.pointer (some ⟨p, 2, none⟩)), EV (.slice (some ⟨gr, 0, none⟩) m cr), EV (.int .i64 ((i : Int))), EV (.pointer (some (Addr.add ⟨gr, 0, none⟩ i))), EV (.slice (some (⟨rs i, 0, none⟩)) N N), EV (.int .i64 ((k : Int))), EV (.pointer (some (Addr.add (⟨rs i, 0, none⟩) (k * 3)))), Rv (b) ((S.T i) k), Rv (b) (-((S.T i) k)), EV (.pointer (some (Addr.add (⟨g2, 0, none⟩) ((S.b i) * 3))))] 14 (by kernel_rfl) ⟨rfl, rfl, rfl, rfl, rfl, trivial⟩ [false, false, false, false, false, false, false, false, false, false, false, false, false, false] ?_ ?_ ?_
          · exact ⟨eI, eI, eI, eI, eI, eI, eI, eI, eI, eI, eI, fun _ _ _ h hb => h.new hb, fun _ _ _ h hb => h.new hb, eI, trivial⟩
          · refine ⟨?_, ?_, ?_, ?_, ?_, ?_, ?_, ?_, ?_, ?_, ?_, ?_, ?_, ?_, trivial⟩
            · exact fun _ _ _ he hd => ob_mv rfl rfl he.1
            · exact fun _ _ _ he hd => ob_mv rfl rfl he.2.1
            · exact fun _ _ _ he hd => ob_mv rfl rfl he.2.2.1
            · exact fun aa ww hb he hd => ob_plain rfl (nil_c rfl hd.1)
            · exact fun aa ww hb he hd => ob_plain rfl (fld_tab rfl (by decide) hd.1)
            · exact fun aa ww hb he hd => ob_plain rfl (load_c29 rfl hd.1 (TabW.new HT.out hb).c2)
            · exact fun _ _ _ he hd => ob_mv rfl rfl he.2.2.2.1
            · exact fun aa ww hb he hd => ob_plain rfl (idx_rws (by omega) rfl hd.1 hd.2.1)
            · exact fun aa ww hb he hd => ob_plain rfl (load_c28 rfl hd.1 ((TabW.new HT.out hb).rcell (by omega)))
            · exact fun _ _ _ he hd => ob_mv rfl rfl he.2.2.2.2.1
            · exact fun aa ww hb he hd => ob_plain rfl (idx_rs (by omega) rfl hd.1 hd.2.1)
            · exact fun aa ww hb he hd => ob_plain rfl (load_rn rfl hd.1 (Rs.of_rb ((TabW.new HT.out hb).row (by omega))) (by omega))
            · exact fun aa ww hb he hd => ob_plain rfl (gives_call1 _ _ _ rfl (by kernel_rfl) (neg_v (hd.1.rw) (by omega)))
            · exact fun aa ww hb he hd => ob_plain rfl (idx_rs (by omega) rfl hd.1 hd.2.1)
          intro vs w4 hb hR
          have e52 : vs 13 = .pointer (some (Addr.add (⟨g2, 0, none⟩) ((S.b i) * 3))) := hR 13 (by decide)
          have r51 : Rv (b) (-((S.T i) k)) (vs 12) w4 := hR 12 (by decide)
          clear hR
          simp only [putsL, Nat.zero_add, Nat.reduceAdd, List.take_succ_cons, List.take_zero, Act.put, List.setIfInBounds_toArray, List.set_cons_zero, List.set_cons_succ]
          rw [e52]
          clear e52
          show wpOps _ _ _ [14] _ _
          refine wpOps_next rfl rfl (store_row (v := vs 12) (g := g2) (j := S.b i) (b := b) (x := -(S.T i k)) rfl rfl rfl rfl (HR.out.newN hb) hbn r51.rw ?_)
          intro wa kp hg hsz hRa
          have HRa := Lib.hid (hRa (PN wa b (basX S (fun i => -(S.T i k)) (fun j => if j = k then 1 else 0) n (i + 1))) (fun l u _ hne h => by
            have h' : Rv b (basX S (fun i => -(S.T i k)) (fun j => if j = k then 1 else 0) n i l) u w4 := h
            show Rv b (basX S (fun i => -(S.T i k)) (fun j => if j = k then 1 else 0) n (i + 1) l) u wa
            rw [basX_ne hne]; exact h'.keepN kp) (by
            show Rv b (basX S (fun i => -(S.T i k)) (fun j => if j = k then 1 else 0) n (i + 1) (S.b i)) _ wa
            rw [basX_self hbn]; exact r51.keepN kp))
          have HBa := Lib.hid (show Below w.heap.size w wa from (bthen HB.out hb HB.out.size).grown hg (bthen HB.out hb HB.out.size).size (fun x hx => by cases hx; exact HG.out))
          clear hb kp hg hsz hRa
          unfold wpOps
          go_wp2_with fail
          go_roundg (gk - 1)
          case measure => omega
          case rel => exact ⟨i + 1, by go_num, by omega, Lib.hid ⟨HRa.out, HBa.out⟩⟩
        · have i3 : ¬ ((S.b i : Int) < (n : Int)) := by omega
          go_wp2_with fail
          go_roundg (gk - 1)
          case measure => omega
          case rel => exact ⟨i + 1, by go_num, by omega, Lib.hid ⟨by rw [basX_skip hbn]; exact HR.out, HB.out⟩⟩
      · obtain rfl : m = i := by omega
        go_wp2_with fail
        go_ret
        exact ⟨g2, rfl, HG.out, HI.out.1, HI.out.2⟩
  · have k1 : ¬ ((k : Int) < (n : Int)) := by omega
    have HL := Lib.hid (And.intro (show RB w1 g2 n (PN w1 b (basX S (fun i => -(S.T i k)) (fun j => if j = k then 1 else 0) n 0)) from HZ.out.mono fun j v hj hv => by
      show Rv b (if j = k then 1 else 0) v w1
      rw [if_neg (by omega)]; exact Rv.more hv hb2) HB1.out)
    clear HZ HB1
    go_upto_region 4 with (fail)
    clear c0 pl HT
    have HT := Lib.hid (HT0.out.new HL.out.2)
    have c4 := HT.out.c4; have pl := HT.out.blk.lt
    go_wp2_with fail
    clear c4 pl HT
    go_loopg [28] m (fun g iv wr => ∃ i : Nat, iv = .int .i64 i ∧ i + g = m ∧ Hid (RB wr g2 n (PN wr b (basX S (fun i => -(S.T i k)) (fun j => if j = k then 1 else 0) n i)) ∧ Below w.heap.size w wr))
    case atStart => exact ⟨0, rfl, by omega, HL⟩
    case round =>
      obtain ⟨i, rfl, him, HI⟩ := hrel
      clear HL
      by_cases hi : i < m
      · obtain ⟨⟨gr, rfl, -, -⟩, gb, rfl, -, -⟩ := HT0.out.some_ (by omega)
        have HR := Lib.hid HI.out.1
        have HB := Lib.hid HI.out.2
        clear HI
        have HT := Lib.hid (HT0.out.new HB.out)
        have bc := HT.out.bcell hi
        rw [addr_zero] at bc
        have c0 := HT.out.c0; have pl := HT.out.blk.lt
        have i1 : (0 : Int) ≤ (i : Int) := by omega
        have i2 : (i : Int) < (m : Int) := by omega
        by_cases hbn : S.b i < n
        · have i3 : ((S.b i : Int) < (n : Int)) := by omega
          go_upto_region 8 with (fail)
          clear bc c0 pl
          refine wp_region_joins (kss := [[], [], [], [(2, 41)], [(3, 42)], [(4, 43)], [], [(5, 44), (6, 45)], [(7, 46)], [], [(8, 47), (9, 48)], [(10, 49)], [(11, 50)], [(0, 39), (1, 40)]]) [(5, .slice (some (⟨g2, 0, none⟩)) n n), (7, .int .i64 ((S.b i : Int))), (0, .pointer (some ⟨p, 0, none⟩)), (6, .int .i64 ((i : Int))), (1, .int .i64 ((k : Int)))] [EV (.slice (some (⟨g2, 0, none⟩)) n n), EV (.int .i64 ((S.b i : Int))), EV (.pointer (some ⟨p, 0, none⟩)), EV (.pointer (some ⟨p, 0, none⟩)), EV (.pointer (some ⟨p, 2, none⟩)), EV (.slice (some ⟨gr, 0, none⟩) m cr), EV (.int .i64 ((i : Int))), EV (.pointer (some (Addr.add ⟨gr, 0, none⟩ i))), EV (.slice (some (⟨rs i, 0, none⟩)) N N), EV (.int .i64 ((k : Int))), EV (.pointer (some (Addr.add (⟨rs i, 0, none⟩) (k * 3)))), Rv (b) ((S.T i) k), Rv (b) (-((S.T i) k)), EV (.pointer (some (Addr.add (⟨g2, 0, none⟩) ((S.b i) * 3))))] 14 (by kernel_rfl) ⟨rfl, rfl, rfl, rfl, rfl, trivial⟩ [false, false, false, false, false, false, false, false, false, false, false, false, false, false] ?_ ?_ ?_
          · exact ⟨eI, eI, eI, eI, eI, eI, eI, eI, eI, eI, eI, fun _ _ _ h hb => h.new hb, fun _ _ _ h hb => h.new hb, eI, trivial⟩
          · refine ⟨?_, ?_, ?_, ?_, ?_, ?_, ?_, ?_, ?_, ?_, ?_, ?_, ?_, ?_, trivial⟩
            · exact fun _ _ _ he hd => ob_mv rfl rfl he.1
            · exact fun _ _ _ he hd => ob_mv rfl rfl he.2.1
            · exact fun _ _ _ he hd => ob_mv rfl rfl he.2.2.1
            · exact fun aa ww hb he hd => ob_plain rfl (nil_c rfl hd.1)
            · exact fun aa ww hb he hd => ob_plain rfl (fld_tab rfl (by decide) hd.1)
            · exact fun aa ww hb he hd => ob_plain rfl (load_c29 rfl hd.1 (TabW.new HT.out hb).c2)
            · exact fun _ _ _ he hd => ob_mv rfl rfl he.2.2.2.1
            · exact fun aa ww hb he hd => ob_plain rfl (idx_rws (by omega) rfl hd.1 hd.2.1)
            · exact fun aa ww hb he hd => ob_plain rfl (load_c28 rfl hd.1 ((TabW.new HT.out hb).rcell (by omega)))
            · exact fun _ _ _ he hd => ob_mv rfl rfl he.2.2.2.2.1
            · exact fun aa ww hb he hd => ob_plain rfl (idx_rs (by omega) rfl hd.1 hd.2.1)
            · exact fun aa ww hb he hd => ob_plain rfl (load_rn rfl hd.1 (Rs.of_rb ((TabW.new HT.out hb).row (by omega))) (by omega))
            · exact fun aa ww hb he hd => ob_plain rfl (gives_call1 _ _ _ rfl (by kernel_rfl) (neg_v (hd.1.rw) (by omega)))
            · exact fun aa ww hb he hd => ob_plain rfl (idx_rs (by omega) rfl hd.1 hd.2.1)
          intro vs w4 hb hR
          have e52 : vs 13 = .pointer (some (Addr.add (⟨g2, 0, none⟩) ((S.b i) * 3))) := hR 13 (by decide)
          have r51 : Rv (b) (-((S.T i) k)) (vs 12) w4 := hR 12 (by decide)
          clear hR
          simp only [putsL, Nat.zero_add, Nat.reduceAdd, List.take_succ_cons, List.take_zero, Act.put, List.setIfInBounds_toArray, List.set_cons_zero, List.set_cons_succ]
          rw [e52]
          clear e52
          show wpOps _ _ _ [14] _ _
          refine wpOps_next rfl rfl (store_row (v := vs 12) (g := g2) (j := S.b i) (b := b) (x := -(S.T i k)) rfl rfl rfl rfl (HR.out.newN hb) hbn r51.rw ?_)
          intro wa kp hg hsz hRa
          have HRa := Lib.hid (hRa (PN wa b (basX S (fun i => -(S.T i k)) (fun j => if j = k then 1 else 0) n (i + 1))) (fun l u _ hne h => by
            have h' : Rv b (basX S (fun i => -(S.T i k)) (fun j => if j = k then 1 else 0) n i l) u w4 := h
            show Rv b (basX S (fun i => -(S.T i k)) (fun j => if j = k then 1 else 0) n (i + 1) l) u wa
            rw [basX_ne hne]; exact h'.keepN kp) (by
            show Rv b (basX S (fun i => -(S.T i k)) (fun j => if j = k then 1 else 0) n (i + 1) (S.b i)) _ wa
            rw [basX_self hbn]; exact r51.keepN kp))
          have HBa := Lib.hid (show Below w.heap.size w wa from (bthen HB.out hb HB.out.size).grown hg (bthen HB.out hb HB.out.size).size (fun x hx => by cases hx; exact HG.out))
          clear hb kp hg hsz hRa
          unfold wpOps
          go_wp2_with fail
          go_roundg (gk - 1)
          case measure => omega
          case rel => exact ⟨i + 1, by go_num, by omega, Lib.hid ⟨HRa.out, HBa.out⟩⟩
        · have i3 : ¬ ((S.b i : Int) < (n : Int)) := by omega
          go_wp2_with fail
          go_roundg (gk - 1)
          case measure => omega
          case rel => exact ⟨i + 1, by go_num, by omega, Lib.hid ⟨by rw [basX_skip hbn]; exact HR.out, HB.out⟩⟩
      · obtain rfl : m = i := by omega
        go_wp2_with fail
        go_ret
        exact ⟨g2, rfl, HG.out, HI.out.1, HI.out.2⟩
end Go.Proofs.Ytpnklmgfdihjfaa
namespace Go.Proofs.Ytpnklmgfdihjfaa
set_option linter.unusedVariables false

theorem sm_split (f : Nat → Rat) (a : Nat) : ∀ b, sm f (a + b) = sm f a + sm (fun k => f (a + k)) b
  | 0 => by show sm f a = sm f a + 0; grind
  | b + 1 => by
    show sm f (a + b) + f (a + b) = sm f a + (sm (fun k => f (a + k)) b + f (a + b))
    rw [sm_split f a b]; grind
theorem sm_neg (f : Nat → Rat) (n : Nat) : sm (fun i => - f i) n = - sm f n := by
  rw [sm_congr (g := fun i => (-1) * f i) (fun i _ => by grind), sm_mul]; grind
/-- z solves the rows with c times the right side. -/
def Sol (m R : Nat) (T : Nat → Nat → Rat) (c : Rat) (z : Nat → Rat) : Prop := ∀ i, i < m → sm (fun j => T i j * z j) R = c * T i R
theorem comb_sol {m R : Nat} {T : Nat → Nat → Rat} {c : Rat} {z : Nat → Rat} (h : Sol m R T c z) (y : Nat → Rat) : sm (fun j => sm (fun l => y l * T l j) m * z j) R = c * sm (fun l => y l * T l R) m := by
  rw [sm_congr (g := fun j => sm (fun l => y l * (T l j * z j)) m) (fun j _ => by
    rw [Rat.mul_comm, ← sm_mul]; exact sm_congr fun l _ => by grind), sm_swap (fun j l => y l * (T l j * z j)) m R, ← sm_mul]
  refine sm_congr fun l hl => ?_
  rw [sm_mul, h l hl]; grind
theorem Eqv.sol {m R : Nat} {S S' : Tab} {c : Rat} {z : Nat → Rat} (h : Eqv m R S S') (hs : Sol m R S.T c z) : Sol m R S'.T c z := by
  obtain ⟨⟨L, hL⟩, -⟩ := h
  intro i hi
  rw [hL i hi R (Nat.le_refl _), ← comb_sol hs (L i)]
  exact sm_congr fun j hj => by rw [hL i hi j (Nat.le_of_lt hj)]
theorem Eqv.val {m R : Nat} {S S' : Tab} {c : Rat} {z : Nat → Rat} (h : Eqv m R S S') (hs : Sol m R S.T c z) : sm (fun j => S'.G j * z j) R - c * S'.G R = sm (fun j => S.G j * z j) R - c * S.G R := by
  obtain ⟨-, ⟨y, hy⟩⟩ := h
  rw [hy R (Nat.le_refl _), sm_congr (g := fun j => S.G j * z j + sm (fun l => y l * S.T l j) m * z j) (fun j hj => by rw [hy j (Nat.le_of_lt hj)]; grind), sm_add, comb_sol hs y]
  grind
section
variable {S : Tab} {h x : Nat → Rat} {R n : Nat}
theorem basX_off {j : Nat} : ∀ {m : Nat}, (∀ i, i < m → S.b i ≠ j) → basX S h x n m j = x j
  | 0, _ => rfl
  | m + 1, hh => by rw [basX_ne (Ne.symm (hh m (by omega))), basX_off (fun i hi => hh i (by omega))]
theorem basX_at : ∀ {m i : Nat}, i < m → (∀ l, l < m → S.b l = S.b i → l = i) → S.b i < n → basX S h x n m (S.b i) = h i
  | 0, _, hi, _, _ => by omega
  | m + 1, i, hi, hj, hb => by
    by_cases hm : m = i
    · subst hm; exact basX_self hb
    · rw [basX_ne (fun he => hm (hj m (by omega) he.symm)), basX_at (by omega) (fun l hl => hj l (by omega)) hb]
theorem basX_sum {g : Nat → Rat} : ∀ {m : Nat}, (∀ i, i < m → S.b i < R) → (∀ i l, i < m → l < m → S.b i = S.b l → i = l) → (∀ i, i < m → x (S.b i) = 0) →
    sm (fun j => g j * basX S h x R m j) R = sm (fun j => g j * x j) R + sm (fun i => g (S.b i) * h i) m
  | 0, _, _, _ => by show sm (fun j => g j * x j) R = sm (fun j => g j * x j) R + 0; grind
  | m + 1, h1, h2, h3 => by
    have ih := basX_sum (g := g) (m := m) (fun i hi => h1 i (by omega)) (fun i l hi hl => h2 i l (by omega) (by omega)) (fun i hi => h3 i (by omega))
    have h0 : basX S h x R m (S.b m) = 0 := by
      rw [basX_off (fun i hi he => by have := h2 i m (by omega) (by omega) he; omega)]; exact h3 m (by omega)
    rw [sm_congr (g := fun j => g j * basX S h x R m j + (if j = S.b m then g j * h m else 0)) (fun j hj => ?_), sm_add, ih, sm_one (k := S.b m) (h1 m (by omega)) (fun j _ hne => if_neg hne)]
    · show _ + (if S.b m = S.b m then g (S.b m) * h m else 0) = _ + (sm (fun i => g (S.b i) * h i) m + g (S.b m) * h m)
      rw [if_pos rfl]; grind
    · by_cases hjm : j = S.b m
      · subst hjm
        rw [basX_self (h1 m (by omega)), h0, if_pos rfl]; grind
      · rw [basX_ne hjm, if_neg hjm]; grind
theorem basX_nonneg (hh : ∀ i, i < n → 0 ≤ h i) (hx : ∀ j, 0 ≤ x j) : ∀ {m : Nat}, m ≤ n → ∀ (j : Nat), 0 ≤ basX S h x R m j
  | 0, _, j => hx j
  | m + 1, hm, j => by
    show 0 ≤ (if S.b m < R ∧ j = S.b m then h m else basX S h x R m j)
    split
    · exact hh m (by omega)
    · exact basX_nonneg hh hx (by omega) j
theorem basX_cut {j : Nat} (hj : j < n) (hn : n ≤ R) {x' : Nat → Rat} (hx : x j = x' j) : ∀ m, basX S h x n m j = basX S h x' R m j
  | 0 => hx
  | m + 1 => by
    show (if S.b m < n ∧ j = S.b m then h m else basX S h x n m j) = (if S.b m < R ∧ j = S.b m then h m else basX S h x' R m j)
    rw [basX_cut hj hn hx m]
    by_cases hjm : j = S.b m
    · rw [if_pos ⟨by omega, hjm⟩, if_pos ⟨by omega, hjm⟩]
    · rw [if_neg (fun hh => hjm hh.2), if_neg (fun hh => hjm hh.2)]
end
/-- The basic solution, and the direction of a column. -/
theorem Canon.sol {m R : Nat} {S : Tab} (hc : Canon m R S) : Sol m R S.T 1 (basX S (fun i => S.T i R) (fun _ => 0) R m) := by
  intro i hi
  rw [basX_sum hc.lt (fun i l hi hl he => hc.inj hi hl he) (fun _ _ => rfl), sm_zero (fun _ _ => by grind), sm_one (k := i) hi (fun l hl hne => by rw [hc.unit i l hi hl, if_neg (Ne.symm hne)]; grind), hc.unit i i hi hi, if_pos rfl]
  grind
theorem Canon.val {m R : Nat} {S : Tab} (hc : Canon m R S) : sm (fun j => S.G j * basX S (fun i => S.T i R) (fun _ => 0) R m j) R = 0 := by
  rw [basX_sum hc.lt (fun i l hi hl he => hc.inj hi hl he) (fun _ _ => rfl), sm_zero (fun _ _ => by grind), sm_zero (fun i hi => by rw [hc.goal i hi]; grind)]
  grind
theorem Canon.dir {m R k : Nat} {S : Tab} (hc : Canon m R S) (hk : k < R) (hn : ∀ i, i < m → S.b i ≠ k) : Sol m R S.T 0 (basX S (fun i => - S.T i k) (fun j => if j = k then 1 else 0) R m) := by
  intro i hi
  rw [basX_sum hc.lt (fun i l hi hl he => hc.inj hi hl he) (fun l hl => if_neg (hn l hl)), sm_one (k := k) hk (fun j _ hne => by (try dsimp only); rw [if_neg hne]; grind), sm_one (k := i) hi (fun l hl hne => by rw [hc.unit i l hi hl, if_neg (Ne.symm hne)]; grind), hc.unit i i hi hi, if_pos rfl, if_pos rfl]
  grind
theorem Canon.dirval {m R k : Nat} {S : Tab} (hc : Canon m R S) (hk : k < R) (hn : ∀ i, i < m → S.b i ≠ k) : sm (fun j => S.G j * basX S (fun i => - S.T i k) (fun j => if j = k then 1 else 0) R m j) R = S.G k := by
  rw [basX_sum hc.lt (fun i l hi hl he => hc.inj hi hl he) (fun l hl => if_neg (hn l hl)), sm_one (k := k) hk (fun j _ hne => by (try dsimp only); rw [if_neg hne]; grind), sm_zero (fun i hi => by rw [hc.goal i hi]; grind), if_pos rfl]
  grind

/-- The first tableau of a problem: the variables, the slacks, the artificial variable, the right side. -/
def tab0 (n m : Nat) (A : Nat → Nat → Rat) (B : Nat → Rat) : Nat → Nat → Rat := fun i j => if j < n then A i j else if j < n + m then (if j = n + i then 1 else 0) else if j = n + m then -1 else B i
section
variable {n m : Nat} {A : Nat → Nat → Rat} {B : Nat → Rat}
theorem tab0_var {i j : Nat} (h : j < n) : tab0 n m A B i j = A i j := if_pos h
theorem tab0_slack {i l : Nat} (h : l < m) : tab0 n m A B i (n + l) = if l = i then 1 else 0 := by
  unfold tab0
  rw [if_neg (by omega), if_pos (by omega)]
  by_cases hl : l = i
  · rw [if_pos (by omega), if_pos hl]
  · rw [if_neg (by omega), if_neg hl]
theorem tab0_art {i : Nat} : tab0 n m A B i (n + m) = -1 := by
  unfold tab0
  rw [if_neg (by omega), if_neg (by omega), if_pos rfl]
theorem tab0_right {i : Nat} : tab0 n m A B i (n + m + 1) = B i := by
  unfold tab0
  rw [if_neg (by omega), if_neg (by omega), if_neg (by omega)]
theorem sm_cols (f : Nat → Rat) (n m : Nat) : sm f (n + m + 1) = sm f n + sm (fun k => f (n + k)) m + f (n + m) := by
  show sm f (n + m) + f (n + m) = _
  rw [sm_split]
theorem tab0_row {i : Nat} (hi : i < m) (z : Nat → Rat) : sm (fun j => tab0 n m A B i j * z j) (n + m + 1) = sm (fun j => A i j * z j) n + z (n + i) - z (n + m) := by
  rw [sm_cols, sm_congr (g := fun j => A i j * z j) (fun j hj => by rw [tab0_var hj]), sm_one (k := i) hi (fun l hl hne => by rw [tab0_slack hl, if_neg hne]; grind), tab0_slack hi, if_pos rfl, tab0_art]
  grind
theorem tab0_slackcol {l : Nat} (hl : l < m) (y : Nat → Rat) : sm (fun i => y i * tab0 n m A B i (n + l)) m = y l := by
  rw [sm_one (k := l) hl (fun i _ hne => by rw [tab0_slack hl, if_neg (Ne.symm hne)]; grind), tab0_slack hl, if_pos rfl]
  grind
theorem canon0 {G : Nat → Rat} (hG : ∀ i, i < m → G (n + i) = 0) : Canon m (n + m + 1) ⟨tab0 n m A B, G, fun i => n + i⟩ := by
  refine ⟨fun i hi => ?_, fun i l hi hl => ?_, hG⟩
  · show n + i < n + m + 1; omega
  · show tab0 n m A B i (n + l) = _
    rw [tab0_slack hl]
    by_cases h : i = l
    · rw [if_pos h, if_pos h.symm]
    · rw [if_neg h, if_neg (Ne.symm h)]
end
theorem Eqv.rows {m R : Nat} {S S' : Tab} (h : Eqv m R S S') (g : Nat → Rat) (b b' : Nat → Nat) : Eqv m R ⟨S.T, g, b⟩ ⟨S'.T, g, b'⟩ := by
  refine ⟨h.row, ⟨fun _ => 0, fun j _ => ?_⟩⟩
  rw [sm_zero (fun l _ => by grind)]
  show g j = g j + 0
  grind
/-- x is a point, y a dual point. -/
structure Primal (n m : Nat) (A : Nat → Nat → Rat) (B x : Nat → Rat) : Prop where
  nonneg : ∀ j, j < n → 0 ≤ x j
  le : ∀ i, i < m → sm (fun j => A i j * x j) n ≤ B i
structure DualF (n m : Nat) (A : Nat → Nat → Rat) (C y : Nat → Rat) : Prop where
  nonneg : ∀ i, i < m → 0 ≤ y i
  ge : ∀ j, j < n → C j ≤ sm (fun i => y i * A i j) m
/-- What an outcome says. -/
def Cert (n m : Nat) (A : Nat → Nat → Rat) (B C : Nat → Rat) (out : Nat) (X Y Ray : Nat → Rat) (v : Rat) : Prop :=
  (out = 0 ∧ Primal n m A B X ∧ DualF n m A C Y ∧ sm (fun j => C j * X j) n = v ∧ sm (fun i => B i * Y i) m = v)
  ∨ (out = 1 ∧ DualF n m A (fun _ => 0) Y ∧ sm (fun i => B i * Y i) m < 0 ∧ v = 0)
  ∨ (out = 2 ∧ Primal n m A B X ∧ Primal n m A (fun _ => 0) Ray ∧ 0 < sm (fun j => C j * Ray j) n ∧ v = 0)
def gArt (n m : Nat) (j : Nat) : Rat := if j = n + m then 1 else 0
section
variable {n m : Nat} {A : Nat → Nat → Rat} {B C : Nat → Rat} {S : Tab} {g : Nat → Rat}
theorem obj1_sum (C : Nat → Rat) (n m : Nat) (z : Nat → Rat) : sm (fun j => obj1 C n j * z j) (n + m + 1) = - sm (fun j => C j * z j) n := by
  rw [sm_cols, sm_congr (g := fun j => - (C j * z j)) (fun j hj => by rw [obj1, if_pos hj]; grind), sm_neg, sm_zero (f := fun k => obj1 C n (n + k) * z (n + k)) (fun k _ => by (try dsimp only); rw [obj1, if_neg (by omega)]; grind), obj1, if_neg (by omega)]
  grind
theorem gArt_sum (n m : Nat) (z : Nat → Rat) : sm (fun j => gArt n m j * z j) (n + m + 1) = z (n + m) := by
  rw [sm_one (k := n + m) (by omega) (fun j _ hne => by rw [gArt, if_neg hne]; grind), gArt, if_pos rfl]; grind
/-- The basic solution is a point. -/
theorem point_primal (hc : Canon m (n + m + 1) S) (hf : Feas m (n + m + 1) S) (h2 : Eqv m (n + m + 1) S ⟨tab0 n m A B, g, fun i => n + i⟩) (ha : basX S (fun i => S.T i (n + m + 1)) (fun _ => 0) (n + m + 1) m (n + m) = 0) :
    Primal n m A B (basX S (fun i => S.T i (n + m + 1)) (fun _ => 0) n m) := by
  have hn : ∀ j, 0 ≤ basX S (fun i => S.T i (n + m + 1)) (fun _ => 0) (n + m + 1) m j := basX_nonneg (n := m) hf (fun _ => Rat.le_refl) (Nat.le_refl _)
  have hcut : ∀ j, j < n → basX S (fun i => S.T i (n + m + 1)) (fun _ => 0) n m j = basX S (fun i => S.T i (n + m + 1)) (fun _ => 0) (n + m + 1) m j := fun j hj => basX_cut hj (by omega) rfl m
  refine ⟨fun j hj => by rw [hcut j hj]; exact hn j, fun i hi => ?_⟩
  have h1 := h2.sol hc.sol i hi
  have hR : (⟨tab0 n m A B, g, fun i => n + i⟩ : Tab).T i (n + m + 1) = B i := tab0_right
  rw [tab0_row hi, hR, ha] at h1
  rw [sm_congr (fun j hj => by rw [hcut j hj])]
  have := hn (n + i)
  grind
theorem ray_primal {k : Nat} (hc : Canon m (n + m + 1) S) (h2 : Eqv m (n + m + 1) S ⟨tab0 n m A B, g, fun i => n + i⟩) (hk : k < n + m) (hn : ∀ i, i < m → S.b i ≠ k) (ha : ∀ i, i < m → S.b i ≠ n + m) (hle : ∀ i, i < m → S.T i k ≤ 0) :
    Primal n m A (fun _ => 0) (basX S (fun i => - S.T i k) (fun j => if j = k then 1 else 0) n m) := by
  have hp : ∀ j, 0 ≤ basX S (fun i => - S.T i k) (fun j => if j = k then 1 else 0) (n + m + 1) m j := basX_nonneg (n := m) (fun i hi => by have := hle i hi; grind) (fun j => by (try dsimp only); split <;> grind) (Nat.le_refl _)
  have hcut : ∀ j, j < n → basX S (fun i => - S.T i k) (fun j => if j = k then 1 else 0) n m j = basX S (fun i => - S.T i k) (fun j => if j = k then 1 else 0) (n + m + 1) m j := fun j hj => basX_cut hj (by omega) rfl m
  refine ⟨fun j hj => by rw [hcut j hj]; exact hp j, fun i hi => ?_⟩
  have h1 := h2.sol (hc.dir (by omega) hn) i hi
  rw [tab0_row hi, basX_off ha, if_neg (by omega)] at h1
  rw [sm_congr (fun j hj => by rw [hcut j hj])]
  have := hp (n + i)
  grind
theorem cert_opt (hc : Canon m (n + m + 1) S) (hf : Feas m (n + m + 1) S) (h1 : Eqv m (n + m + 1) ⟨tab0 n m A B, obj1 C n, fun i => n + i⟩ S) (h2 : Eqv m (n + m + 1) S ⟨tab0 n m A B, obj1 C n, fun i => n + i⟩) (ha : ∀ i, i < m → S.b i ≠ n + m) (hG : ∀ j, j < n + m → 0 ≤ S.G j) :
    Cert n m A B C 0 (basX S (fun i => S.T i (n + m + 1)) (fun _ => 0) n m) (fun i => S.G (n + i)) (fun _ => 0) (S.G (n + m + 1)) := by
  have hP := point_primal hc hf h2 (basX_off ha)
  have hv := h1.val (h2.sol hc.sol)
  rw [hc.val, show (fun j => (⟨tab0 n m A B, obj1 C n, fun i => n + i⟩ : Tab).G j * basX S (fun i => S.T i (n + m + 1)) (fun _ => 0) (n + m + 1) m j) = (fun j => obj1 C n j * basX S (fun i => S.T i (n + m + 1)) (fun _ => 0) (n + m + 1) m j) from rfl, obj1_sum,
    show (⟨tab0 n m A B, obj1 C n, fun i => n + i⟩ : Tab).G (n + m + 1) = 0 from if_neg (by omega)] at hv
  obtain ⟨-, ⟨y, hy⟩⟩ := h1
  have hys : ∀ l, l < m → S.G (n + l) = y l := fun l hl => by
    rw [hy _ (by omega), tab0_slackcol hl]
    show obj1 C n (n + l) + _ = _
    rw [obj1, if_neg (by omega)]; grind
  refine .inl ⟨rfl, hP, ⟨fun i hi => hG _ (by omega), fun j hj => ?_⟩, ?_, ?_⟩
  · have e := hy j (by omega)
    have h3 := hG j (by omega)
    rw [show (⟨tab0 n m A B, obj1 C n, fun i => n + i⟩ : Tab).G j = - C j from if_pos hj, sm_congr (g := fun i => S.G (n + i) * A i j) (fun l hl => by (try dsimp only); rw [tab0_var hj, hys l hl])] at e
    grind
  · rw [sm_congr (g := fun j => C j * basX S (fun i => S.T i (n + m + 1)) (fun _ => 0) (n + m + 1) m j) (fun j hj => by rw [basX_cut hj (show n ≤ n + m + 1 by omega) rfl m])]
    grind
  · rw [hy _ (Nat.le_refl _), show (⟨tab0 n m A B, obj1 C n, fun i => n + i⟩ : Tab).G (n + m + 1) = 0 from if_neg (by omega), sm_congr (g := fun l => y l * tab0 n m A B l (n + m + 1)) (fun l hl => by (try dsimp only); rw [hys l hl, tab0_right]; grind)]
    grind
theorem cert_inf (h1 : Eqv m (n + m + 1) ⟨tab0 n m A B, gArt n m, fun i => n + i⟩ S) (hG : ∀ j, j < n + m + 1 → 0 ≤ S.G j) (hneg : S.G (n + m + 1) < 0) :
    Cert n m A B C 1 (fun _ => 0) (fun i => S.G (n + i)) (fun _ => 0) 0 := by
  obtain ⟨-, ⟨y, hy⟩⟩ := h1
  have hys : ∀ l, l < m → S.G (n + l) = y l := fun l hl => by
    rw [hy _ (by omega), tab0_slackcol hl]
    show gArt n m (n + l) + _ = _
    rw [gArt, if_neg (by omega)]; grind
  refine .inr (.inl ⟨rfl, ⟨fun i hi => hG _ (by omega), fun j hj => ?_⟩, ?_, rfl⟩)
  · have e := hy j (by omega)
    have h3 := hG j (by omega)
    rw [show (⟨tab0 n m A B, gArt n m, fun i => n + i⟩ : Tab).G j = 0 from if_neg (by omega), sm_congr (g := fun i => S.G (n + i) * A i j) (fun l hl => by (try dsimp only); rw [tab0_var hj, hys l hl])] at e
    grind
  · rw [hy _ (Nat.le_refl _), show (⟨tab0 n m A B, gArt n m, fun i => n + i⟩ : Tab).G (n + m + 1) = 0 from if_neg (by omega), sm_congr (g := fun l => B l * S.G (n + l)) (fun l hl => by (try dsimp only); rw [hys l hl, tab0_right]; grind)] at hneg
    grind
theorem cert_unb {k : Nat} (hc : Canon m (n + m + 1) S) (hf : Feas m (n + m + 1) S) (h1 : Eqv m (n + m + 1) ⟨tab0 n m A B, obj1 C n, fun i => n + i⟩ S) (h2 : Eqv m (n + m + 1) S ⟨tab0 n m A B, obj1 C n, fun i => n + i⟩) (ha : ∀ i, i < m → S.b i ≠ n + m) (hk : k < n + m) (hG : S.G k < 0) (hle : ∀ i, i < m → S.T i k ≤ 0) :
    Cert n m A B C 2 (basX S (fun i => S.T i (n + m + 1)) (fun _ => 0) n m) (fun _ => 0) (basX S (fun i => - S.T i k) (fun j => if j = k then 1 else 0) n m) 0 := by
  have hn : ∀ i, i < m → S.b i ≠ k := fun i hi he => by
    have := hc.goal i hi
    rw [he] at this; grind
  refine .inr (.inr ⟨rfl, point_primal hc hf h2 (basX_off ha), ray_primal hc h2 hk hn ha hle, ?_, rfl⟩)
  have hv := h1.val (h2.sol (hc.dir (by omega) hn))
  rw [hc.dirval (by omega) hn, show (fun j => (⟨tab0 n m A B, obj1 C n, fun i => n + i⟩ : Tab).G j * basX S (fun i => - S.T i k) (fun j => if j = k then 1 else 0) (n + m + 1) m j) = (fun j => obj1 C n j * basX S (fun i => - S.T i k) (fun j => if j = k then 1 else 0) (n + m + 1) m j) from rfl, obj1_sum] at hv
  rw [sm_congr (g := fun j => C j * basX S (fun i => - S.T i k) (fun j => if j = k then 1 else 0) (n + m + 1) m j) (fun j hj => by rw [basX_cut hj (show n ≤ n + m + 1 by omega) rfl m])]
  grind
/-- The negated artificial variable has a greatest value. -/
theorem p1_bounded {k : Nat} (hc : Canon m (n + m + 1) S) (h1 : Eqv m (n + m + 1) ⟨tab0 n m A B, gArt n m, fun i => n + i⟩ S) (h2 : Eqv m (n + m + 1) S ⟨tab0 n m A B, gArt n m, fun i => n + i⟩) (hk : k < n + m + 1) (hG : S.G k < 0) (hle : ∀ i, i < m → S.T i k ≤ 0) : False := by
  have hn : ∀ i, i < m → S.b i ≠ k := fun i hi he => by
    have := hc.goal i hi
    rw [he] at this; grind
  have hp : ∀ j, 0 ≤ basX S (fun i => - S.T i k) (fun j => if j = k then 1 else 0) (n + m + 1) m j := basX_nonneg (n := m) (fun i hi => by have := hle i hi; grind) (fun j => by (try dsimp only); split <;> grind) (Nat.le_refl _)
  have hv := h1.val (h2.sol (hc.dir hk hn))
  rw [hc.dirval hk hn, show (fun j => (⟨tab0 n m A B, gArt n m, fun i => n + i⟩ : Tab).G j * basX S (fun i => - S.T i k) (fun j => if j = k then 1 else 0) (n + m + 1) m j) = (fun j => gArt n m j * basX S (fun i => - S.T i k) (fun j => if j = k then 1 else 0) (n + m + 1) m j) from rfl, gArt_sum] at hv
  have := hp (n + m)
  grind
theorem p1_art (hc : Canon m (n + m + 1) S) (hf : Feas m (n + m + 1) S) (h1 : Eqv m (n + m + 1) ⟨tab0 n m A B, gArt n m, fun i => n + i⟩ S) (h2 : Eqv m (n + m + 1) S ⟨tab0 n m A B, gArt n m, fun i => n + i⟩) (hG : 0 ≤ S.G (n + m + 1)) {i : Nat} (hi : i < m) (hb : S.b i = n + m) : S.T i (n + m + 1) = 0 := by
  have hp : ∀ j, 0 ≤ basX S (fun i => S.T i (n + m + 1)) (fun _ => 0) (n + m + 1) m j := basX_nonneg (n := m) hf (fun _ => Rat.le_refl) (Nat.le_refl _)
  have hv := h1.val (h2.sol hc.sol)
  rw [hc.val, show (fun j => (⟨tab0 n m A B, gArt n m, fun i => n + i⟩ : Tab).G j * basX S (fun i => S.T i (n + m + 1)) (fun _ => 0) (n + m + 1) m j) = (fun j => gArt n m j * basX S (fun i => S.T i (n + m + 1)) (fun _ => 0) (n + m + 1) m j) from rfl, gArt_sum,
    show (⟨tab0 n m A B, gArt n m, fun i => n + i⟩ : Tab).G (n + m + 1) = 0 from if_neg (by omega)] at hv
  have h3 := basX_at (h := fun i => S.T i (n + m + 1)) (x := fun _ => 0) (n := n + m + 1) hi (fun l hl he => hc.inj hl hi he) (hc.lt i hi)
  rw [hb] at h3
  have := hp (n + m)
  have := hf i hi
  grind
/-- A row whose basic column is the artificial one has another entry that is not 0. -/
theorem art_other (hc : Canon m (n + m + 1) S) (h1 : Eqv m (n + m + 1) ⟨tab0 n m A B, gArt n m, fun i => n + i⟩ S) {i : Nat} (hi : i < m) (hb : S.b i = n + m) : ∃ j, j < n + m ∧ S.T i j ≠ 0 := by
  refine Classical.byContradiction fun hno => ?_
  obtain ⟨⟨L, hL⟩, -⟩ := h1
  have hz : ∀ l, l < m → L i l = 0 := fun l hl => by
    have e := hL i hi (n + l) (by omega)
    rw [tab0_slackcol hl] at e
    rw [← e]
    exact Classical.byContradiction fun hne => hno ⟨n + l, by omega, hne⟩
  have h2 := hc.unit i i hi hi
  rw [if_pos rfl, hb, hL i hi (n + m) (by omega), sm_zero (fun l hl => by rw [hz l hl]; grind)] at h2
  grind
end
/-- The row whose right side is least, of several ones the first. -/
structure Worst (m : Nat) (B : Nat → Rat) (r : Nat) : Prop where
  lt : r < m
  neg : B r < 0
  le : ∀ i, i < m → B r ≤ B i
  first : ∀ i, i < r → B r < B i
/-- Row i gives up the artificial variable. -/
def drive (a : Nat) (S : Tab) (i : Nat) : Tab := if S.b i = a then (match (List.range a).find? (fun j => !decide (S.T i j = 0)) with | some j => S.piv i j | none => S) else S
def driveN (a : Nat) (S : Tab) : Nat → Tab
  | 0 => S
  | i + 1 => drive a (driveN a S i) i
theorem drive_no {a : Nat} {S : Tab} {i : Nat} (h : S.b i ≠ a) : drive a S i = S := if_neg h
theorem drive_at {a : Nat} {S : Tab} {i j : Nat} (h : S.b i = a) (hj : j < a) (hne : S.T i j ≠ 0) (hf : ∀ l, l < j → S.T i l = 0) : drive a S i = S.piv i j := by
  have e : (List.range a).find? (fun j => !decide (S.T i j = 0)) = some j := by
    rw [List.find?_eq_some_iff_getElem]
    refine ⟨by simp [hne], j, by simpa using hj, by simp, fun k hk => ?_⟩
    simp [hf k hk]
  unfold drive
  rw [if_pos h, e]
theorem first_of {P : Nat → Prop} {a : Nat} (h : ∃ j, j < a ∧ P j) : ∃ j, j < a ∧ P j ∧ ∀ l, l < j → ¬ P l := by
  classical
  obtain ⟨j, hj, hp⟩ := h
  induction j using Nat.strongRecOn with
  | _ j ih =>
    by_cases hq : ∃ l, l < j ∧ P l
    · obtain ⟨l, hl, hp'⟩ := hq
      exact ih l hl (by omega) hp'
    · exact ⟨j, hj, hp, fun l hl hp' => hq ⟨l, hl, hp'⟩⟩
/-- What holds while the rows give up the artificial variable. -/
structure DrvI (n m : Nat) (A : Nat → Nat → Rat) (B : Nat → Rat) (i : Nat) (S : Tab) : Prop where
  canon : Canon m (n + m + 1) S
  feas : Feas m (n + m + 1) S
  e1 : Eqv m (n + m + 1) ⟨tab0 n m A B, gArt n m, fun i => n + i⟩ S
  e2 : Eqv m (n + m + 1) S ⟨tab0 n m A B, gArt n m, fun i => n + i⟩
  done : ∀ l, l < i → S.b l ≠ n + m
  zero : ∀ l, l < m → S.b l = n + m → S.T l (n + m + 1) = 0
section
variable {n m : Nat} {A : Nat → Nat → Rat} {B C : Nat → Rat} {S : Tab}
theorem DrvI.skip {i : Nat} (h : DrvI n m A B i S) (hb : S.b i ≠ n + m) : DrvI n m A B (i + 1) S :=
  ⟨h.canon, h.feas, h.e1, h.e2, fun l hl => by
    by_cases hli : l = i
    · rw [hli]; exact hb
    · exact h.done l (by omega), h.zero⟩
theorem DrvI.piv {i j : Nat} (h : DrvI n m A B i S) (hi : i < m) (hb : S.b i = n + m) (hj : j < n + m) (hne : S.T i j ≠ 0) : DrvI n m A B (i + 1) (S.piv i j) := by
  obtain ⟨q1, q2⟩ := Eqv.piv h.canon hi (show j < n + m + 1 by omega) hne
  have hz := h.zero i hi hb
  have hr : ∀ l, (S.piv i j).T l (n + m + 1) = S.T l (n + m + 1) := fun l => by
    by_cases hl : l = i
    · rw [hl, piv_row, hz]; grind
    · rw [piv_oth S j _ hl, hz]; grind
  refine ⟨h.canon.piv hi (by omega) hne, fun l hl => by rw [hr]; exact h.feas l hl, h.e1.trans q1, q2.trans h.e2, fun l hl => ?_, fun l hl he => ?_⟩
  · by_cases hli : l = i
    · rw [hli, piv_b]; omega
    · rw [piv_bo S j hli]; exact h.done l (by omega)
  · rw [hr]
    by_cases hli : l = i
    · rw [hli]; exact hz
    · rw [piv_bo S j hli] at he; exact h.zero l hl he
theorem DrvI.next {i : Nat} (h : DrvI n m A B i S) (hi : i < m) : DrvI n m A B (i + 1) (drive (n + m) S i) := by
  by_cases hb : S.b i = n + m
  · obtain ⟨j, hj, hne, hf⟩ := first_of (art_other h.canon h.e1 hi hb)
    rw [drive_at hb hj hne (fun l hl => Classical.byContradiction fun hh => hf l hl hh)]
    exact h.piv hi hb hj hne
  · rw [drive_no hb]; exact h.skip hb
theorem DrvI.all (h : DrvI n m A B 0 S) : ∀ i, i ≤ m → DrvI n m A B i (driveN (n + m) S i)
  | 0, _ => h
  | i + 1, hi => (DrvI.all h i (by omega)).next (by omega)
end
theorem objG_sum (S : Tab) (f : Nat → Rat) (n j : Nat) : ∀ i, objG S f n i j = obj1 f n j + sm (fun l => (if S.b l < n then f (S.b l) else 0) * S.T l j) i
  | 0 => by show obj1 f n j = obj1 f n j + 0; grind
  | i + 1 => by
    show (if S.b i < n then objG S f n i j - (- f (S.b i)) * S.T i j else objG S f n i j) = obj1 f n j + (sm (fun l => (if S.b l < n then f (S.b l) else 0) * S.T l j) i + (if S.b i < n then f (S.b i) else 0) * S.T i j)
    rw [objG_sum S f n j i]
    split <;> grind
theorem objG_eqv {m R : Nat} (S : Tab) (f : Nat → Rat) (n : Nat) (b : Nat → Nat) : Eqv m R ⟨S.T, obj1 f n, b⟩ ⟨S.T, objG S f n m, S.b⟩ ∧ Eqv m R ⟨S.T, objG S f n m, S.b⟩ ⟨S.T, obj1 f n, b⟩ := by
  have hr := (Eqv.refl m R S).row
  refine ⟨⟨hr, ⟨fun l => if S.b l < n then f (S.b l) else 0, fun j _ => objG_sum S f n j m⟩⟩, ⟨hr, ⟨fun l => - (if S.b l < n then f (S.b l) else 0), fun j _ => ?_⟩⟩⟩
  show obj1 f n j = objG S f n m j + _
  rw [objG_sum, sm_congr (f := fun l => - (if S.b l < n then f (S.b l) else 0) * S.T l j) (g := fun l => -((if S.b l < n then f (S.b l) else 0) * S.T l j)) (fun l _ => by grind), sm_neg]
  grind
theorem objG_canon {m R n : Nat} {S : Tab} {f : Nat → Rat} (hc : Canon m R S) : Canon m R ⟨S.T, objG S f n m, S.b⟩ := by
  refine ⟨hc.lt, hc.unit, fun i hi => ?_⟩
  show objG S f n m (S.b i) = 0
  rw [objG_sum, sm_one (k := i) hi (fun l hl hne => by rw [hc.unit l i hl hi, if_neg hne]; grind), hc.unit i i hi hi, if_pos rfl, obj1]
  split <;> grind
end Go.Proofs.Ytpnklmgfdihjfaa
namespace Go.Proofs.Ytpnklmgfdihjfaa
set_option linter.unusedVariables false

section
variable {m R cols : Nat} {S S1 S2 : Tab}
theorem BRun.cut {K : Nat} (h : BRun m R cols S K S1) : ∀ {K' : Nat}, K' < K → ∃ S' e r, BRun m R cols S K' S' ∧ Bl m R cols S' e r := by
  induction h with
  | nil => intro K' h; omega
  | @snoc K S' e r h b ih =>
    intro K' hK
    by_cases hk : K' = K
    · subst hk; exact ⟨S', e, r, h, b⟩
    · exact ih (by omega)
end
/-- The first tableau with the negated artificial variable as the objective. -/
def P1 (n m : Nat) (A : Nat → Nat → Rat) (B : Nat → Rat) : Tab := ⟨tab0 n m A B, gArt n m, fun i => n + i⟩
/-- Where feasible ends. -/
def Ph1 (n m : Nat) (A : Nat → Nat → Rat) (B : Nat → Rat) (S : Tab) (ok : Bool) : Prop :=
  (ok = true ∧ (∀ i, i < m → 0 ≤ B i) ∧ S = P1 n m A B)
  ∨ ∃ (r K : Nat) (S2 : Tab) (z : Int) (t : Bool), Worst m B r ∧ BRun m (n + m + 1) (n + m + 1) ((P1 n m A B).piv r (n + m)) K S2 ∧ MxEnd m (n + m + 1) S2 z t ∧ ((S2.G (n + m + 1) < 0 ∧ ok = false ∧ S = S2) ∨ (0 ≤ S2.G (n + m + 1) ∧ ok = true ∧ S = driveN (n + m) S2 m))
section
variable {n m : Nat} {A : Nat → Nat → Rat} {B C : Nat → Rat} {S : Tab}
theorem P1.canon : Canon m (n + m + 1) (P1 n m A B) := canon0 (fun i hi => if_neg (by omega))
theorem P1.piv {r : Nat} (hr : r < m) : Canon m (n + m + 1) ((P1 n m A B).piv r (n + m)) ∧ Eqv m (n + m + 1) (P1 n m A B) ((P1 n m A B).piv r (n + m)) ∧ Eqv m (n + m + 1) ((P1 n m A B).piv r (n + m)) (P1 n m A B) := by
  have hne : (P1 n m A B).T r (n + m) ≠ 0 := by
    show tab0 n m A B r (n + m) ≠ 0
    rw [tab0_art]; grind
  exact ⟨P1.canon.piv hr (by omega) hne, Eqv.piv P1.canon hr (by omega) hne⟩
theorem P1.feas {r : Nat} (h : Worst m B r) : Feas m (n + m + 1) ((P1 n m A B).piv r (n + m)) := by
  intro i hi
  have h1 := h.le i hi
  have h2 := h.neg
  by_cases hir : i = r
  · subst hir
    rw [piv_row]
    show 0 ≤ tab0 n m A B i (n + m + 1) / tab0 n m A B i (n + m)
    rw [tab0_art, tab0_right]; grind
  · rw [piv_oth _ _ _ hir]
    show 0 ≤ tab0 n m A B i (n + m + 1) - tab0 n m A B i (n + m) * (tab0 n m A B r (n + m + 1) / tab0 n m A B r (n + m))
    rw [tab0_art, tab0_art, tab0_right, tab0_right]; grind
/-- What is known behind the first run. -/
theorem P1.run {r K : Nat} {S2 : Tab} (hw : Worst m B r) (hr : BRun m (n + m + 1) (n + m + 1) ((P1 n m A B).piv r (n + m)) K S2) : Canon m (n + m + 1) S2 ∧ Feas m (n + m + 1) S2 ∧ Eqv m (n + m + 1) (P1 n m A B) S2 ∧ Eqv m (n + m + 1) S2 (P1 n m A B) := by
  obtain ⟨p1, p2, p3⟩ := P1.piv (n := n) (A := A) (B := B) hw.lt
  obtain ⟨h1, h2, h3, h4, -⟩ := hr.good (Nat.le_refl _) p1 (P1.feas hw)
  exact ⟨h1, h2, p2.trans h3, h4.trans p3⟩
theorem P1.drv {r K : Nat} {S2 : Tab} (hw : Worst m B r) (hr : BRun m (n + m + 1) (n + m + 1) ((P1 n m A B).piv r (n + m)) K S2) (hG : 0 ≤ S2.G (n + m + 1)) : DrvI n m A B 0 S2 := by
  obtain ⟨h1, h2, h3, h4⟩ := P1.run hw hr
  exact ⟨h1, h2, h3, h4, fun l hl => absurd hl (by omega), fun l hl he => p1_art h1 h2 h3 h4 hG hl he⟩
/-- Behind feasible: the basis holds no artificial variable. -/
theorem Ph1.good (h : Ph1 n m A B S true) : Canon m (n + m + 1) S ∧ Feas m (n + m + 1) S ∧ Eqv m (n + m + 1) (P1 n m A B) S ∧ Eqv m (n + m + 1) S (P1 n m A B) ∧ ∀ i, i < m → S.b i ≠ n + m := by
  rcases h with ⟨-, hB, rfl⟩ | ⟨r, K, S2, z, t, hw, hr, he, ⟨-, h, -⟩ | ⟨hG, -, rfl⟩⟩
  · refine ⟨P1.canon, fun i hi => ?_, Eqv.refl _ _ _, Eqv.refl _ _ _, fun i hi => ?_⟩
    · show 0 ≤ tab0 n m A B i (n + m + 1)
      rw [tab0_right]; exact hB i hi
    · show n + i ≠ n + m; omega
  · cases h
  · have h := (P1.drv hw hr hG).all m (Nat.le_refl _)
    exact ⟨h.canon, h.feas, h.e1, h.e2, h.done⟩
theorem Ph1.bad (h : Ph1 n m A B S false) (C : Nat → Rat) : Cert n m A B C 1 (fun _ => 0) (fun i => S.G (n + i)) (fun _ => 0) 0 := by
  rcases h with ⟨h, -⟩ | ⟨r, K, S2, z, t, hw, hr, he, ⟨hG, -, rfl⟩ | ⟨-, h, -⟩⟩
  · cases h
  · obtain ⟨h1, h2, h3, h4⟩ := P1.run hw hr
    refine cert_inf h3 (fun j hj => ?_) hG
    rcases he with ⟨-, -, h⟩ | ⟨-, j, -, q1, q2, q3, q4⟩
    · exact h j hj
    · exact (p1_bounded h1 h3 h4 q1 q2 q4).elim
  · cases h
end
/-- An outcome with its certificate. -/
structure Res where
  out : Nat
  X : Nat → Rat
  Y : Nat → Rat
  Ray : Nat → Rat
  v : Rat
def resOpt (n m : Nat) (S : Tab) : Res := ⟨0, basX S (fun i => S.T i (n + m + 1)) (fun _ => 0) n m, fun i => S.G (n + i), fun _ => 0, S.G (n + m + 1)⟩
def resInf (n m : Nat) (S : Tab) : Res := ⟨1, fun _ => 0, fun i => S.G (n + i), fun _ => 0, 0⟩
def resUnb (n m : Nat) (S : Tab) (k : Nat) : Res := ⟨2, basX S (fun i => S.T i (n + m + 1)) (fun _ => 0) n m, fun _ => 0, basX S (fun i => - S.T i k) (fun j => if j = k then 1 else 0) n m, 0⟩
/-- The result of Solve. -/
def SolveIs (n m : Nat) (A : Nat → Nat → Rat) (B C : Nat → Rat) (q : Res) : Prop := ∃ (S : Tab) (ok : Bool), Ph1 n m A B S ok ∧ ((ok = false ∧ q = resInf n m S)
  ∨ (ok = true ∧ ∃ (K : Nat) (S5 : Tab) (z : Int) (t : Bool), BRun m (n + m + 1) (n + m) ⟨S.T, objG S C n m, S.b⟩ K S5 ∧ MxEnd m (n + m) S5 z t ∧ ((t = true ∧ q = resOpt n m S5) ∨ (t = false ∧ q = resUnb n m S5 z.toNat))))
section
variable {n m : Nat} {A : Nat → Nat → Rat} {B C : Nat → Rat} {S : Tab}
theorem Ph1.obj (h : Ph1 n m A B S true) (C : Nat → Rat) : Canon m (n + m + 1) ⟨S.T, objG S C n m, S.b⟩ ∧ Feas m (n + m + 1) ⟨S.T, objG S C n m, S.b⟩ ∧ Eqv m (n + m + 1) ⟨tab0 n m A B, obj1 C n, fun i => n + i⟩ ⟨S.T, objG S C n m, S.b⟩ ∧ Eqv m (n + m + 1) ⟨S.T, objG S C n m, S.b⟩ ⟨tab0 n m A B, obj1 C n, fun i => n + i⟩ := by
  obtain ⟨h1, h2, h3, h4, h5⟩ := h.good
  obtain ⟨q1, q2⟩ := objG_eqv (R := n + m + 1) (m := m) S C n S.b
  exact ⟨objG_canon h1, h2, (h3.rows (obj1 C n) (fun i => n + i) S.b).trans q1, q2.trans (h4.rows (obj1 C n) S.b (fun i => n + i))⟩
theorem BRun.art {R cols : Nat} {S S' : Tab} {K a : Nat} (ha : cols ≤ a) (h : BRun m R cols S K S') (h0 : ∀ i, i < m → S.b i ≠ a) : ∀ i, i < m → S'.b i ≠ a := by
  induction h with
  | nil => exact h0
  | @snoc K S1 e r h b ih =>
    intro i hi
    by_cases hir : i = r
    · subst hir
      rw [piv_b]; have := b.ce; omega
    · rw [piv_bo _ _ hir]; exact ih i hi
theorem SolveIs.cert {q : Res} (h : SolveIs n m A B C q) : Cert n m A B C q.out q.X q.Y q.Ray q.v := by
  obtain ⟨S, ok, hp, ⟨rfl, rfl⟩ | ⟨rfl, K, S5, z, t, hr, he, hq⟩⟩ := h
  · exact hp.bad C
  · obtain ⟨h1, h2, h3, h4⟩ := hp.obj C
    obtain ⟨g1, g2, g3, g4, -⟩ := hr.good (by omega) h1 h2
    have ha := hr.art (a := n + m) (by omega) hp.good.2.2.2.2
    rcases hq with ⟨rfl, rfl⟩ | ⟨rfl, rfl⟩
    · rcases he with ⟨-, -, h⟩ | ⟨h, -⟩
      · exact cert_opt g1 g2 (h3.trans g3) (g4.trans h4) ha h
      · cases h
    · rcases he with ⟨h, -⟩ | ⟨-, j, rfl, q1, q2, q3, q4⟩
      · cases h
      · exact cert_unb g1 g2 (h3.trans g3) (g4.trans h4) ha q1 q2 q4
end

/-- x is an integer up to H divided by D. -/
def Frac (D H : Nat) (x : Rat) : Prop := ∃ a : Int, a.natAbs ≤ H ∧ x * ((D : Int) : Rat) = ((a : Int) : Rat)
theorem Frac.num {D H : Nat} {x : Rat} (h : Frac D H x) : (x * ((D : Int) : Rat)).num.natAbs ≤ H ∧ x * ((D : Int) : Rat) = (((x * ((D : Int) : Rat)).num : Int) : Rat) := by
  obtain ⟨a, h1, h2⟩ := h
  rw [h2, Rat.num_intCast]
  exact ⟨h1, rfl⟩
theorem Frac.neg {D H : Nat} {x : Rat} (h : Frac D H x) : Frac D H (-x) := by
  obtain ⟨a, h1, h2⟩ := h
  exact ⟨-a, by omega, by rw [Rat.intCast_neg, ← h2]; grind⟩
theorem Frac.zero {D H : Nat} : Frac D H 0 := ⟨0, by omega, by simp⟩
theorem Frac.one {D H : Nat} (h : D ≤ H) : Frac D H 1 := ⟨D, by omega, by grind⟩
theorem Hgt.start {n m D H : Nat} {A : Nat → Nat → Rat} {B g : Nat → Rat} (hD : 0 < D) (hDH : D ≤ H) (hA : ∀ i, i < m → ∀ j, j < n → Frac D H (A i j)) (hB : ∀ i, i < m → Frac D H (B i)) (hg : ∀ j, j ≤ n + m + 1 → Frac D H (g j)) : Hgt m (n + m + 1) ⟨tab0 n m A B, g, fun i => n + i⟩ H := by
  have hD' : (D : Int) ≠ 0 := by omega
  have ht : ∀ i, i < m → ∀ j, Frac D H (tab0 n m A B i j) := by
    intro i hi j
    unfold tab0
    split
    · exact hA i hi j (by assumption)
    · split
      · split
        · exact Frac.one hDH
        · exact Frac.zero
      · split
        · exact (Frac.one hDH).neg
        · exact hB i hi
  refine ⟨⟨fun i j => (tab0 n m A B i j * ((D : Int) : Rat)).num, fun i hi => ?_⟩, ⟨fun j => (g j * ((D : Int) : Rat)).num, D, hD', by omega, fun j hj => (hg j hj).num⟩⟩
  have e : (tab0 n m A B i (n + i) * ((D : Int) : Rat)).num = (D : Int) := by
    rw [tab0_slack hi, if_pos rfl, show (1 : Rat) * ((D : Int) : Rat) = ((D : Int) : Rat) by grind, Rat.num_intCast]
  refine ⟨by show (tab0 n m A B i (n + i) * ((D : Int) : Rat)).num ≠ 0; rw [e]; exact hD', fun j hj => ⟨(ht i hi j).num.1, ?_⟩⟩
  show tab0 n m A B i j * (((tab0 n m A B i (n + i) * ((D : Int) : Rat)).num : Int) : Rat) = _
  rw [e]; exact (ht i hi j).num.2
theorem hs_two : ∀ (c a : Nat), hs c (2 ^ a) ≤ 2 ^ (2 ^ c * (a + 1) - 1)
  | 0, a => by simp [hs]
  | c + 1, a => by
    show hs c (2 * (2 ^ a * 2 ^ a)) ≤ _
    have e : 2 * (2 ^ a * 2 ^ a) = 2 ^ (2 * a + 1) := by rw [← Nat.pow_add, Nat.pow_succ, Nat.mul_comm, Nat.two_mul]
    rw [e]
    refine Nat.le_trans (hs_two c (2 * a + 1)) ?_
    rw [show 2 ^ c * (2 * a + 1 + 1) = 2 ^ (c + 1) * (a + 1) by rw [Nat.pow_succ, Nat.mul_assoc]; congr 1]
    exact Nat.le_refl _
theorem Small.more {H H' : Nat} {x : Rat} (h : Small H x) (hH : H ≤ H') : Small H' x := ⟨Nat.le_trans h.1 hH, Nat.le_trans h.2 hH⟩
theorem den_mul (x : Rat) : x * ((x.den : Int) : Rat) = ((x.num : Int) : Rat) := by
  have h : x = mkRat x.num x.den := (Rat.mkRat_self x).symm
  have hd : ((x.den : Int) : Rat) ≠ 0 := by
    intro h0
    have := x.den_nz
    exact this (by exact_mod_cast h0)
  have e : x = ((x.num : Int) : Rat) / ((x.den : Int) : Rat) := by
    rw [← Rat.divInt_eq_div]; exact (Rat.num_divInt_den x).symm
  generalize ((x.den : Int) : Rat) = d at *
  generalize ((x.num : Int) : Rat) = z at *
  rw [e]
  grind
theorem small_mk {a b : Nat} {x y : Rat} (hx : Small a x) (hy : Small b y) : Small (2 * a * b) (x + y) ∧ Small (a * b) (x * y) := by
  obtain ⟨x1, x2⟩ := hx
  obtain ⟨y1, y2⟩ := hy
  have dx := x.den_pos; have dy := y.den_pos
  have ex : x * ((x.den : Int) : Rat) = ((x.num : Int) : Rat) := den_mul x
  have ey : y * ((y.den : Int) : Rat) = ((y.num : Int) : Rat) := den_mul y
  have hd : ((x.den : Int) * (y.den : Int)) ≠ 0 := Int.mul_ne_zero (by omega) (by omega)
  have hdH : ((x.den : Int) * (y.den : Int)).natAbs ≤ a * b := by rw [Int.natAbs_mul]; exact Nat.mul_le_mul (by simpa using x2) (by simpa using y2)
  have h1 : (x.num * (y.den : Int)).natAbs ≤ a * b := by rw [Int.natAbs_mul]; exact Nat.mul_le_mul x1 (by simpa using y2)
  have h2 : (y.num * (x.den : Int)).natAbs ≤ a * b := by rw [Int.natAbs_mul, Nat.mul_comm]; exact Nat.mul_le_mul (by simpa using x2) y1
  rw [Nat.mul_assoc]
  constructor
  · refine small_of (a := x.num * (y.den : Int) + y.num * (x.den : Int)) hd (by omega) (by omega) ?_
    rw [Rat.intCast_add, Rat.intCast_mul, Rat.intCast_mul, Rat.intCast_mul, ← ex, ← ey]; grind
  · refine small_of (a := x.num * y.num) hd ?_ hdH ?_
    · rw [Int.natAbs_mul]; exact Nat.mul_le_mul x1 y1
    · rw [Rat.intCast_mul, Rat.intCast_mul, ← ex, ← ey]; grind
theorem objG_small {n m R a h : Nat} {S : Tab} {f : Nat → Rat} {j : Nat} (hj : j ≤ R) (hT : ∀ i, i < m → Small (2 ^ h) (S.T i j)) (hf : ∀ k, k < n → Small (2 ^ a) (f k)) : ∀ i, i ≤ m → Small (2 ^ (a + i * (a + h + 1))) (objG S f n i j)
  | 0, _ => by
    show Small (2 ^ (a + 0 * (a + h + 1))) (if j < n then - f j else 0)
    rw [Nat.zero_mul, Nat.add_zero]
    split
    · have := hf j (by assumption)
      exact ⟨by rw [Rat.neg_num, Int.natAbs_neg]; exact this.1, by rw [Rat.neg_den]; exact this.2⟩
    · exact ⟨by simp, by simp; exact Nat.one_le_two_pow⟩
  | i + 1, hi => by
    have ih := objG_small hj hT hf i (by omega)
    show Small _ (if S.b i < n then objG S f n i j - (- f (S.b i)) * S.T i j else objG S f n i j)
    split
    · have h1 := (small_mk (hf (S.b i) (by assumption)) (hT i (by omega))).2
      have h2 := (small_mk ih h1).1
      rw [show objG S f n i j - (- f (S.b i)) * S.T i j = objG S f n i j + f (S.b i) * S.T i j by grind]
      refine h2.more (Nat.le_of_eq ?_)
      rw [← Nat.pow_add, Nat.mul_assoc, ← Nat.pow_add, show (2 : Nat) * 2 ^ (a + i * (a + h + 1) + (a + h)) = 2 ^ 1 * 2 ^ (a + i * (a + h + 1) + (a + h)) from rfl, ← Nat.pow_add]
      congr 1
      rw [Nat.succ_mul]; omega
    · refine ih.more (Nat.pow_le_pow_right (by omega) ?_)
      rw [Nat.succ_mul]; omega
theorem pb_two {k b : Nat} (h : k < 32 * b) : 2 ^ k < PB b := by
  unfold PB
  rw [show (4294967296 : Nat) = 2 ^ 32 from rfl, ← Nat.pow_mul]
  exact Nat.pow_lt_pow_right (by omega) h
theorem Small.fit {k b : Nat} {x : Rat} (h : Small (2 ^ k) x) (hb : k < 32 * b) : Fit b x := ⟨Nat.lt_of_le_of_lt h.1 (pb_two hb), Nat.lt_of_le_of_lt h.2 (pb_two hb)⟩
/-- How many bits the numbers of the tableaux need: m rows, a bits at the start. -/
def bitsT (m a : Nat) : Nat := a + m * (a + (2 ^ m * (a + 1) - 1) + 1)
/-- A problem whose numbers have a common denominator. -/
structure FracP (n m D a : Nat) (A : Nat → Nat → Rat) (B C : Nat → Rat) : Prop where
  d : 0 < D
  dh : D ≤ 2 ^ a
  A : ∀ i, i < m → ∀ j, j < n → Frac D (2 ^ a) (A i j)
  B : ∀ i, i < m → Frac D (2 ^ a) (B i)
  C : ∀ j, j < n → Frac D (2 ^ a) (C j)
section
variable {n m D a b : Nat} {A : Nat → Nat → Rat} {B C : Nat → Rat} {F : Tab}
theorem FracP.small {x : Rat} (hd : 0 < D) (dh : D ≤ 2 ^ a) (h : Frac D (2 ^ a) x) : Small (2 ^ a) x := by
  obtain ⟨z, h1, h2⟩ := h
  exact small_of (d := (D : Int)) (by omega) h1 (by omega) h2
theorem FracP.canon_small (h : FracP n m D a A B C) {g : Nat → Rat} (hg : ∀ j, j ≤ n + m + 1 → Frac D (2 ^ a) (g j)) (hg0 : ∀ i, i < m → g (n + i) = 0) (cF : Canon m (n + m + 1) F) (e1 : Eqv m (n + m + 1) ⟨tab0 n m A B, g, fun i => n + i⟩ F) (e2 : Eqv m (n + m + 1) F ⟨tab0 n m A B, g, fun i => n + i⟩) :
    (∀ i, i < m → ∀ j, j ≤ n + m + 1 → Small (2 ^ (2 ^ m * (a + 1) - 1)) (F.T i j)) ∧ ∀ j, j ≤ n + m + 1 → Small (2 ^ (2 ^ m * (a + 1) - 1)) (F.G j) := by
  have h1 := steinitz cF m (canon0 hg0) e1 e2 (Hgt.start h.d h.dh h.A h.B hg) (miss_le _ _ _)
  exact (h1.more (hs_two m a)).small cF
theorem FracP.gArt (h : FracP n m D a A B C) : ∀ j, j ≤ n + m + 1 → Frac D (2 ^ a) (gArt n m j) := by
  intro j _
  unfold Proofs.Ytpnklmgfdihjfaa.gArt
  split
  · exact Frac.one h.dh
  · exact Frac.zero
theorem FracP.obj1 (h : FracP n m D a A B C) : ∀ j, j ≤ n + m + 1 → Frac D (2 ^ a) (obj1 C n j) := by
  intro j _
  unfold Proofs.Ytpnklmgfdihjfaa.obj1
  split
  · exact (h.C j (by assumption)).neg
  · exact Frac.zero
theorem bits_le (hm : 0 < m) : 2 ^ m * (a + 1) - 1 < bitsT m a + 1 := by
  unfold bitsT
  have := Nat.mul_le_mul_right (a + (2 ^ m * (a + 1) - 1) + 1) hm
  omega
/-- Each canonical tableau of the first phase fits. -/
theorem FracP.fit1 (h : FracP n m D a A B C) (hb : bitsT m a < 32 * b) (hm : 0 < m) (cF : Canon m (n + m + 1) F) (e1 : Eqv m (n + m + 1) (P1 n m A B) F) (e2 : Eqv m (n + m + 1) F (P1 n m A B)) :
    (∀ i, i < m → ∀ j, j < n + m + 2 → Fit b (F.T i j)) ∧ ∀ j, j < n + m + 2 → Fit b (F.G j) := by
  obtain ⟨h1, h2⟩ := h.canon_small h.gArt (fun i hi => if_neg (by omega)) cF e1 e2
  have := bits_le (a := a) hm
  exact ⟨fun i hi j hj => (h1 i hi j (by omega)).fit (by omega), fun j hj => (h2 j (by omega)).fit (by omega)⟩
/-- Each canonical tableau of the second phase fits. -/
theorem FracP.fit2 (h : FracP n m D a A B C) (hb : bitsT m a < 32 * b) (cF : Canon m (n + m + 1) F) (e1 : Eqv m (n + m + 1) ⟨tab0 n m A B, Proofs.Ytpnklmgfdihjfaa.obj1 C n, fun i => n + i⟩ F) (e2 : Eqv m (n + m + 1) F ⟨tab0 n m A B, Proofs.Ytpnklmgfdihjfaa.obj1 C n, fun i => n + i⟩) :
    (∀ i, i < m → ∀ j, j < n + m + 2 → Fit b (F.T i j)) ∧ ∀ j, j < n + m + 2 → Fit b (F.G j) := by
  obtain ⟨h1, h2⟩ := h.canon_small h.obj1 (fun i hi => if_neg (by omega)) cF e1 e2
  have hl : 2 ^ m * (a + 1) - 1 ≤ bitsT m a := by
    rcases Nat.eq_zero_or_pos m with h0 | h0
    · subst h0; unfold bitsT; simp
    · have := bits_le (a := a) h0; omega
  exact ⟨fun i hi j hj => (h1 i hi j (by omega)).fit (by omega), fun j hj => (h2 j (by omega)).fit (by omega)⟩
/-- The reduced costs of the objective fit, row by row. -/
theorem FracP.fitG (h : FracP n m D a A B C) (hb : bitsT m a < 32 * b) (cF : Canon m (n + m + 1) F) (e1 : Eqv m (n + m + 1) (P1 n m A B) F) (e2 : Eqv m (n + m + 1) F (P1 n m A B)) : ∀ i, i ≤ m → ∀ j, j < n + m + 2 → Fit b (objG F C n i j) := by
  intro i hi j hj
  obtain ⟨h1, h2⟩ := h.canon_small h.gArt (fun i hi => if_neg (by omega)) cF e1 e2
  refine (objG_small (R := n + m + 1) (show j ≤ n + m + 1 by omega) (fun l hl => h1 l hl j (by omega)) (fun k hk => FracP.small h.d h.dh (h.C k hk)) i hi).fit ?_
  have := Nat.mul_le_mul_right (a + (2 ^ m * (a + 1) - 1) + 1) hi
  unfold bitsT at hb
  omega
end
end Go.Proofs.Ytpnklmgfdihjfaa
namespace Go.Proofs.Ytpnklmgfdihjfaa
set_option linter.unusedVariables false

theorem sm_mulr (a : Rat) (f : Nat → Rat) (n : Nat) : sm (fun i => f i * a) n = sm f n * a := by
  rw [sm_congr (g := fun i => a * f i) (fun i _ => by grind), sm_mul]; grind
theorem sm_dual (n m : Nat) (A : Nat → Nat → Rat) (x y : Nat → Rat) : sm (fun j => sm (fun i => y i * A i j) m * x j) n = sm (fun i => y i * sm (fun j => A i j * x j) n) m := by
  rw [sm_congr (g := fun j => sm (fun i => y i * A i j * x j) m) (fun j _ => by rw [sm_mulr])]
  rw [sm_swap]
  refine sm_congr fun i _ => ?_
  rw [← sm_mul]
  exact sm_congr fun j _ => by grind
theorem mul_le_r {a b c : Rat} (h : a ≤ b) (hc : 0 ≤ c) : a * c ≤ b * c := Rat.mul_le_mul_of_nonneg_right h hc
theorem mul_le_l {a b c : Rat} (h : a ≤ b) (hc : 0 ≤ c) : c * a ≤ c * b := Rat.mul_le_mul_of_nonneg_left h hc
section
variable {n m : Nat} {A : Nat → Nat → Rat} {B C x y : Nat → Rat}
/-- Weak duality. -/
theorem weak (hx : Primal n m A B x) (hy : DualF n m A C y) : sm (fun j => C j * x j) n ≤ sm (fun i => B i * y i) m := by
  have h1 : sm (fun j => C j * x j) n ≤ sm (fun j => sm (fun i => y i * A i j) m * x j) n := sm_le fun j hj => mul_le_r (hy.ge j hj) (hx.nonneg j hj)
  have h2 : sm (fun i => y i * sm (fun j => A i j * x j) n) m ≤ sm (fun i => B i * y i) m := sm_le fun i hi => by
    have := mul_le_l (hx.le i hi) (hy.nonneg i hi)
    grind
  rw [sm_dual] at h1
  grind
theorem not_inf (hx : Primal n m A B x) (hy : DualF n m A (fun _ => 0) y) (hn : sm (fun i => B i * y i) m < 0) : False := by
  have h := weak hx hy
  rw [sm_zero (fun j _ => by grind)] at h
  grind
theorem not_unb {r : Nat → Rat} (hr : Primal n m A (fun _ => 0) r) (hy : DualF n m A C y) (hp : 0 < sm (fun j => C j * r j) n) : False := by
  have h := weak hr hy
  rw [sm_zero (f := fun i => (0 : Rat) * y i) (fun j _ => by grind)] at h
  grind
variable {out : Nat} {X Y Ray : Nat → Rat} {v : Rat}
theorem Cert.no1 (h : Cert n m A B C out X Y Ray v) (hx : Primal n m A B x) : out ≠ 1 := by
  rcases h with ⟨rfl, _⟩ | ⟨rfl, h1, h2, _⟩ | ⟨rfl, _⟩
  · omega
  · exact absurd (not_inf hx h1 h2) (by simp)
  · omega
theorem Cert.no2 (h : Cert n m A B C out X Y Ray v) (hy : DualF n m A C y) : out ≠ 2 := by
  rcases h with ⟨rfl, _⟩ | ⟨rfl, _⟩ | ⟨rfl, h1, h2, h3, _⟩
  · omega
  · omega
  · exact absurd (not_unb h2 hy h3) (by simp)
theorem Cert.lt (h : Cert n m A B C out X Y Ray v) : out < 3 := by
  rcases h with ⟨rfl, _⟩ | ⟨rfl, _⟩ | ⟨rfl, _⟩ <;> omega
theorem Cert.of0 (h : Cert n m A B C 0 X Y Ray v) : Primal n m A B X ∧ DualF n m A C Y ∧ sm (fun j => C j * X j) n = v ∧ sm (fun i => B i * Y i) m = v := by
  rcases h with ⟨_, h⟩ | ⟨h, _⟩ | ⟨h, _⟩
  · exact h
  · omega
  · omega
theorem Cert.outs (h : Cert n m A B C out X Y Ray v) : out = 0 ∨ out = 1 ∨ out = 2 := by
  have := h.lt; omega
variable {out' : Nat} {X' Y' Ray' : Nat → Rat} {v' : Rat}
end
end Go.Proofs.Ytpnklmgfdihjfaa
namespace Go.Proofs.Ytpnklmgfdihjfaa
set_option linter.unusedVariables false

/-- A cover W of the set s by the edges es 0 .. es (m - 1), a packing P of it, of the same total. -/
structure CovOK (n m : Nat) (es : Nat → Nat) (s : Nat) (W P : Nat → Rat) (v : Rat) : Prop where
  w0 : ∀ i, i < m → 0 ≤ W i
  p0 : ∀ x, x < n → 0 ≤ P x
  pz : ∀ x, x < n → s.testBit x = false → P x = 0
  cov : ∀ x, x < n → s.testBit x = true → 1 ≤ sm (fun i => if (es i).testBit x then W i else 0) m
  pac : ∀ i, i < m → sm (fun x => if (es i).testBit x then P x else 0) n ≤ 1
  ws : sm W m = v
  ps : sm P n = v
section
variable {n m : Nat} {es : Nat → Nat} {s s' : Nat} {W P : Nat → Rat}
/-- Weak duality. -/
theorem cov_weak (w0 : ∀ i, i < m → 0 ≤ W i) (p0 : ∀ x, x < n → 0 ≤ P x) (pz : ∀ x, x < n → s.testBit x = false → P x = 0)
    (cov : ∀ x, x < n → s.testBit x = true → 1 ≤ sm (fun i => if (es i).testBit x then W i else 0) m)
    (pac : ∀ i, i < m → sm (fun x => if (es i).testBit x then P x else 0) n ≤ 1) : sm P n ≤ sm W m := by
  have h1 : sm P n ≤ sm (fun x => sm (fun i => W i * (if (es i).testBit x then 1 else 0)) m * P x) n := by
    refine sm_le fun x hx => ?_
    cases hs : s.testBit x with
    | false => rw [pz x hx hs]; grind
    | true =>
      have h := cov x hx hs
      rw [sm_congr (g := fun i => W i * (if (es i).testBit x then 1 else 0)) (fun i _ => by split <;> grind)] at h
      have := mul_le_r h (p0 x hx)
      grind
  have h2 : sm (fun i => W i * sm (fun x => (if (es i).testBit x then 1 else 0) * P x) n) m ≤ sm W m := by
    refine sm_le fun i hi => ?_
    have h := pac i hi
    rw [sm_congr (g := fun x => (if (es i).testBit x then 1 else 0) * P x) (fun x _ => by split <;> grind)] at h
    have := mul_le_l h (w0 i hi)
    grind
  rw [sm_dual n m (fun i x => if (es i).testBit x then 1 else 0) P W] at h1
  grind
variable {W' P' : Nat → Rat} {v v' : Rat}
end
/-- A row in which the places L 0 .. L (k - 1) hold X 0 .. X (k - 1), the others 0. -/
def putS (L : Nat → Nat) (X : Nat → Rat) (k v : Nat) : Rat := sm (fun j => if L j = v then X j else 0) k
theorem putS_sum (L : Nat → Nat) (X g : Nat → Rat) {k n : Nat} (hL : ∀ j, j < k → L j < n) : sm (fun v => g v * putS L X k v) n = sm (fun j => g (L j) * X j) k := by
  rw [sm_congr (g := fun v => sm (fun j => g v * (if L j = v then X j else 0)) k) (fun v _ => by rw [sm_mul]; rfl), sm_swap]
  refine sm_congr fun j hj => ?_
  rw [sm_one (k := L j) (hL j hj) (fun i _ hne => by rw [if_neg (fun e => hne e.symm)]; grind), if_pos rfl]
theorem putS_sum1 (L : Nat → Nat) (X : Nat → Rat) {k n : Nat} (hL : ∀ j, j < k → L j < n) : sm (putS L X k) n = sm X k := by
  have h := putS_sum L X (fun _ => 1) hL
  rw [sm_congr (g := putS L X k) (fun v _ => by grind), sm_congr (f := fun j => 1 * X j) (g := X) (fun v _ => by grind)] at h
  exact h
theorem putS_none (L : Nat → Nat) (X : Nat → Rat) {k v : Nat} (h : ∀ j, j < k → L j ≠ v) : putS L X k v = 0 := sm_zero fun j hj => if_neg (h j hj)
theorem putS_succ (L : Nat → Nat) (X : Nat → Rat) (k v : Nat) : putS L X (k + 1) v = putS L X k v + (if L k = v then X k else 0) := rfl
theorem putS_at (L : Nat → Nat) (X : Nat → Rat) {k : Nat} (h : ∀ j, j < k → L j ≠ L k) : (fun v => if v = L k then X k else putS L X k v) = putS L X (k + 1) := by
  funext v
  rw [putS_succ]
  by_cases e : v = L k
  · subst e; rw [if_pos rfl, if_pos rfl, putS_none L X h]; grind
  · rw [if_neg e, if_neg (fun h => e h.symm)]; grind
theorem putS_nonneg (L : Nat → Nat) (X : Nat → Rat) {k v : Nat} (h : ∀ j, j < k → 0 ≤ X j) : 0 ≤ putS L X k v := sm_nonneg fun j hj => by split; exact h j hj; exact Rat.le_refl
/-- The vertices of the set, ascending. -/
def memL (s : Nat) : Nat → List Nat
  | 0 => []
  | v + 1 => if s.testBit v then memL s v ++ [v] else memL s v
/-- The first edge of each part of the set that is not empty. -/
def fstL (es : Nat → Nat) (s : Nat) : Nat → List Nat
  | 0 => []
  | i + 1 => if es i &&& s = 0 ∨ es i &&& s ∈ (fstL es s i).map (fun k => es k &&& s) then fstL es s i else fstL es s i ++ [i]
def atL (l : List Nat) (i : Nat) : Nat := l.getD i 0
theorem atL_mem {l : List Nat} {i : Nat} (h : i < l.length) : atL l i ∈ l := by
  unfold atL; rw [List.getD_eq_getElem?_getD, List.getElem?_eq_getElem h]; exact List.getElem_mem h
theorem mem_atL {l : List Nat} {x : Nat} (h : x ∈ l) : ∃ i, i < l.length ∧ atL l i = x := by
  obtain ⟨i, hi, e⟩ := List.getElem_of_mem h
  exact ⟨i, hi, by unfold atL; rw [List.getD_eq_getElem?_getD, List.getElem?_eq_getElem hi]; exact e⟩
theorem mem_memL {s : Nat} : ∀ {n x : Nat}, x ∈ memL s n ↔ x < n ∧ s.testBit x = true
  | 0, x => by simp [memL]
  | n + 1, x => by
    unfold memL
    split
    · rename_i h
      rw [List.mem_append, mem_memL, List.mem_singleton]
      constructor
      · rintro (⟨h1, h2⟩ | rfl)
        · exact ⟨by omega, h2⟩
        · exact ⟨by omega, h⟩
      · rintro ⟨h1, h2⟩
        by_cases e : x = n
        · exact .inr e
        · exact .inl ⟨by omega, h2⟩
    · rename_i h
      rw [mem_memL]
      constructor
      · rintro ⟨h1, h2⟩; exact ⟨by omega, h2⟩
      · rintro ⟨h1, h2⟩
        by_cases e : x = n
        · subst e; exact absurd h2 h
        · exact ⟨by omega, h2⟩
theorem memL_nodup (s : Nat) : ∀ n, (memL s n).Nodup
  | 0 => List.nodup_nil
  | n + 1 => by
    unfold memL
    split
    · rw [List.nodup_append]
      exact ⟨memL_nodup s n, by simp, fun a ha b hb => by rw [List.mem_singleton] at hb; subst hb; have := (mem_memL.1 ha).1; omega⟩
    · exact memL_nodup s n
theorem memL_len (s : Nat) : ∀ n, (memL s n).length ≤ n
  | 0 => by simp [memL]
  | n + 1 => by
    have := memL_len s n
    unfold memL
    split
    · simp; omega
    · omega
theorem fstL_lt {es : Nat → Nat} {s : Nat} : ∀ {m x : Nat}, x ∈ fstL es s m → x < m
  | 0, x, h => by simp [fstL] at h
  | m + 1, x, h => by
    unfold fstL at h
    split at h
    · have := fstL_lt h; omega
    · rw [List.mem_append, List.mem_singleton] at h
      rcases h with h | h
      · have := fstL_lt h; omega
      · omega
theorem fstL_len (es : Nat → Nat) (s : Nat) : ∀ m, (fstL es s m).length ≤ m
  | 0 => by simp [fstL]
  | m + 1 => by
    have := fstL_len es s m
    unfold fstL
    split
    · omega
    · simp; omega
theorem fstL_nodup (es : Nat → Nat) (s : Nat) : ∀ m, (fstL es s m).Nodup
  | 0 => List.nodup_nil
  | m + 1 => by
    unfold fstL
    split
    · exact fstL_nodup es s m
    · rw [List.nodup_append]
      exact ⟨fstL_nodup es s m, by simp, fun a ha b hb => by rw [List.mem_singleton] at hb; subst hb; have := fstL_lt ha; omega⟩
theorem fstL_has {es : Nat → Nat} {s : Nat} : ∀ {m i : Nat}, i < m → es i &&& s ≠ 0 → ∃ k, k ∈ fstL es s m ∧ es k &&& s = es i &&& s
  | 0, i, h, _ => absurd h (by omega)
  | m + 1, i, h, h0 => by
    unfold fstL
    by_cases e : i = m
    · subst e
      split
      · rename_i hh
        rcases hh with hh | hh
        · exact absurd hh h0
        · obtain ⟨k, hk, e⟩ := List.mem_map.1 hh
          exact ⟨k, hk, e⟩
      · exact ⟨i, by simp, rfl⟩
    · obtain ⟨k, hk, e2⟩ := fstL_has (m := m) (i := i) (by omega) h0
      split
      · exact ⟨k, hk, e2⟩
      · exact ⟨k, List.mem_append.2 (.inl hk), e2⟩
theorem atL_inj {l : List Nat} (h : l.Nodup) {i j : Nat} (hi : i < l.length) (hj : j < i) : atL l j ≠ atL l i := by
  unfold atL
  rw [List.getD_eq_getElem?_getD, List.getD_eq_getElem?_getD, List.getElem?_eq_getElem hi, List.getElem?_eq_getElem (by omega)]
  have := List.pairwise_iff_getElem.1 h j i (by omega) hi hj
  exact this
/-- The matrix of the program's problem. -/
def cvA (es : Nat → Nat) (s : Nat) (L F : List Nat) (i j : Nat) : Rat := if (es (atL F i) &&& s).testBit (atL L j) then 1 else 0
section
variable {n m : Nat} {es : Nat → Nat} {s : Nat} {X Y Ray : Nat → Rat} {v : Rat} {out : Nat}
theorem cv_out (hc : ∀ x, x < n → s.testBit x = true → ∃ i, i < m ∧ (es i).testBit x = true)
    (h : Cert (memL s n).length (fstL es s m).length (cvA es s (memL s n) (fstL es s m)) (fun _ => 1) (fun _ => 1) out X Y Ray v) : out = 0 := by
  have h1 : out ≠ 1 := h.no1 (x := fun _ => 0) ⟨fun i _ => Rat.le_refl, fun i _ => by rw [sm_zero fun j _ => by grind]; decide⟩
  have h2 : out ≠ 2 := by
    refine h.no2 (y := fun _ => 1) ⟨fun i _ => (by decide), fun j hj => ?_⟩
    obtain ⟨hx, hb⟩ := mem_memL.1 (atL_mem hj)
    obtain ⟨i, hi, he⟩ := hc _ hx hb
    have hp : es i &&& s ≠ 0 := fun e => by
      have : (es i &&& s).testBit (atL (memL s n) j) = true := by rw [Nat.testBit_and, he, hb]; rfl
      rw [e, Nat.zero_testBit] at this; exact absurd this (by decide)
    obtain ⟨k, hk, e2⟩ := fstL_has hi hp
    obtain ⟨k', hk', e3⟩ := mem_atL hk
    have hone : cvA es s (memL s n) (fstL es s m) k' j = 1 := by unfold cvA; rw [e3, e2, Nat.testBit_and, he, hb]; rfl
    have hge : ∀ i, i < (fstL es s m).length → (if i = k' then (1 : Rat) else 0) ≤ 1 * cvA es s (memL s n) (fstL es s m) i j := fun i _ => by
      by_cases e : i = k'
      · subst e; rw [if_pos rfl, hone]; grind
      · rw [if_neg e]; unfold cvA; split <;> grind
    have h3 := sm_le hge
    rw [sm_one (k := k') hk' (fun i _ hne => if_neg hne), if_pos rfl] at h3
    exact h3
  rcases h.outs with h0 | h0 | h0
  · exact h0
  · exact absurd h0 h1
  · exact absurd h0 h2
theorem cv_ok (h : Cert (memL s n).length (fstL es s m).length (cvA es s (memL s n) (fstL es s m)) (fun _ => 1) (fun _ => 1) 0 X Y Ray v) :
    CovOK n m es s (putS (atL (fstL es s m)) Y (fstL es s m).length) (putS (atL (memL s n)) X (memL s n).length) v := by
  obtain ⟨hx, hy, e1, e2⟩ := h.of0
  have hL : ∀ j, j < (memL s n).length → atL (memL s n) j < n := fun j hj => (mem_memL.1 (atL_mem hj)).1
  have hF : ∀ j, j < (fstL es s m).length → atL (fstL es s m) j < m := fun j hj => fstL_lt (atL_mem hj)
  refine ⟨fun i _ => putS_nonneg _ _ hy.nonneg, fun x _ => putS_nonneg _ _ hx.nonneg, fun x hx' hb => putS_none _ _ fun j hj e => ?_, fun x hxn hb => ?_, fun i hi => ?_, ?_, ?_⟩
  · have := (mem_memL.1 (atL_mem hj)).2
    rw [e, hb] at this; exact absurd this (by decide)
  · obtain ⟨j, hj, rfl⟩ := mem_atL (mem_memL.2 ⟨hxn, hb⟩)
    have h1 := hy.ge j hj
    rw [sm_congr (g := fun i => (if (es i).testBit (atL (memL s n) j) then 1 else 0) * putS (atL (fstL es s m)) Y (fstL es s m).length i) (fun i _ => by split <;> grind), putS_sum _ _ (fun i => if (es i).testBit (atL (memL s n) j) then 1 else 0) hF]
    rw [sm_congr (g := fun i => Y i * cvA es s (memL s n) (fstL es s m) i j) (fun i _ => by unfold cvA; rw [Nat.testBit_and, hb, Bool.and_true]; grind)]
    exact h1
  · rw [sm_congr (g := fun x => (if (es i).testBit x then 1 else 0) * putS (atL (memL s n)) X (memL s n).length x) (fun x _ => by split <;> grind), putS_sum _ _ (fun x => if (es i).testBit x then 1 else 0) hL]
    have key : ∀ j, j < (memL s n).length → (es i).testBit (atL (memL s n) j) = (es i &&& s).testBit (atL (memL s n) j) := fun j hj => by
      rw [Nat.testBit_and, (mem_memL.1 (atL_mem hj)).2, Bool.and_true]
    by_cases h0 : es i &&& s = 0
    · rw [sm_zero fun j hj => by rw [key j hj, h0, Nat.zero_testBit]; simp]; decide
    · obtain ⟨k, hk, e3⟩ := fstL_has hi h0
      obtain ⟨k', hk', rfl⟩ := mem_atL hk
      have h1 := hx.le k' hk'
      rw [sm_congr (g := fun j => cvA es s (memL s n) (fstL es s m) k' j * X j) (fun j hj => by unfold cvA; rw [key j hj, e3])]
      exact h1
  · rw [putS_sum1 _ _ hF, ← e2]; exact sm_congr fun i _ => by grind
  · rw [putS_sum1 _ _ hL, ← e1]; exact sm_congr fun i _ => by grind
end
end Go.Proofs.Ytpnklmgfdihjfaa
namespace Go.Proofs.Ytpnklmgfdihjfaa
open Go.RowKit
set_option linter.unusedVariables false

def MpB (w : World) (g : Nat) (ks : List Nat) : Prop := ∃ (es : Array MapEntry) (clock : Nat), w.heap[g]? = some (.map es clock) ∧ es.toList.map (fun e => (e.key, e.val)) = ks.map (fun k : Nat => (Value.int .u32 (k : Int), Value.bool true))
section
variable {w w' : World} {g : Nat} {ks : List Nat}
theorem MpB.new_ (w : World) : MpB (w.alloc (.map #[] 0)) w.heap.size [] := ⟨#[], 0, (MapKept.heap_alloc w _).1, rfl⟩
theorem MpB.lt (h : MpB w g ks) : g < w.heap.size := by
  obtain ⟨es, c, h1, _⟩ := h
  rcases Nat.lt_or_ge g w.heap.size with h2 | h2
  · exact h2
  · rw [Array.getElem?_eq_none h2] at h1; cases h1
theorem MpB.keep (h : MpB w g ks) (hb : Below w.heap.size w w') : MpB w' g ks := by
  have hl := h.lt
  obtain ⟨es, c, h1, h2⟩ := h
  exact ⟨es, c, (hb.block g hl).trans h1, h2⟩
theorem MpB.far (h : MpB w g ks) {p : Addr} (hne : g ≠ p.block) (u : Value) : MpB (w.setCell p u) g ks := by
  obtain ⟨es, c, h1, h2⟩ := h
  exact ⟨es, c, (Below.heap_setCell w p u g hne).trans h1, h2⟩
theorem MpB.grown (h : MpB w g ks) {row : Option Nat} (hg : w.grownBy w' row) (hne : some g ≠ row) : MpB w' g ks := by
  have hl := h.lt
  obtain ⟨es, c, h1, h2⟩ := h
  exact ⟨es, c, (hg.block g hl hne).trans h1, h2⟩
/-- Not a block of cells. -/
theorem MpB.ne {t : TypeId} {cs : Array Value} {g' : Nat} (h : MpB w g ks) (hb : Blk w g' t cs) : g' ≠ g := by
  rintro rfl
  obtain ⟨es, c, h1, h2⟩ := h
  have h4 := h1.symm.trans hb
  injection h4 with h4
  cases h4
theorem key_in {es : Array MapEntry} (h2 : es.toList.map (fun e => (e.key, e.val)) = ks.map (fun k : Nat => (Value.int .u32 (k : Int), Value.bool true))) : ∀ x ∈ es.toList, (∃ k, k ∈ ks ∧ x.key = .int .u32 (k : Int)) ∧ x.val = .bool true := by
  intro x hx
  have := List.mem_map_of_mem (f := fun e => (e.key, e.val)) hx
  rw [h2] at this
  obtain ⟨k, hk, e⟩ := List.mem_map.1 this
  injection e with e1 e2
  exact ⟨⟨k, hk, e1.symm⟩, e2.symm⟩
theorem find_b {es : Array MapEntry} {k : Nat} (h2 : es.toList.map (fun e => (e.key, e.val)) = ks.map (fun k : Nat => (Value.int .u32 (k : Int), Value.bool true))) :
    (Instr.findNow (.int .u32) (.int .u32 (k : Int)) es.toList 0 = some none ∧ k ∉ ks) ∨ ∃ j, Instr.findNow (.int .u32) (.int .u32 (k : Int)) es.toList 0 = some (some (j, .bool true)) ∧ k ∈ ks := by
  rcases MapKept.findNow_spec (d := .int .u32) (k := .int .u32 (k : Int)) (by simp [MapKept.IsKey]) es.toList 0 (fun x hx => by obtain ⟨⟨k', _, e⟩, _⟩ := key_in h2 x hx; rw [e]; simp [MapKept.IsKey]) with ⟨h3, h4⟩ | ⟨j, e, h3, h4, h5⟩
  · refine .inl ⟨h3, fun hk => ?_⟩
    have : (Value.int .u32 (k : Int), Value.bool true) ∈ es.toList.map (fun e => (e.key, e.val)) := by rw [h2]; exact List.mem_map.2 ⟨k, hk, rfl⟩
    obtain ⟨x, hx, e⟩ := List.mem_map.1 this
    injection e with e1 e2
    exact h4 x hx e1
  · obtain ⟨⟨k', hk, e1⟩, e2⟩ := key_in h2 e (List.mem_of_getElem? h4)
    rw [e2, Nat.zero_add] at h3
    rw [e1] at h5
    injection h5 with _ h5
    have : k' = k := by omega
    subst this
    exact .inr ⟨j, h3, hk⟩
theorem lookup_b {k : Nat} (h : MpB w g ks) : (Instr.lookup 108 (.map (some g)) (.int .u32 (k : Int)) false).run Try.prog w = .ok (.bool (decide (k ∈ ks))) w := by
  obtain ⟨es, c, h1, h2⟩ := h
  have hz : (zeroValue 4).run Try.prog w = .ok (.bool false) w := Try.zeroValue4 w
  rcases find_b (k := k) h2 with ⟨h3, h4⟩ | ⟨j, h3, h4⟩
  · simp [Instr.lookup, run_underlying Try.underlying108, MapKept.run_getObj_map h1, MapKept.run_checkKey Try.underlying25 (k := .int .u32 (k : Int)) (by simp [MapKept.IsKey]), MapKept.run_findKey Try.underlying25 h3, hz, Result.andThen, h4]
  · simp [Instr.lookup, run_underlying Try.underlying108, MapKept.run_getObj_map h1, MapKept.run_checkKey Try.underlying25 (k := .int .u32 (k : Int)) (by simp [MapKept.IsKey]), MapKept.run_findKey Try.underlying25 h3, Result.andThen, h4]
/-- A new key is stored: the map's block alone changes. -/
theorem update_b {k : Nat} (h : MpB w g ks) (hk : k ∉ ks) : ∃ w', (Instr.mapUpdate 108 (.map (some g)) (.int .u32 (k : Int)) (.bool true)).run Try.prog w = .ok () w' ∧ MpB w' g (ks ++ [k]) ∧ w.grownBy w' (some g) ∧ w'.heap.size = w.heap.size ∧ KeepsN w w' ∧ (∀ B, B ≤ g → Below B w w') := by
  obtain ⟨es, c, h1, h2⟩ := h
  rcases find_b (k := k) h2 with ⟨h3, h4⟩ | ⟨j, h3, h4⟩
  · have hs := MapKept.heap_set (o' := Obj.map (es.push ⟨.int .u32 (k : Int), .bool true, c⟩) (c + 1)) h1
    refine ⟨{ w with heap := w.heap.setIfInBounds g (.map (es.push ⟨.int .u32 (k : Int), .bool true, c⟩) (c + 1)) }, ?_, ⟨_, _, hs.1, ?_⟩, ⟨rfl, rfl, rfl, by simp, fun i hi hne => hs.2 i (fun e => hne (by rw [e]))⟩, by simp, ⟨by simp, fun p x hp => ?_⟩, fun B hB => ⟨rfl, rfl, rfl, by simp, fun i hi => hs.2 i (by omega)⟩⟩
    · simp [Instr.mapUpdate, run_underlying Try.underlying108, MapKept.run_getObj_map h1, MapKept.run_checkKey Try.underlying25 (k := .int .u32 (k : Int)) (by simp [MapKept.IsKey]), MapKept.run_findKey Try.underlying25 h3, MapKept.run_setObj_map _ h1, Result.andThen]
    · rw [Array.toList_push, List.map_append, h2, List.map_append]; rfl
    · unfold World.cell? at hp ⊢
      by_cases e : p.block = g
      · rw [e, h1] at hp; cases hp
      · have := hs.2 p.block e
        simp only at this ⊢
        rw [this]; exact hp
  · exact absurd h4 hk
end
end Go.Proofs.Ytpnklmgfdihjfaa
