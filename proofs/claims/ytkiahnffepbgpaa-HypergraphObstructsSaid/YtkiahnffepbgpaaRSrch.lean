/-
  Contracts of the reference's listed, search and Obstruction. Printed by gen/rlst.py.
-/
import Derived.Test.YtkiahnffepbgpaaRObs
import Derived.Test.YtkiahnffepbgpaaScW
namespace Go.Proofs.Ytkiahnffepbgpaa
open Go.RowKit
set_option linter.unusedSimpArgs false
set_option linter.unusedVariables false

theorem add_zero' (ad : Addr) : Addr.add ad 0 = ad := by unfold Addr.add; split <;> simp_all
def minTo (l : List Nat) (k : Nat) : Bool := (List.range k).all fun i => decide (nth l 0 ≤ nth l i)
def ascTo (l : List Nat) (k : Nat) : Bool := (List.range k).all fun i => decide (nth l i ≤ nth l (i + 1))
theorem minTo_succ (l : List Nat) (k : Nat) : minTo l (k + 1) = (minTo l k && decide (nth l 0 ≤ nth l k)) := all_range_succ _ _
theorem ascTo_succ (l : List Nat) (k : Nat) : ascTo l (k + 1) = (ascTo l k && decide (nth l k ≤ nth l (k + 1))) := all_range_succ _ _
theorem minTo_up {l : List Nat} {k m : Nat} (h : minTo l k = false) (hk : k ≤ m) : minTo l m = false := by
  rw [← Bool.not_eq_true] at h ⊢
  intro h2
  apply h
  unfold minTo at h2 ⊢
  rw [List.all_eq_true] at h2 ⊢
  intro x hx
  exact h2 x (by rw [List.mem_range] at hx ⊢; omega)
theorem listedB_eq (R : List Nat) (l : List Nat) : listedB R l = (minTo l l.length && (if decide (4 ≤ l.length) && !(nth R (nth l 0)).testBit (nth l 2) then decide (nth l 1 < nth l (l.length - 1)) else ascTo l (l.length - 1))) := rfl

set_option maxRecDepth 100000 in
set_option maxHeartbeats 8000000 in
theorem rlisted_any (n : Nat) (A : Option Addr) (es : List Nat) (len c : Nat) (B : Option Addr) (l : List Nat) (m d : Nat) (w : World) (hr : Es w w.heap.size A len es) (hcc : checkCode n es = 0) (hx : Xs w w.heap.size B m (ints l)) (hl : ∀ i, i < l.length → nth l i < n) :
    Calls Try.prog 57 #[.agg #[.int .i64 n, .slice A len c], .slice B m d] w fun e w' => e = .returned (.bool (listedB (adjRow n es) l)) ∧ Below w.heap.size w w' := by
  obtain ⟨_, hn, hl64, hes⟩ := checkCode_zero hcc
  have hn' : n ≤ 32 := by omega
  have hes' : ∀ e ∈ es, e < 2 ^ n := by simpa using hes
  have HES := Lib.hid hes'; clear hes hes' hl64 hn hcc
  have hm9 := hx.le
  have hml : m = l.length := by rw [hx.len, ints_length]
  subst hml
  have HX := Lib.hid hx; clear hx
  have HR := Lib.hid hr; clear hr
  have HL := Lib.hid hl; clear hl
  have HG := Lib.hid (GB.made w 26 (.int .i64 n) (.slice A len c))
  have HW := Lib.hid (al w (.cells #[.int .i64 n, .slice A len c] 26))
  go_enter Try.func57, Try.ntmps57
  go_wp2_with fail
  go_loopw [4, 5, 6] (fun _ av iv wr => ∃ (k K : Nat) (ab : Bool), iv = .int .i64 K ∧ k + 1 = K ∧ (k + 1 ≤ l.length ∨ k = 0) ∧ av = .bool ab ∧ Hid ((ab = ascTo l k ∧ (l.length ≠ 0 → minTo l (k + 1) = true)) ∧ Below w.heap.size w wr ∧ GB wr w.heap.size 26 (.int .i64 n) (.slice A len c))) (fun _ _ iv _ => l.length - (intOf iv).toNat)
  case atStart => exact ⟨0, 1, true, rfl, rfl, .inr rfl, rfl, Lib.hid ⟨⟨rfl, fun _ => by simp [minTo]⟩, HW.out, HG.out⟩⟩
  case round =>
    obtain ⟨k, K, ab, rfl, hK, hk, rfl, HK⟩ := hrel
    rw [hK] at HK hk
    by_cases hkm : K < l.length
    · obtain ⟨ad, rfl, hb1, c1⟩ := (HX.out.new HK.out.2.1).at_ hkm
      obtain ⟨ad2, he, _, c0⟩ := (HX.out.new HK.out.2.1).at_ (show k < l.length by omega)
      injection he with he; subst he
      obtain ⟨ad2, he, _, cz⟩ := (HX.out.new HK.out.2.1).at_ (show 0 < l.length by omega)
      injection he with he; subst he
      rw [inth_ints hkm] at c1
      rw [inth_ints (by omega)] at c0 cz
      have HAS := Lib.hid (ascTo_succ l k)
      have HMI := Lib.hid (minTo_succ l K)
      rw [hK] at HAS
      have HUP := Lib.hid (fun h => minTo_up (l := l) (k := K + 1) (m := l.length) h (by omega))
      have cz2 : wr.cell? ad = some (.int .i64 (nth l 0 : Int)) := by rw [show Addr.add ad 0 = ad from add_zero' ad] at cz; exact cz
      generalize nth l K = y1 at *
      generalize nth l k = y0 at *
      generalize nth l 0 = yz at *
      have j1 : (0 : Int) ≤ (K : Int) := by omega
      have j2 : (K : Int) < (l.length : Int) := by omega
      have j3 : (K : Int) - 1 = (k : Int) := by omega
      have j4 : (0 : Int) ≤ (k : Int) := by omega
      have j5 : (k : Int) < (l.length : Int) := by omega
      have j6 : (0 : Int) < (l.length : Int) := by omega
      have j7 : (0 : Nat) < l.length := by omega
      by_cases h2 : y1 < yz
      · have t2 : decide (y1 < yz) = true := by simp [h2]
        have HF := Lib.hid (show listedB (adjRow n es) l = false by rw [listedB_eq, HUP.out (by rw [HMI.out, decide_eq_false (by omega), Bool.and_false])]; rfl)
        clear h2
        by_cases h1 : y1 < y0
        · have t1 : decide (y1 < y0) = true := by simp [h1]
          clear h1
          go_wp2_with fail
          go_quiet (fail)
          go_wp2_with fail
          go_quiet (fail)
          go_wp2_with fail
          go_ret
          exact ⟨ret_bool HF.out.symm, below_drewN (below_drewN HK.out.2.1 _) _⟩
        · have t1 : decide (y1 < y0) = false := by simp; omega
          clear h1
          go_wp2_with fail
          go_quiet (fail)
          go_wp2_with fail
          go_quiet (fail)
          go_wp2_with fail
          go_ret
          exact ⟨ret_bool HF.out.symm, below_drewN (below_drewN HK.out.2.1 _) _⟩
      · have t2 : decide (y1 < yz) = false := by simp; omega
        have HM2 := Lib.hid (show minTo l (K + 1) = true by rw [HMI.out, HK.out.1.2 (by omega), decide_eq_true (by omega)]; rfl)
        clear h2
        by_cases h1 : y1 < y0
        · have t1 : decide (y1 < y0) = true := by simp [h1]
          have HA2 := Lib.hid (show false = ascTo l K by rw [HAS.out, decide_eq_false (by omega), Bool.and_false])
          clear h1
          go_wp2_with fail
          go_quiet (fail)
          go_wp2_with fail
          go_quiet (fail)
          go_wp2_with fail
          exact ⟨⟨K, K + 1, false, by go_num, rfl, by omega, rfl, Lib.hid ⟨⟨HA2.out, fun _ => HM2.out⟩, below_drewN HK.out.2.1 _, HK.out.2.2.drewN _⟩⟩, by simp [intOf]; omega⟩
        · have t1 : decide (y1 < y0) = false := by simp; omega
          have HA2 := Lib.hid (show ab = ascTo l K by rw [HAS.out, decide_eq_true (by omega), Bool.and_true]; exact HK.out.1.1)
          clear h1
          go_wp2_with fail
          go_quiet (fail)
          go_wp2_with fail
          go_quiet (fail)
          go_wp2_with fail
          exact ⟨⟨K, K + 1, ab, by go_num, rfl, by omega, rfl, Lib.hid ⟨⟨HA2.out, fun _ => HM2.out⟩, below_drewN HK.out.2.1 _, HK.out.2.2.drewN _⟩⟩, by simp [intOf]; omega⟩
    · have HMT := Lib.hid (show minTo l l.length = true by
        by_cases h0 : l.length = 0
        · rw [h0]; rfl
        · have := HK.out.1.2 h0
          rwa [show K = l.length by omega] at this)
      have HAT := Lib.hid (show ab = ascTo l (l.length - 1) by rw [show l.length - 1 = k by omega]; exact HK.out.1.1)
      by_cases h4 : 4 ≤ l.length
      · have e4 : decide ((l.length : Int) ≥ 4) = true := by simp; omega
        have t4 : decide (4 ≤ l.length) = true := by simp; omega
        obtain ⟨ad, rfl, hb1, c1⟩ := (HX.out.new HK.out.2.1).at_ (show 1 < l.length by omega)
        obtain ⟨ad2, he, _, cl⟩ := (HX.out.new HK.out.2.1).at_ (show l.length - 1 < l.length by omega)
        injection he with he; subst he
        rw [inth_ints (by omega)] at c1 cl
        have hn0 := HL.out 0 (by omega)
        have hn2 := HL.out 2 (by omega)
        have C0 : Hid (∀ W, Below w.heap.size w W → W.cell? (Addr.add ad 0) = some (.int .i64 (nth l 0 : Int))) := Lib.hid fun W hW => by
          obtain ⟨ad2, he, _, h⟩ := (HX.out.new hW).at_ (show 0 < l.length by omega)
          injection he with he; subst he; rw [inth_ints (by omega)] at h; exact h
        have C2 : Hid (∀ W, Below w.heap.size w W → W.cell? (Addr.add ad 2) = some (.int .i64 (nth l 2 : Int))) := Lib.hid fun W hW => by
          obtain ⟨ad2, he, _, h⟩ := (HX.out.new hW).at_ (show 2 < l.length by omega)
          injection he with he; subst he; rw [inth_ints (by omega)] at h; exact h
        have CA : Hid (∀ W, Below w.heap.size w W → W.cell? (Addr.add ad 1) = some (.int .i64 (nth l 1 : Int)) ∧ W.cell? (Addr.add ad (l.length - 1)) = some (.int .i64 (nth l (l.length - 1) : Int))) := Lib.hid fun W hW => by
          obtain ⟨ad2, he, _, h⟩ := (HX.out.new hW).at_ (show 1 < l.length by omega)
          injection he with he; subst he; rw [inth_ints (by omega)] at h
          obtain ⟨ad2, he, _, h2⟩ := (HX.out.new hW).at_ (show l.length - 1 < l.length by omega)
          injection he with he; subst he; rw [inth_ints (by omega)] at h2
          exact ⟨h, h2⟩
        have HLE := Lib.hid (listedB_eq (adjRow n es) l)
        obtain ⟨lb, hlb⟩ : ∃ lb, lb = adjB es (nth l 0) (nth l 2) := ⟨_, rfl⟩
        have AD : Hid (∀ W, Below w.heap.size w W → Calls Try.prog 45 #[.agg #[.int .i64 n, .slice A len c], .int .i64 (nth l 0 : Int), .int .i64 (nth l 2 : Int)] W fun e w' => e = .returned (.bool lb) ∧ Below W.heap.size W w') := Lib.hid fun W hW => by
          rw [hlb]; exact adjacent_any n _ _ A es len c W (HR.out.new hW)
        have HLK := Lib.hid (show (nth (adjRow n es) (nth l 0)).testBit (nth l 2) = lb by rw [hlb, adj_link hn' HES.out hn0])
        clear hlb c1 cl
        generalize nth l 0 = y0 at *
        generalize nth l 2 = y2 at *
        generalize hy1 : nth l 1 = y1 at *
        obtain ⟨yl, hyl⟩ : ∃ yl, yl = nth l (l.length - 1) := ⟨_, rfl⟩
        rw [← hyl] at CA HLE
        clear hyl hy1
        obtain ⟨L1, hL1⟩ : ∃ L1, L1 = l.length - 1 := ⟨_, rfl⟩
        rw [← hL1] at CA
        have HB := Lib.hid HK.out.2.1
        have HG := Lib.hid HK.out.2.2
        go_upto_region 9 with (fail)
        refine wp_region_each (kss := [[], [(0, 31)], [(1, 32)], [(2, 33)], [(3, 34)], [(3, 34)], [(3, 34), (5, 36)], [(3, 34), (6, 37)], [(3, 34)], [(3, 34), (8, 39)], [(3, 34), (9, 40)], [(3, 34), (4, 35), (7, 38), (10, 41)], [(3, 34), (11, 42)], [(3, 34), (12, 43)]]) [(1, .slice (some ad) (l.length) d), (2, .pointer (some ⟨w.heap.size, 0, none⟩))] [fun zz _ => zz = .slice (some ad) (l.length) d, fun zz _ => zz = .int .i64 (l.length), fun zz _ => zz = .bool true, fun zz _ => zz = .bool true, fun zz _ => zz = .agg #[.int .i64 ((n : Int)), .slice A len c], fun zz _ => zz = .slice (some ad) (l.length) d, fun zz _ => zz = .pointer (some (Addr.add ad 0)), fun zz _ => zz = .int .i64 ((y0 : Int)), fun zz _ => zz = .slice (some ad) (l.length) d, fun zz _ => zz = .pointer (some (Addr.add ad 2)), fun zz _ => zz = .int .i64 ((y2 : Int)), fun zz _ => zz = .bool lb, fun zz _ => zz = .bool (!lb), fun zz _ => zz = .bool (!lb)] (by kernel_rfl) (by kernel_rfl) ⟨rfl, rfl, trivial⟩ ?_ ?_ ?_
        · exact ⟨fun _ _ _ h _ => h, fun _ _ _ h _ => h, fun _ _ _ h _ => h, fun _ _ _ h _ => h, fun _ _ _ h _ => h, fun _ _ _ h _ => h, fun _ _ _ h _ => h, fun _ _ _ h _ => h, fun _ _ _ h _ => h, fun _ _ _ h _ => h, fun _ _ _ h _ => h, fun _ _ _ h _ => h, fun _ _ _ h _ => h, fun _ _ _ h _ => h, trivial⟩
        · refine ⟨?_, ?_, ?_, ?_, ?_, ?_, ?_, ?_, ?_, ?_, ?_, ?_, ?_, ?_, trivial⟩
          · exact fun aa ww hb he hd => ob_plain rfl (gives_move _ rfl ⟨he.1, Below.refl _ _⟩)
          · exact fun aa ww hb he hd => ob_plain rfl (len_c Try.underlying44 rfl hd.1)
          · exact fun aa ww hb he hd => ob_plain rfl (gives_ge_int (l.length) 4 .i64 _ _ _ _ rfl hd.1 rfl ⟨congrArg Value.bool (e4), Below.refl _ _⟩)
          · exact fun aa ww hb he hd => ob_plain rfl (gives_move _ rfl ⟨hd.1, Below.refl _ _⟩)
          · exact fun aa ww hb he hd => ob_on 34 rfl (by kernel_rfl) hd.1 (load_rg rfl rfl he.2.1 (GB.new HG.out hb))
          · exact fun aa ww hb he hd => ob_on 34 rfl (by kernel_rfl) hd.1 (gives_move _ rfl ⟨he.1, Below.refl _ _⟩)
          · exact fun aa ww hb he hd => ob_on 34 rfl (by kernel_rfl) hd.1 (idx_xs (by omega) rfl hd.2.1 rfl)
          · exact fun aa ww hb he hd => ob_on 34 rfl (by kernel_rfl) hd.1 (load_n rfl hd.2.1 (C0.out _ (bthen HB.out hb HB.out.size)))
          · exact fun aa ww hb he hd => ob_on 34 rfl (by kernel_rfl) hd.1 (gives_move _ rfl ⟨he.1, Below.refl _ _⟩)
          · exact fun aa ww hb he hd => ob_on 34 rfl (by kernel_rfl) hd.1 (idx_xs (by omega) rfl hd.2.1 rfl)
          · exact fun aa ww hb he hd => ob_on 34 rfl (by kernel_rfl) hd.1 (load_n rfl hd.2.1 (C2.out _ (bthen HB.out hb HB.out.size)))
          · exact fun aa ww hb he hd => ob_on 34 rfl (by kernel_rfl) hd.1 (gives_call3 _ _ _ _ _ rfl (by kernel_rfl) (by rw [show aa.eval (.tmp 35) = .agg #[.int .i64 ((n : Int)), .slice A len c] from hd.2.1, show aa.eval (.tmp 38) = .int .i64 ((y0 : Int)) from hd.2.2.1, show aa.eval (.tmp 41) = .int .i64 ((y2 : Int)) from hd.2.2.2.1]; exact rv_one (AD.out _ (bthen HB.out hb HB.out.size))))
          · exact fun aa ww hb he hd => ob_on 34 rfl (by kernel_rfl) hd.1 (gives_not lb _ _ rfl hd.2.1 ⟨rfl, Below.refl _ _⟩)
          · exact fun aa ww hb he hd => ob_plain rfl (gives_pick true _ _ _ rfl hd.1 ⟨hd.2.1, Below.refl _ _⟩)
        intro vs w5 hb hR
        have e44 : vs 13 = .bool (!lb) := hR 13 (by decide)
        clear hR
        simp only [putsL, Nat.zero_add, Nat.reduceAdd, List.take_succ_cons, List.take_zero, Act.put, List.setIfInBounds_toArray, List.set_cons_zero, List.set_cons_succ]
        rw [e44]
        clear e44
        replace HB := Lib.hid (bthen HB.out hb HB.out.size)
        clear hb
        obtain ⟨c1, cl⟩ := CA.out _ HB.out
        have c1b : w5.cell? ⟨ad.block, ad.off + 1, none⟩ = some (.int .i64 (y1 : Int)) := by simpa [Addr.add] using c1
        have hadl : ad.block < w5.heap.size := by
          obtain ⟨ad2, he, h, _⟩ := (HX.out.new HB.out).at_ (show 0 < l.length by omega)
          injection he with he; subst he; exact h
        have j1 : (0 : Int) < (l.length : Int) := by omega
        have j2 : (1 : Int) < (l.length : Int) := by omega
        have j3 : (l.length : Int) - 1 = (L1 : Int) := by omega
        have j4 : (0 : Int) ≤ (L1 : Int) := by omega
        have j5 : (L1 : Int) < (l.length : Int) := by omega
        have j6 : (1 : Nat) < l.length := by omega
        have j7 : L1 < l.length := by omega
        have jw : IntKind.i64.wrap ((l.length - 1 : Nat) : Int) = (L1 : Int) := by rw [← hL1]; exact IntWalk.i64_in _ (by omega)
        have HL1 := Lib.hid hL1; clear hL1
        cases lb with
        | true =>
          go_wp2_with fail
          go_ret
          refine ⟨ret_bool ?_, HB.out⟩
          rw [HLE.out, HMT.out, HLK.out, if_neg (by simp), HAT.out]; rfl
        | false =>
          go_wp2_with fail
          go_quiet (fail)
          go_wp2_with fail
          go_ret
          refine ⟨ret_bool ?_, below_drewN HB.out _⟩
          rw [HLE.out, HMT.out, HLK.out, t4, if_pos (by simp)]; rfl
      · have e4 : decide ((l.length : Int) ≥ 4) = false := by simp; omega
        have t4 : decide (4 ≤ l.length) = false := by simp; omega
        have HLE := Lib.hid (show listedB (adjRow n es) l = ab by rw [listedB_eq, HMT.out, t4, if_neg (by simp), HAT.out]; rfl)
        go_wp2_with fail
        go_quiet (fail)
        go_wp2_with fail
        go_ret
        exact ⟨ret_bool HLE.out.symm, below_drewN HK.out.2.1 _⟩

theorem keepG3 {B : Nat} {w1 w' : World} {g : Nat} {t : TypeId} {x y : Value} (h : GB w1 g t x y) (hg : g < B) (hb : Below B w1 w') : (w'.cell? ⟨g, 0, none⟩ = some x ∧ w'.cell? ⟨g, 1, none⟩ = some y) ∧ Below B w1 w' := ⟨⟨(hb.cell hg).trans h.c0, (hb.cell hg).trans h.c1⟩, hb⟩
def SrchRet (o : Option (List Nat)) (w : World) (e : Ending) (w' : World) : Prop := (match o with
  | some l => ∃ A c, e = .returned (.tuple #[.slice A l.length c, .bool true]) ∧ Xs w' w'.heap.size A l.length (ints l)
  | none => ∃ v, e = .returned (.tuple #[v, .bool false])) ∧ Below w.heap.size w w'

set_option maxRecDepth 100000 in
set_option maxHeartbeats 8000000 in
theorem rsearch_zero (n : Nat) (A : Option Addr) (es : List Nat) (len c : Nat) (hcc : checkCode n es = 0) (p : List Nat) (B : Option Addr) (d : Nat) (w : World) (hr : Es w w.heap.size A len es) (hx : Xs w w.heap.size B p.length (ints p)) (hp : ∀ i, i < p.length → nth p i < n) :
    Calls Try.prog 44 #[.agg #[.int .i64 n, .slice A len c], .slice B p.length d, .int .i64 (p.length : Nat)] w (SrchRet (srchF (goodB (adjRow n es) n es) n 0 p) w) := by
  have HX := Lib.hid hx; clear hx
  have HR := Lib.hid hr; clear hr
  have HP := Lib.hid hp; clear hp
  have HC := Lib.hid hcc; clear hcc
  have HG := Lib.hid (GB.made w 26 (.int .i64 n) (.slice A len c))
  have HW := Lib.hid (al w (.cells #[.int .i64 n, .slice A len c] 26))
  have hlp := HX.out.le
  have HGE := Lib.hid (show srchF (goodB (adjRow n es) n es) n 0 p = if chkB (adjRow n es) n es (ints p) && listedB (adjRow n es) p then some p else none from rfl)
  go_enter Try.func44, Try.ntmps44
  have g0 := HG.out.c0; have g1 := HG.out.c1
  go_wp2_with fail
  refine (robstructs_any n A es len c B (ints p) p.length d _ (HR.out.new HW.out) HC.out (HX.out.new HW.out)).mono ?_
  rintro e w1 ⟨rfl, hb⟩
  have HB := Lib.hid (bthen HW.out hb HW.out.size)
  have HG1 := Lib.hid (HG.out.new hb); clear hb g0 g1 HW HG
  have g0 := HG1.out.c0; have g1 := HG1.out.c1
  cases hcb : chkB (adjRow n es) n es (ints p) with
  | false =>
    have HF := Lib.hid (show srchF (goodB (adjRow n es) n es) n 0 p = none by rw [HGE.out, hcb]; rfl); clear hcb HGE
    go_wp2_with fail
    go_ret2
    rw [HF.out]
    exact ⟨⟨_, rfl⟩, HB.out⟩
  | true =>
    have HCB := Lib.hid hcb; clear hcb
    go_wp2_with fail
    refine (rlisted_any n A es len c B p p.length d _ (HR.out.new HB.out) HC.out (HX.out.new HB.out) HP.out).mono ?_
    rintro e w2 ⟨rfl, hb⟩
    have HB2 := Lib.hid (bthen HB.out hb HB.out.size); clear hb g0 g1
    cases hlb : listedB (adjRow n es) p with
    | false =>
      have HF := Lib.hid (show srchF (goodB (adjRow n es) n es) n 0 p = none by rw [HGE.out, HCB.out, hlb]; rfl); clear hlb
      go_wp2_with fail
      go_ret2
      rw [HF.out]
      exact ⟨⟨_, rfl⟩, HB2.out⟩
    | true =>
      have HF := Lib.hid (show srchF (goodB (adjRow n es) n es) n 0 p = some p by rw [HGE.out, HCB.out, hlb]; rfl); clear hlb
      go_wp2_with fail
      go_ret2
      rw [HF.out]
      exact ⟨⟨B, d, rfl, HX.out.new HB2.out⟩, HB2.out⟩

set_option maxRecDepth 100000 in
set_option maxHeartbeats 8000000 in
theorem rsearch_any (n : Nat) (A : Option Addr) (es : List Nat) (len c : Nat) (hcc : checkCode n es = 0) : ∀ (f : Nat) (p : List Nat) (B : Option Addr) (d L : Nat) (w : World) (hr : Es w w.heap.size A len es) (hx : Xs w w.heap.size B p.length (ints p)) (hp : ∀ i, i < p.length → nth p i < n) (hL : p.length + f = L) (hLn : L ≤ 1000),
    Calls Try.prog 44 #[.agg #[.int .i64 n, .slice A len c], .slice B p.length d, .int .i64 L] w (SrchRet (srchF (goodB (adjRow n es) n es) n f p) w)
  | 0, p, B, d, L, w, hr, hx, hp, hL, _ => by
    obtain rfl : L = p.length := by omega
    exact rsearch_zero n A es len c hcc p B d w hr hx hp
  | f + 1, p, B, d, L, w, hr, hx, hp, hL, hLn => by
    obtain ⟨_, hn, _, _⟩ := checkCode_zero hcc
    have IH := Lib.hid (fun p B d w hr hx hp hL => rsearch_any n A es len c hcc f p B d L w hr hx hp hL hLn)
    have HX := Lib.hid hx; clear hx
    have HR := Lib.hid hr; clear hr
    have HP := Lib.hid hp; clear hp
    have HG := Lib.hid (GB.made w 26 (.int .i64 n) (.slice A len c))
    have HW := Lib.hid (al w (.cells #[.int .i64 n, .slice A len c] 26))
    have t0 : ((p.length : Int) == (L : Int)) = false := by simp; omega
    obtain ⟨G, hG⟩ : ∃ G, G = goodB (adjRow n es) n es := ⟨_, rfl⟩
    rw [← hG] at IH ⊢
    clear hG
    have HSF := Lib.hid (show srchF G n (f + 1) p = (List.range n).findSome? fun v => srchF G n f (p ++ [v]) from rfl)
    have hlp : p.length ≤ 1000 := by omega
    go_enter Try.func44, Try.ntmps44
    go_wp2_with fail
    go_loopw [6, 7, 8] (fun _ _ iv wr => ∃ k : Nat, iv = .int .i64 k ∧ k ≤ n ∧ Hid ((∀ u, u < k → srchF G n f (p ++ [u]) = none) ∧ Below w.heap.size w wr ∧ GB wr w.heap.size 26 (.int .i64 n) (.slice A len c))) (fun _ _ iv _ => n - (intOf iv).toNat)
    case atStart => exact ⟨0, rfl, Nat.zero_le _, Lib.hid ⟨fun u hu => by omega, HW.out, HG.out⟩⟩
    case round =>
      obtain ⟨k, rfl, hk, HK⟩ := hrel
      have g0 := HK.out.2.2.c0; have g1 := HK.out.2.2.c1; have gl := HK.out.2.2.lt
      by_cases hkn : k < n
      · obtain ⟨i, hi, hz, hs1, hby⟩ := info_parts info_int
        have HXr := Lib.hid (HX.out.new HK.out.2.1)
        go_upto_region 8 with (at_builtin; refine wpList_append_any _ rfl _ _ 44 rfl wr.heap.size 3 i _ 1 8 Try.underlying44 hi hz hs1 hby rfl (by omega) (.slice none 0 0) 0 [] rfl (own_nil _ _ _) wr.heap.size B p.length d (I64 (ints p)) rfl HXr.out.1 (one_I64 _) (by simp only [maxLen]; omega) (by omega) (Nat.le_refl _) ?_; intro v' w5 hown' hgr hor; rw [Nat.zero_add, List.nil_append] at hown'; obtain ⟨A7, c7, rfl⟩ := own_form hown'; have HO5 := Lib.hid hown'; have HB5 := Lib.hid (show Below wr.heap.size wr w5 from Below.appended (Below.refl _ _) (own_nil wr wr.heap.size 3) hgr (Nat.le_refl _) (Nat.le_refl _)); clear hown' hgr hor)
        clear hi hz hs1 hby g0 g1 gl
        have hwb : w.heap.size ≤ wr.heap.size := HK.out.2.1.size
        have hb5s : wr.heap.size ≤ w5.heap.size := HB5.out.size
        have HG5 := Lib.hid (HK.out.2.2.new HB5.out)
        have HGL := Lib.hid HK.out.2.2.lt
        have HIH := Lib.hid (fun (v' : Value) (W : World) (hb : Below wr.heap.size w5 W) (ho : W.ownsRow wr.heap.size 3 1 v' (ints p ++ [(k : Int)]).length (I64 (ints p ++ [(k : Int)]))) => show Calls Try.prog 44 #[.agg #[.int .i64 n, .slice A len c], v', .int .i64 L] W (SrchRet (srchF G n f (p ++ [k])) W) by
          have hpk : ∀ i, i < (p ++ [k]).length → nth (p ++ [k]) i < n := by
            intro i hi
            rw [List.length_append, List.length_singleton] at hi
            rw [nth_snoc]
            split
            · exact HP.out i (by assumption)
            · rw [if_pos (by omega)]; exact hkn
          rw [← ints_snoc, ints_length] at ho
          obtain ⟨A8, c8, rfl, hx8⟩ := Xs.of_own ho (fun x hx => by
            obtain ⟨y, hy, rfl⟩ := List.mem_map.1 hx
            obtain ⟨j, hj, rfl⟩ := mem_nth hy
            have := hpk j hj; omega)
          exact IH.out (p ++ [k]) A8 c8 W (HR.out.new (HK.out.2.1.trans ((HB5.out.trans hb).mono hwb))) hx8 hpk (by simp; omega))
        have g0 := HG5.out.c0; have g1 := HG5.out.c1
        have hlk : (ints p).length ≤ 1000000 := by rw [ints_length]; omega
        cases hsr : srchF G n f (p ++ [k]) with
        | some l' =>
          rw [hsr] at HIH
          have HF := Lib.hid (show srchF G n (f + 1) p = some l' by rw [HSF.out]; exact findSome_at (fun u hu => HK.out.1 u hu) hsr hkn); clear hsr
          go_region_held3 (fun w' => (w'.cell? ⟨w.heap.size, 0, none⟩ = some (.int .i64 n) ∧ w'.cell? ⟨w.heap.size, 1, none⟩ = some (.slice A len c)) ∧ Below wr.heap.size w5 w')
            ((refine keepG3 HG5.out HGL.out ?_; first | exact Hid.out HB7 | exact Hid.out HBA | exact (Below.drew (Below.refl _ _)).alloc hb5s _ | exact Below.drew (Below.refl _ _)))
            (first
            | ((refine step_app_int rfl _ _ rfl wr.heap.size (Value.slice A7 p.length c7) (ints p) rfl (by rw [ints_length]; exact own_drew_alloc' HO5.out _) w5.heap.size (k : Int) rfl (Blk.new _ _ _) hlk (by simp; omega) ?_; intro v' w6 hown' hgr hor; have HW6 := Lib.hid hown'; have HBA := Lib.hid (show Below wr.heap.size w5 w6 from Below.appended ((Below.drew (Below.refl _ _)).alloc hb5s _) (own_drew_alloc' HO5.out _) hgr (by simp; omega) (Nat.le_refl _)); clear hown' hgr hor))
            | (go_at_call 44; refine (HIH.out _ _ HBA.out HW6.out).mono ?_; rintro e w7 ⟨⟨A9, c9, rfl, hx9⟩, hb7⟩; have HX9 := Lib.hid hx9; have HBX := Lib.hid (HBA.out.trans (hb7.mono (Nat.le_trans hb5s HBA.out.size))); have HB7 := HBX; clear hx9 hb7))
          go_wp2_with fail
          go_ret2
          rw [HF.out]
          exact ⟨⟨A9, c9, rfl, HX9.out⟩, HK.out.2.1.trans ((HB5.out.trans HBX.out).mono hwb)⟩
        | none =>
          rw [hsr] at HIH
          have HNO := Lib.hid hsr; clear hsr
          go_region_held3 (fun w' => (w'.cell? ⟨w.heap.size, 0, none⟩ = some (.int .i64 n) ∧ w'.cell? ⟨w.heap.size, 1, none⟩ = some (.slice A len c)) ∧ Below wr.heap.size w5 w')
            ((refine keepG3 HG5.out HGL.out ?_; first | exact Hid.out HB7 | exact Hid.out HBA | exact (Below.drew (Below.refl _ _)).alloc hb5s _ | exact Below.drew (Below.refl _ _)))
            (first
            | ((refine step_app_int rfl _ _ rfl wr.heap.size (Value.slice A7 p.length c7) (ints p) rfl (by rw [ints_length]; exact own_drew_alloc' HO5.out _) w5.heap.size (k : Int) rfl (Blk.new _ _ _) hlk (by simp; omega) ?_; intro v' w6 hown' hgr hor; have HW6 := Lib.hid hown'; have HBA := Lib.hid (show Below wr.heap.size w5 w6 from Below.appended ((Below.drew (Below.refl _ _)).alloc hb5s _) (own_drew_alloc' HO5.out _) hgr (by simp; omega) (Nat.le_refl _)); clear hown' hgr hor))
            | (go_at_call 44; refine (HIH.out _ _ HBA.out HW6.out).mono ?_; rintro e w7 ⟨⟨v9, rfl⟩, hb7⟩; have HBX := Lib.hid (HBA.out.trans (hb7.mono (Nat.le_trans hb5s HBA.out.size))); have HB7 := HBX; clear hb7))
          have HBW := Lib.hid (HK.out.2.1.trans ((HB5.out.trans HBX.out).mono hwb))
          have HGW := Lib.hid (show GB w7 w.heap.size 26 (.int .i64 n) (.slice A len c) from HG5.out.blk.below HBX.out HGL.out)
          go_wp2_with fail
          exact ⟨⟨k + 1, by go_num, by omega, Lib.hid ⟨fun u hu => by
            rcases Nat.lt_or_ge u k with h | h
            · exact HK.out.1 u h
            · obtain rfl : u = k := by omega
              exact HNO.out, HBW.out, HGW.out⟩⟩, by simp [intOf]; omega⟩
      · have HF := Lib.hid (show srchF G n (f + 1) p = none by rw [HSF.out]; exact findSome_none fun u hu => HK.out.1 u (by omega))
        go_wp2_with fail
        go_ret2
        rw [HF.out]
        exact ⟨⟨_, rfl⟩, HK.out.2.1⟩

def RObsRet (o : Option (List Nat)) (w : World) (e : Ending) (w' : World) : Prop := (match o with
  | some l => ∃ A c, e = .returned (.tuple #[.slice A l.length c, .bool true]) ∧ Xs w' w'.heap.size A l.length (ints l)
  | none => e = .returned (.tuple #[.slice none 0 0, .bool false])) ∧ Below w.heap.size w w'

set_option maxRecDepth 100000 in
set_option maxHeartbeats 8000000 in
theorem robstruction_any (n : Nat) (A : Option Addr) (es : List Nat) (len c : Nat) (w : World) (hr : Es w w.heap.size A len es) (hcc : checkCode n es = 0) :
    Calls Try.prog 20 #[.agg #[.int .i64 n, .slice A len c]] w (RObsRet (robsF (goodB (adjRow n es) n es) n) w) := by
  obtain ⟨_, hn, _, _⟩ := checkCode_zero hcc
  have HR := Lib.hid hr; clear hr
  have HC := Lib.hid hcc; clear hcc
  have HG := Lib.hid (GB.made w 26 (.int .i64 n) (.slice A len c))
  have HW := Lib.hid (al w (.cells #[.int .i64 n, .slice A len c] 26))
  obtain ⟨G, hG⟩ : ∃ G, G = goodB (adjRow n es) n es := ⟨_, rfl⟩
  have HSE := Lib.hid (fun B d m w hr hx hm => rsearch_any n A es len c HC.out m [] B d m w hr hx (fun i hi => by simp at hi) (by simp) hm)
  rw [← hG] at HSE ⊢
  clear hG
  have HRF := Lib.hid (show robsF G n = (List.range (n + 1)).findSome? fun m => if 3 ≤ m then srchF G n m [] else none from rfl)
  go_enter Try.func20, Try.ntmps20
  go_wp2_with fail
  go_loopw [2, 3, 4] (fun _ _ iv wr => ∃ k : Nat, iv = .int .i64 k ∧ 3 ≤ k ∧ (k ≤ n + 1 ∨ k = 3) ∧ Hid ((∀ u, 3 ≤ u → u < k → srchF G n u [] = none) ∧ Below w.heap.size w wr ∧ GB wr w.heap.size 26 (.int .i64 n) (.slice A len c))) (fun _ _ iv _ => n + 4 - (intOf iv).toNat)
  case atStart => exact ⟨3, rfl, Nat.le_refl _, .inr rfl, Lib.hid ⟨fun u h1 h2 => by omega, HW.out, HG.out⟩⟩
  case round =>
    obtain ⟨k, rfl, hk3, hk, HK⟩ := hrel
    have g0 := HK.out.2.2.c0; have g1 := HK.out.2.2.c1; have gl := HK.out.2.2.lt
    by_cases hkn : k ≤ n
    · have hnil : ∀ W : World, Xs W W.heap.size none ([] : List Nat).length (ints []) := fun W => ⟨⟨rfl, fun h => absurd h (by simp)⟩, ⟨rfl, by simp⟩, fun x hx => by simp [ints] at hx⟩
      go_wp2_with fail
      refine (HSE.out none 0 k wr (HR.out.new HK.out.2.1) (hnil _) (by omega)).mono ?_
      rintro e w6 ⟨hres, hb⟩
      have HB6 := Lib.hid (bthen HK.out.2.1 hb HK.out.2.1.size)
      have HG6 := Lib.hid (HK.out.2.2.new hb); clear hb
      cases hsr : srchF G n k [] with
      | some l' =>
        rw [hsr] at hres
        obtain ⟨A9, c9, rfl, hx9⟩ := hres
        have HX9 := Lib.hid hx9; clear hx9
        have HF := Lib.hid (show robsF G n = some l' by
          rw [HRF.out]
          refine findSome_at (k := k) (fun u hu => ?_) (by rw [if_pos hk3]; exact hsr) (by omega)
          split
          · exact HK.out.1 u (by assumption) hu
          · rfl); clear hsr
        go_wp2_with fail
        go_ret2
        rw [HF.out]
        exact ⟨⟨A9, c9, rfl, HX9.out⟩, HB6.out⟩
      | none =>
        rw [hsr] at hres
        obtain ⟨v9, rfl⟩ := hres
        have HNO := Lib.hid hsr; clear hsr
        go_wp2_with fail
        exact ⟨⟨k + 1, by go_num, by omega, by omega, Lib.hid ⟨fun u h3 hu => by
          rcases Nat.lt_or_ge u k with h | h
          · exact HK.out.1 u h3 h
          · obtain rfl : u = k := by omega
            exact HNO.out, HB6.out, HG6.out⟩⟩, by simp [intOf]; omega⟩
    · have HF := Lib.hid (show robsF G n = none by
        rw [HRF.out]
        refine findSome_none fun u hu => ?_
        split
        · exact HK.out.1 u (by assumption) (by omega)
        · rfl)
      go_wp2_with fail
      go_ret2
      rw [HF.out]
      exact ⟨rfl, HK.out.2.1⟩
end Go.Proofs.Ytkiahnffepbgpaa
