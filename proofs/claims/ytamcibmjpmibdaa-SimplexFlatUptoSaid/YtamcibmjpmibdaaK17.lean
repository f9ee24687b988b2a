/-
Contract of the reference's Best. Printed by gen/sbl.py.
Contract of the reference's Check. Printed by gen/srf.py.
A claimed solution of small numbers: how it is read and made.
The walk of law28.SimplexFlat. Printed by gen/sfl.py.
-/
import Derived.Test.YtamcibmjpmibdaaK16
import Derived.Test.YtamcibmjpmibdaaK15
import Derived.Test.YtamcibmjpmibdaaK13
namespace Go.Proofs.Ytamcibmjpmibdaa
open Go.RowKit
set_option linter.unusedVariables false
set_option linter.unusedSimpArgs false

/-- The crossings that were met: all of the lines ahead of i, and of i those ahead of k. -/
structure BInv (m : Nat) (A : Nat → Nat → Rat) (B C : Nat → Rat) (i k : Nat) (best : Rat) (has : Bool) : Prop where
  a : has = true → ∃ i' k', i' < k' ∧ k' < m + 2 ∧ Vtx m A B i' k' ∧ vval A B C i' k' = best
  z : has = false → best = 0
  u : ∀ i' k', i' < k' → k' < m + 2 → (i' < i ∨ (i' = i ∧ k' < k)) → Vtx m A B i' k' → has = true ∧ vval A B C i' k' ≤ best
  s : Sm best
section
variable {m i k : Nat} {A : Nat → Nat → Rat} {B C : Nat → Rat} {best : Rat} {has : Bool}
theorem BInv.start : BInv m A B C 0 (0 + 1) 0 false :=
  ⟨fun h => (by cases h), fun _ => rfl, fun i' k' h1 h2 h3 _ => absurd h3 (by omega), ⟨by decide, by decide⟩⟩
theorem BInv.skip (hn : ¬ Vtx m A B i k) (h : BInv m A B C i k best has) : BInv m A B C i (k + 1) best has :=
  ⟨h.a, h.z, fun i' k' h1 h2 h3 h4 => by
    by_cases e : i' = i ∧ k' = k
    · obtain ⟨rfl, rfl⟩ := e; exact absurd h4 hn
    · exact h.u i' k' h1 h2 (by omega) h4, h.s⟩
theorem BInv.kept (hv : Vtx m A B i k) (hle : vval A B C i k ≤ best) (h : BInv m A B C i k best true) : BInv m A B C i (k + 1) best true :=
  ⟨h.a, h.z, fun i' k' h1 h2 h3 h4 => by
    by_cases e : i' = i ∧ k' = k
    · obtain ⟨rfl, rfl⟩ := e; exact ⟨rfl, hle⟩
    · exact h.u i' k' h1 h2 (by omega) h4, h.s⟩
theorem BInv.row (hk : m + 2 ≤ k) (h : BInv m A B C i k best has) : BInv m A B C (i + 1) (i + 1 + 1) best has :=
  ⟨h.a, h.z, fun i' k' h1 h2 h3 h4 => h.u i' k' h1 h2 (by omega) h4, h.s⟩
theorem BInv.fin (hi : m + 2 ≤ i) (h : BInv m A B C i k best has) : BestR m A B C best has :=
  ⟨h.a, h.z, fun i' k' h1 h2 h4 => h.u i' k' h1 h2 (by omega) h4⟩
theorem BInv.take (hv : Vtx m A B i k) (hgt : has = true → best < vval A B C i k) (hs : Sm (vval A B C i k)) (h : BInv m A B C i k best has) (hik : i < k := by assumption) (hkm : k < m + 2 := by assumption) : BInv m A B C i (k + 1) (vval A B C i k) true :=
  ⟨fun _ => ⟨i, k, hik, hkm, hv, rfl⟩, fun h => (by cases h), fun i' k' h1 h2 h3 h4 => by
    by_cases e : i' = i ∧ k' = k
    · obtain ⟨rfl, rfl⟩ := e; exact ⟨rfl, Rat.le_refl⟩
    · obtain ⟨q1, q2⟩ := h.u i' k' h1 h2 (by omega) h4
      have := hgt q1
      exact ⟨rfl, by grind⟩, hs⟩
end
theorem pt_frac {D : Nat} {x y : Rat} (hx : Frac D 23328 x) (hy : Frac D 23328 y) : ∀ j, j < 2 → Frac D 23328 (pt x y j) := by
  intro j hj
  have h : j = 0 ∨ j = 1 := by omega
  rcases h with rfl | rfl
  · exact hx
  · exact hy
theorem gives_two_q {o : Oper} {a : Act} {w : World} {t u : Tmp} {x y : Rat} (ho : o.op = .buildSlice 32 2 #[(0, .tmp t), (1, .tmp u)]) (h : tv a t = QL x) (h' : tv a u = QL y) : gives Try.prog o a.eval w (fun v w' => (∃ (A0 : Option Addr) (c1 : Nat), v = .slice A0 2 c1 ∧ Reads w' w'.heap.size 2 A0 2 (qsL (pt x y) 2)) ∧ Below w.heap.size w w') := by
  have hh : a.tmps[t]?.getD undef = .agg #[.int .i64 x.num, .int .i64 (x.den : Int)] := by simpa [tv, QL] using h
  have hh' : a.tmps[u]?.getD undef = .agg #[.int .i64 y.num, .int .i64 (y.den : Int)] := by simpa [tv, QL] using h'
  have hr : (execOp a.eval o).run Try.prog w = .ok (.value (.slice (some ⟨w.heap.size, 0, none⟩) 2 2)) (w.alloc (.cells #[.int .i64 x.num, .int .i64 (x.den : Int), .int .i64 y.num, .int .i64 (y.den : Int)] 58)) := by
    unfold execOp
    rw [ho]
    go_simp
  unfold gives
  rw [hr]
  exact ⟨⟨_, _, rfl, Reads.of_blk (n := 2) (Blk.new w 58 #[.int .i64 x.num, .int .i64 (x.den : Int), .int .i64 y.num, .int .i64 (y.den : Int)]) rfl⟩, al _ _⟩
set_option maxRecDepth 100000 in
set_option maxHeartbeats 20000000 in
theorem rbest_any (m qc qa qb : Nat) (QC QA QB : Option Addr) (Qr : Nat → Option Addr) (qp : Nat → Nat) (A : Nat → Nat → Rat) (C B : Nat → Rat) (w : World) (hP : RqW w 2 m m QC QA QB Qr (fun _ => 2) qp A C B) (fA : ∀ i j, Frac 12 108 (A i j)) (fB : ∀ i, Frac 12 108 (B i)) (fC : ∀ i, Frac 12 108 (C i)) (hm : m ≤ 6) :
    Calls Try.prog 22 #[.agg #[.slice QC 2 qc, .slice QA m qa, .slice QB m qb]] w (fun e w' => ∃ (v : Rat) (has : Bool), e = .returned (.tuple #[QL v, .bool has]) ∧ BestR m A B C v has ∧ Sm v ∧ Below w.heap.size w w') := by
  have HQ := Lib.hid hP; have HfA := Lib.hid fA; have HfB := Lib.hid fB; have HfC := Lib.hid fC; clear hP fA fB fC
  have HsB := Lib.hid (fun i => (HfB.out i).small (by omega) (by omega) (by omega))
  have HLf := Lib.hid (ln_frac HfA.out HfB.out)
  go_enter Try.func22, Try.ntmps22
  go_upto_region 1 with (fail)
  have hbw := bthen (al w (.cells #[.slice QC 2 qc, .slice QA m qa, .slice QB m qb] 35)) (al _ (.cells #[.int .i64 0, .int .i64 0] 58)) (by simp)
  have HBx := Lib.hid ((Blk.new w 35 #[.slice QC 2 qc, .slice QA m qa, .slice QB m qb]).keep (al _ (.cells #[.int .i64 0, .int .i64 0] 58)))
  have H2 := Lib.hid (Blk.new (w.alloc (.cells #[.slice QC 2 qc, .slice QA m qa, .slice QB m qb] 35)) 58 #[.int .i64 0, .int .i64 0])
  rw [show (w.alloc (.cells #[.slice QC 2 qc, .slice QA m qa, .slice QB m qb] 35)).heap.size = w.heap.size + 1 from by simp] at H2
  have HB := Lib.hid hbw
  clear hbw
  generalize (w.alloc (.cells #[.slice QC 2 qc, .slice QA m qa, .slice QB m qb] 35)).alloc (.cells #[.int .i64 0, .int .i64 0] 58) = w1 at *
  obtain ⟨gq, hgq⟩ : ∃ gq, gq = w.heap.size := ⟨_, rfl⟩
  obtain ⟨g2, hg2⟩ : ∃ g2, g2 = w.heap.size + 1 := ⟨_, rfl⟩
  rw [← hg2] at H2 ⊢
  rw [← hgq] at HBx ⊢
  have HGgq := Lib.hid (show w.heap.size ≤ gq ∧ w.heap.size ≤ g2 from by omega)
  clear hgq hg2
  have x0 := Blk.at0 HBx.out (Below.refl _ _); have x1 := Blk.at1 HBx.out (Below.refl _ _); have x2 := Blk.at2 HBx.out (Below.refl _ _)
  go_wp2_with fail
  refine (rlines_any m qc qa qb QC QA QB Qr qp A C B w1 (HQ.out.new HB.out) (by omega)).mono ?_
  rintro e w2 ⟨v, rfl, ⟨ad, c0, rfl, hln⟩, hb⟩
  have hlw : w.heap.size ≤ w1.heap.size := HB.out.size
  have HLn0 := Lib.hid (hln.lower hlw)
  clear hln hlw x0 x1 x2
  replace HB := Lib.hid (bthen HB.out hb HB.out.size)
  replace HBx := Lib.hid (HBx.out.keep hb)
  replace H2 := Lib.hid (H2.out.keep hb)
  clear hb
  go_wp2_with fail
  refine (rzero_any w2).mono ?_
  rintro e w3 ⟨he, hb⟩
  obtain rfl : e = .returned (.agg #[.int .i64 (0 : Rat).num, .int .i64 ((0 : Rat).den : Int)]) := he
  replace HB := Lib.hid (bthen HB.out hb HB.out.size)
  replace HBx := Lib.hid (HBx.out.keep hb)
  replace H2 := Lib.hid (H2.out.keep hb)
  replace HLn0 := Lib.hid (HLn0.out.below hb)
  clear hb
  have HLt2 := Lib.hid H2.out.lt; have HLw3 := Lib.hid HB.out.size
  go_upto_region 3 with (fail)
  have hbw := al w3 (.cells #[.int .i64 0, .int .i64 1] 58)
  have H5b := Lib.hid (Blk.new w3 58 #[.int .i64 0, .int .i64 1])
  replace HB := Lib.hid (bthen HB.out hbw HB.out.size)
  replace HBx := Lib.hid (HBx.out.keep hbw)
  replace H2 := Lib.hid (H2.out.keep hbw)
  replace HLn0 := Lib.hid (HLn0.out.below hbw)
  clear hbw
  generalize w3.alloc (.cells #[.int .i64 0, .int .i64 1] 58) = w4 at *
  obtain ⟨g5, hg5⟩ : ∃ g5, g5 = w3.heap.size := ⟨_, rfl⟩
  rw [← hg5] at H5b ⊢
  have HGg5 := Lib.hid (show w3.heap.size ≤ g5 from by omega)
  clear hg5
  have H50 := Lib.hid (show Qb 0 g5 w4 from H5b.out)
  have HN5 := Lib.hid (show g2 ≠ g5 ∧ w.heap.size ≤ g5 from ⟨by have := HLt2.out; have := HGg5.out; omega, by have := HLw3.out; have := HGg5.out; omega⟩)
  clear H5b
  go_wp2_with fail
  go_loopg [7, 6] (m + 2) (fun g iv hv wr => ∃ (i : Nat) (best : Rat) (has : Bool), iv = .int .i64 i ∧ hv = .bool has ∧ i + g = m + 2 ∧ Hid (BInv m A B C i (i + 1) best has ∧ Qb best g5 wr ∧ Blk wr gq 35 #[.slice QC 2 qc, .slice QA m qa, .slice QB m qb] ∧ Blk wr g2 58 #[.int .i64 0, .int .i64 0] ∧ OwnC wr w.heap.size 109 6 (.slice (some ad) (m + 2) c0) (m + 2) (lnL (lnA A) (lnB A) (lnC B) (m + 2)) ∧ Below w.heap.size w wr))
  case atStart => exact ⟨0, 0, false, rfl, rfl, by omega, Lib.hid ⟨BInv.start, H50.out, HBx.out, H2.out, HLn0.out, HB.out⟩⟩
  case round =>
    obtain ⟨i, best, has, rfl, rfl, him, HI⟩ := hrel
    clear H50 HBx H2 HLn0 HB
    have HI0 := Lib.hid HI.out.1; have H5 := Lib.hid HI.out.2.1; have HBx := Lib.hid HI.out.2.2.1; have H2 := Lib.hid HI.out.2.2.2.1; have HLn := Lib.hid HI.out.2.2.2.2.1; have HB := Lib.hid HI.out.2.2.2.2.2
    clear HI
    obtain ⟨G, hG⟩ : ∃ G, G = gk := ⟨_, rfl⟩
    subst hG
    by_cases hi : i < m + 2
    · have i1 : ((i : Int) < ((m + 2 : Nat) : Int)) := by omega
      go_wp2_with fail
      go_loopg [8, 6] (m + 2 - (i + 1)) (fun g kv hv wr => ∃ (k : Nat) (best : Rat) (has : Bool), kv = .int .i64 k ∧ hv = .bool has ∧ k + g = m + 2 ∧ i < k ∧ Hid (BInv m A B C i k best has ∧ Qb best g5 wr ∧ Blk wr gq 35 #[.slice QC 2 qc, .slice QA m qa, .slice QB m qb] ∧ Blk wr g2 58 #[.int .i64 0, .int .i64 0] ∧ OwnC wr w.heap.size 109 6 (.slice (some ad) (m + 2) c0) (m + 2) (lnL (lnA A) (lnB A) (lnC B) (m + 2)) ∧ Below w.heap.size w wr))
      case atStart => exact ⟨i + 1, best, has, by go_num, rfl, by omega, by omega, Lib.hid ⟨HI0.out, H5.out, HBx.out, H2.out, HLn.out, HB.out⟩⟩
      case round =>
        obtain ⟨k, best, has, rfl, rfl, hkm, hik, HI⟩ := hrel
        clear HI0 H5 HBx H2 HLn HB
        have HI0 := Lib.hid HI.out.1; have H5 := Lib.hid HI.out.2.1; have HBx := Lib.hid HI.out.2.2.1; have H2 := Lib.hid HI.out.2.2.2.1; have HLn := Lib.hid HI.out.2.2.2.2.1; have HB := Lib.hid HI.out.2.2.2.2.2
        clear HI
        by_cases hk : k < m + 2
        · have k1 : ((k : Int) < ((m + 2 : Nat) : Int)) := by omega
          go_upto_region 9 with (fail)
          refine wp_region_join (kss := [[], [], [(0, 32), (1, 33)], [(2, 34)], [(3, 35)], [], [], [(5, 37), (6, 38)], [(7, 39)], [(8, 40)], [(4, 36), (9, 41)], [], [], [(11, 43), (12, 44)], [(13, 45)], [(14, 46)], [], [], [(16, 48), (17, 49)], [(18, 50)], [(19, 51)], [(15, 47), (20, 52)], [(10, 42), (21, 53)], []]) [(4, .slice (some ad) ((m + 2)) c0), (7, .int .i64 ((i : Int))), (8, .int .i64 ((k : Int)))] [EV (.slice (some ad) ((m + 2)) c0), EV (.int .i64 ((i : Int))), EV (.pointer (some (Addr.add ad (i * 6)))), EV (.pointer (some (Addr.add (Addr.add ad (i * 6)) (0 * 2)))), EV (QL (lnA A i)), EV (.slice (some ad) ((m + 2)) c0), EV (.int .i64 ((k : Int))), EV (.pointer (some (Addr.add ad (k * 6)))), EV (.pointer (some (Addr.add (Addr.add ad (k * 6)) (1 * 2)))), EV (QL (lnB A k)), EV (QL ((lnA A i) * (lnB A k))), EV (.slice (some ad) ((m + 2)) c0), EV (.int .i64 ((k : Int))), EV (.pointer (some (Addr.add ad (k * 6)))), EV (.pointer (some (Addr.add (Addr.add ad (k * 6)) (0 * 2)))), EV (QL (lnA A k)), EV (.slice (some ad) ((m + 2)) c0), EV (.int .i64 ((i : Int))), EV (.pointer (some (Addr.add ad (i * 6)))), EV (.pointer (some (Addr.add (Addr.add ad (i * 6)) (1 * 2)))), EV (QL (lnB A i)), EV (QL ((lnA A k) * (lnB A i))), EV (QL (((lnA A i) * (lnB A k)) - ((lnA A k) * (lnB A i)))), Zq wr.heap.size] 24 [] (by kernel_rfl) (by kernel_rfl) ⟨rfl, rfl, rfl, trivial⟩ [false, false, false, false, false, false, false, false, false, false, false, false, false, false, false, false, false, false, false, false, false, false, false, false] ?_ ?_ ?_ ?_
          · exact fun i hi => absurd hi (by simp)
          · exact ⟨eI, eI, eI, eI, eI, eI, eI, eI, eI, eI, eI, eI, eI, eI, eI, eI, eI, eI, eI, eI, eI, eI, eI, fun _ _ _ h hb => h.new hb, trivial⟩
          · refine ⟨?_, ?_, ?_, ?_, ?_, ?_, ?_, ?_, ?_, ?_, ?_, ?_, ?_, ?_, ?_, ?_, ?_, ?_, ?_, ?_, ?_, ?_, ?_, ?_, trivial⟩
            · exact fun _ _ _ he hd => ob_mv rfl rfl he.1
            · exact fun _ _ _ he hd => ob_mv rfl rfl he.2.1
            · exact fun aa ww hb he hd => ob_plain rfl (idx_ln (by omega) rfl hd.1 hd.2.1)
            · exact fun aa ww hb he hd => ob_plain rfl (fld_ln rfl (by decide) hd.1)
            · exact fun aa ww hb he hd => ob_plain rfl (load_ln rfl hd.1 (Reads.of_own (HLn.out.below hb).own) (by omega) (by decide))
            · exact fun _ _ _ he hd => ob_mv rfl rfl he.1
            · exact fun _ _ _ he hd => ob_mv rfl rfl he.2.2.1
            · exact fun aa ww hb he hd => ob_plain rfl (idx_ln (by omega) rfl hd.1 hd.2.1)
            · exact fun aa ww hb he hd => ob_plain rfl (fld_ln rfl (by decide) hd.1)
            · exact fun aa ww hb he hd => ob_plain rfl (load_ln rfl hd.1 (Reads.of_own (HLn.out.below hb).own) (by omega) (by decide))
            · exact fun aa ww hb he hd => ob_plain rfl (gives_call2 _ _ _ _ rfl (by kernel_rfl) (rmul_v (x := lnA A i) (y := lnB A k) ((HLf.out i).1.small (by omega) (by omega) (by omega)) ((HLf.out k).2.1.small (by omega) (by omega) (by omega)) _ _ hd.1 hd.2.1 _))
            · exact fun _ _ _ he hd => ob_mv rfl rfl he.1
            · exact fun _ _ _ he hd => ob_mv rfl rfl he.2.2.1
            · exact fun aa ww hb he hd => ob_plain rfl (idx_ln (by omega) rfl hd.1 hd.2.1)
            · exact fun aa ww hb he hd => ob_plain rfl (fld_ln rfl (by decide) hd.1)
            · exact fun aa ww hb he hd => ob_plain rfl (load_ln rfl hd.1 (Reads.of_own (HLn.out.below hb).own) (by omega) (by decide))
            · exact fun _ _ _ he hd => ob_mv rfl rfl he.1
            · exact fun _ _ _ he hd => ob_mv rfl rfl he.2.1
            · exact fun aa ww hb he hd => ob_plain rfl (idx_ln (by omega) rfl hd.1 hd.2.1)
            · exact fun aa ww hb he hd => ob_plain rfl (fld_ln rfl (by decide) hd.1)
            · exact fun aa ww hb he hd => ob_plain rfl (load_ln rfl hd.1 (Reads.of_own (HLn.out.below hb).own) (by omega) (by decide))
            · exact fun aa ww hb he hd => ob_plain rfl (gives_call2 _ _ _ _ rfl (by kernel_rfl) (rmul_v (x := lnA A k) (y := lnB A i) ((HLf.out k).1.small (by omega) (by omega) (by omega)) ((HLf.out i).2.1.small (by omega) (by omega) (by omega)) _ _ hd.1 hd.2.1 _))
            · exact fun aa ww hb he hd => ob_plain rfl (gives_call2 _ _ _ _ rfl (by kernel_rfl) (by rw [show aa.eval (.tmp 42) = QL ((lnA A i) * (lnB A k)) from hd.1, show aa.eval (.tmp 53) = QL ((lnA A k) * (lnB A i)) from hd.2.1]; exact rv_one (rminus_any (((HLf.out i).1.mul (HLf.out k).2.1).small (by omega) (by omega) (by omega)) (((HLf.out k).1.mul (HLf.out i).2.1).small (by omega) (by omega) (by omega)) _)))
            · exact fun aa ww hb he hd => ob_plain rfl (alloc_q rfl hb)
          intro vs w10 hb hR _
          have r9 : Zq wr.heap.size (vs 23) w10 := hR 23 (by decide)
          have e54 : vs 22 = QL (((lnA A i) * (lnB A k)) - ((lnA A k) * (lnB A i))) := hR 22 (by decide)
          clear hR
          simp only [putsL, Nat.zero_add, Nat.reduceAdd, List.take_succ_cons, List.take_zero, Act.put, List.setIfInBounds_toArray, List.set_cons_zero, List.set_cons_succ]
          rw [e54]
          clear e54
          obtain ⟨g9, eg9, hlo, hz⟩ := r9
          rw [eg9]
          clear eg9
          show wpAny _ _ _ _ 1 _ _ _
          refine wpAny_next (i := 24) (by kernel_rfl) rfl rfl (store_qb (g := g9) (x := detL A i k) rfl rfl rfl rfl ⟨0, 0, GB.blk hz⟩ ?_)
          intro w11 kp hg hsz hX
          have hb2 := hb.grown hg hb.size (fun x hx => by cases hx; exact hlo)
          have Hg9 := Lib.hid (show Qb (detL A i k) g9 w11 from hX)
          clear hb kp hg hsz hX hz hlo
          replace H5 := Lib.hid (H5.out.new hb2)
          replace HBx := Lib.hid (HBx.out.keep hb2)
          replace H2 := Lib.hid (H2.out.keep hb2)
          replace HLn := Lib.hid (HLn.out.below hb2)
          replace HB := Lib.hid (bthen HB.out hb2 HB.out.size)
          clear hb2
          refine wpAny_end (by kernel_rfl) (calm_normal ?_) _
          have hdf := two_frac (HLf.out i).1 (HLf.out k).2.1 (HLf.out k).1 (HLf.out i).2.1
          have HDf := Lib.hid (show Frac 144 23328 (detL A i k) from hdf); clear hdf
          have HDs := Lib.hid (HDf.out.small (by omega) (by omega) (by omega))
          go_upto_region 10 with (fail)
          by_cases hd0 : detL A i k = 0
          · have hq : ((detL A i k).num == 0) = true := by rw [hd0]; rfl
            have HD0 := Lib.hid hd0; clear hd0
            refine wp_region_seq (kss := [[], [(0, 55)], [(1, 56)]]) [(9, .pointer (some ⟨g9, 0, none⟩))] [EV (.pointer (some ⟨g9, 0, none⟩)), EV (.int .i64 ((detL A i k).num)), EV (.bool true)] (by kernel_rfl) ⟨rfl, trivial⟩ ?_ ?_ ?_
            · exact ⟨eI, eI, eI, trivial⟩
            · refine ⟨?_, ?_, ?_, trivial⟩
              · exact fun aa ww hb he hd => ob_plain rfl (fld_qb rfl (by decide) he.1)
              · exact fun aa ww hb he hd => ob_plain rfl (load_c2 rfl hd.1 (GB.c0 (Qb.new Hg9.out hb)))
              · exact fun aa ww hb he hd => ob_plain rfl (gives_eq_int ((detL A i k).num) 0 .i64 _ _ _ _ rfl hd.1 rfl ⟨congrArg Value.bool (hq), Below.refl _ _⟩)
            intro vs w12 hb hR
            have e57 : vs 2 = .bool true := hR 2 (by decide)
            clear hR
            simp only [putsL, Nat.zero_add, Nat.reduceAdd, List.take_succ_cons, List.take_zero, Act.put, List.setIfInBounds_toArray, List.set_cons_zero, List.set_cons_succ]
            rw [e57]
            clear e57
            replace H5 := Lib.hid (H5.out.new hb)
            replace HBx := Lib.hid (HBx.out.keep hb)
            replace H2 := Lib.hid (H2.out.keep hb)
            replace HLn := Lib.hid (HLn.out.below hb)
            replace HB := Lib.hid (bthen HB.out hb HB.out.size)
            replace Hg9 := Lib.hid (Hg9.out.new hb)
            clear hb
            clear hq
            go_wp2_with fail
            go_roundg (gk - 1)
            case measure => omega
            case rel => exact ⟨k + 1, best, has, by go_num, rfl, by omega, by omega, Lib.hid ⟨BInv.skip (fun h => h.1 HD0.out) HI0.out, H5.out, HBx.out, H2.out, HLn.out, HB.out⟩⟩
          have hq : ((detL A i k).num == 0) = false := by rw [beq_eq_false_iff_ne]; exact num_ne hd0
          have HD0 := Lib.hid hd0; clear hd0
          refine wp_region_seq (kss := [[], [(0, 55)], [(1, 56)]]) [(9, .pointer (some ⟨g9, 0, none⟩))] [EV (.pointer (some ⟨g9, 0, none⟩)), EV (.int .i64 ((detL A i k).num)), EV (.bool false)] (by kernel_rfl) ⟨rfl, trivial⟩ ?_ ?_ ?_
          · exact ⟨eI, eI, eI, trivial⟩
          · refine ⟨?_, ?_, ?_, trivial⟩
            · exact fun aa ww hb he hd => ob_plain rfl (fld_qb rfl (by decide) he.1)
            · exact fun aa ww hb he hd => ob_plain rfl (load_c2 rfl hd.1 (GB.c0 (Qb.new Hg9.out hb)))
            · exact fun aa ww hb he hd => ob_plain rfl (gives_eq_int ((detL A i k).num) 0 .i64 _ _ _ _ rfl hd.1 rfl ⟨congrArg Value.bool (hq), Below.refl _ _⟩)
          intro vs w12 hb hR
          have e57 : vs 2 = .bool false := hR 2 (by decide)
          clear hR
          simp only [putsL, Nat.zero_add, Nat.reduceAdd, List.take_succ_cons, List.take_zero, Act.put, List.setIfInBounds_toArray, List.set_cons_zero, List.set_cons_succ]
          rw [e57]
          clear e57
          replace H5 := Lib.hid (H5.out.new hb)
          replace HBx := Lib.hid (HBx.out.keep hb)
          replace H2 := Lib.hid (H2.out.keep hb)
          replace HLn := Lib.hid (HLn.out.below hb)
          replace HB := Lib.hid (bthen HB.out hb HB.out.size)
          replace Hg9 := Lib.hid (Hg9.out.new hb)
          clear hb
          clear hq
          obtain ⟨D, hD1, hD2, hDx, hDy⟩ := quot_frac (two_frac (HLf.out i).2.2 (HLf.out k).2.1 (HLf.out k).2.2 (HLf.out i).2.1) (two_frac (HLf.out i).1 (HLf.out k).2.2 (HLf.out k).1 (HLf.out i).2.2) HDf.out HD0.out
          have HDx := Lib.hid (show Frac D 23328 (xL A B i k) from hDx); have HDy := Lib.hid (show Frac D 23328 (yL A B i k) from hDy)
          have HIs := Lib.hid (show Sm (1 / detL A i k) from by rw [← recp_eq HD0.out]; exact Sm.recp HDs.out HD0.out)
          clear hDx hDy
          go_upto_region 11 with (fail)
          refine wp_region_joins (kss := [[], [(0, 58)], [], [(2, 60)], [(1, 59), (3, 61)], []]) [(9, .pointer (some ⟨g9, 0, none⟩))] [EV (.pointer (some ⟨g9, 1, none⟩)), EV (.int .i64 ((((detL A i k).den : Nat) : Int))), EV (.pointer (some ⟨g9, 0, none⟩)), EV (.int .i64 ((detL A i k).num)), EV (QL (1 / detL A i k)), Zq w12.heap.size] 6 (by kernel_rfl) ⟨rfl, trivial⟩ [false, false, false, false, false, false] ?_ ?_ ?_
          · exact ⟨eI, eI, eI, eI, eI, fun _ _ _ h hb => h.new hb, trivial⟩
          · refine ⟨?_, ?_, ?_, ?_, ?_, ?_, trivial⟩
            · exact fun aa ww hb he hd => ob_plain rfl (fld_qb rfl (by decide) he.1)
            · exact fun aa ww hb he hd => ob_plain rfl (load_c2 rfl hd.1 (GB.c1 (Qb.new Hg9.out hb)))
            · exact fun aa ww hb he hd => ob_plain rfl (fld_qb rfl (by decide) he.1)
            · exact fun aa ww hb he hd => ob_plain rfl (load_c2 rfl hd.1 (GB.c0 (Qb.new Hg9.out hb)))
            · exact fun aa ww hb he hd => ob_plain rfl (gives_call2 _ _ _ _ rfl (by kernel_rfl) (by rw [show aa.eval (.tmp 59) = .int .i64 ((((detL A i k).den : Nat) : Int)) from hd.1, show aa.eval (.tmp 61) = .int .i64 ((detL A i k).num) from hd.2.1]; exact low_recp HDs.out HD0.out _))
            · exact fun aa ww hb he hd => ob_plain rfl (alloc_q rfl hb)
          intro vs w13 hb hR
          have r10 : Zq w12.heap.size (vs 5) w13 := hR 5 (by decide)
          have e62 : vs 4 = QL (1 / detL A i k) := hR 4 (by decide)
          clear hR
          simp only [putsL, Nat.zero_add, Nat.reduceAdd, List.take_succ_cons, List.take_zero, Act.put, List.setIfInBounds_toArray, List.set_cons_zero, List.set_cons_succ]
          rw [e62]
          clear e62
          obtain ⟨g10, eg10, hlo, hz⟩ := r10
          rw [eg10]
          clear eg10
          show wpOps _ _ _ [6] _ _
          refine wpOps_next rfl rfl (store_qb (g := g10) (x := 1 / detL A i k) rfl rfl rfl rfl ⟨0, 0, GB.blk hz⟩ ?_)
          intro w14 kp hg hsz hX
          have hb2 := hb.grown hg hb.size (fun x hx => by cases hx; exact hlo)
          have Hg10 := Lib.hid (show Qb (1 / detL A i k) g10 w14 from hX)
          clear hb kp hg hsz hX hz hlo
          replace H5 := Lib.hid (H5.out.new hb2)
          replace HBx := Lib.hid (HBx.out.keep hb2)
          replace H2 := Lib.hid (H2.out.keep hb2)
          replace HLn := Lib.hid (HLn.out.below hb2)
          replace HB := Lib.hid (bthen HB.out hb2 HB.out.size)
          replace Hg9 := Lib.hid (Hg9.out.new hb2)
          clear hb2
          unfold wpOps
          go_upto_region 12 with (fail)
          refine wp_region_join (kss := [[], [], [(0, 63), (1, 64)], [(2, 65)], [(3, 66)], [], [], [(5, 68), (6, 69)], [(7, 70)], [(8, 71)], [(4, 67), (9, 72)], [], [], [(11, 74), (12, 75)], [(13, 76)], [(14, 77)], [], [], [(16, 79), (17, 80)], [(18, 81)], [(19, 82)], [(15, 78), (20, 83)], [(10, 73), (21, 84)], [], [(22, 85), (23, 86)], []]) [(4, .slice (some ad) ((m + 2)) c0), (7, .int .i64 ((i : Int))), (8, .int .i64 ((k : Int))), (10, .pointer (some ⟨g10, 0, none⟩))] [EV (.slice (some ad) ((m + 2)) c0), EV (.int .i64 ((i : Int))), EV (.pointer (some (Addr.add ad (i * 6)))), EV (.pointer (some (Addr.add (Addr.add ad (i * 6)) (2 * 2)))), EV (QL (lnC B i)), EV (.slice (some ad) ((m + 2)) c0), EV (.int .i64 ((k : Int))), EV (.pointer (some (Addr.add ad (k * 6)))), EV (.pointer (some (Addr.add (Addr.add ad (k * 6)) (1 * 2)))), EV (QL (lnB A k)), EV (QL ((lnC B i) * (lnB A k))), EV (.slice (some ad) ((m + 2)) c0), EV (.int .i64 ((k : Int))), EV (.pointer (some (Addr.add ad (k * 6)))), EV (.pointer (some (Addr.add (Addr.add ad (k * 6)) (2 * 2)))), EV (QL (lnC B k)), EV (.slice (some ad) ((m + 2)) c0), EV (.int .i64 ((i : Int))), EV (.pointer (some (Addr.add ad (i * 6)))), EV (.pointer (some (Addr.add (Addr.add ad (i * 6)) (1 * 2)))), EV (QL (lnB A i)), EV (QL ((lnC B k) * (lnB A i))), EV (QL (((lnC B i) * (lnB A k)) - ((lnC B k) * (lnB A i)))), EV (QL (1 / detL A i k)), EV (QL ((((lnC B i) * (lnB A k)) - ((lnC B k) * (lnB A i))) * (1 / detL A i k))), Zq w14.heap.size] 26 [] (by kernel_rfl) (by kernel_rfl) ⟨rfl, rfl, rfl, rfl, trivial⟩ [false, false, false, false, false, false, false, false, false, false, false, false, false, false, false, false, false, false, false, false, false, false, false, false, false, false] ?_ ?_ ?_ ?_
          · exact fun i hi => absurd hi (by simp)
          · exact ⟨eI, eI, eI, eI, eI, eI, eI, eI, eI, eI, eI, eI, eI, eI, eI, eI, eI, eI, eI, eI, eI, eI, eI, eI, eI, fun _ _ _ h hb => h.new hb, trivial⟩
          · refine ⟨?_, ?_, ?_, ?_, ?_, ?_, ?_, ?_, ?_, ?_, ?_, ?_, ?_, ?_, ?_, ?_, ?_, ?_, ?_, ?_, ?_, ?_, ?_, ?_, ?_, ?_, trivial⟩
            · exact fun _ _ _ he hd => ob_mv rfl rfl he.1
            · exact fun _ _ _ he hd => ob_mv rfl rfl he.2.1
            · exact fun aa ww hb he hd => ob_plain rfl (idx_ln (by omega) rfl hd.1 hd.2.1)
            · exact fun aa ww hb he hd => ob_plain rfl (fld_ln rfl (by decide) hd.1)
            · exact fun aa ww hb he hd => ob_plain rfl (load_ln rfl hd.1 (Reads.of_own (HLn.out.below hb).own) (by omega) (by decide))
            · exact fun _ _ _ he hd => ob_mv rfl rfl he.1
            · exact fun _ _ _ he hd => ob_mv rfl rfl he.2.2.1
            · exact fun aa ww hb he hd => ob_plain rfl (idx_ln (by omega) rfl hd.1 hd.2.1)
            · exact fun aa ww hb he hd => ob_plain rfl (fld_ln rfl (by decide) hd.1)
            · exact fun aa ww hb he hd => ob_plain rfl (load_ln rfl hd.1 (Reads.of_own (HLn.out.below hb).own) (by omega) (by decide))
            · exact fun aa ww hb he hd => ob_plain rfl (gives_call2 _ _ _ _ rfl (by kernel_rfl) (rmul_v (x := lnC B i) (y := lnB A k) ((HLf.out i).2.2.small (by omega) (by omega) (by omega)) ((HLf.out k).2.1.small (by omega) (by omega) (by omega)) _ _ hd.1 hd.2.1 _))
            · exact fun _ _ _ he hd => ob_mv rfl rfl he.1
            · exact fun _ _ _ he hd => ob_mv rfl rfl he.2.2.1
            · exact fun aa ww hb he hd => ob_plain rfl (idx_ln (by omega) rfl hd.1 hd.2.1)
            · exact fun aa ww hb he hd => ob_plain rfl (fld_ln rfl (by decide) hd.1)
            · exact fun aa ww hb he hd => ob_plain rfl (load_ln rfl hd.1 (Reads.of_own (HLn.out.below hb).own) (by omega) (by decide))
            · exact fun _ _ _ he hd => ob_mv rfl rfl he.1
            · exact fun _ _ _ he hd => ob_mv rfl rfl he.2.1
            · exact fun aa ww hb he hd => ob_plain rfl (idx_ln (by omega) rfl hd.1 hd.2.1)
            · exact fun aa ww hb he hd => ob_plain rfl (fld_ln rfl (by decide) hd.1)
            · exact fun aa ww hb he hd => ob_plain rfl (load_ln rfl hd.1 (Reads.of_own (HLn.out.below hb).own) (by omega) (by decide))
            · exact fun aa ww hb he hd => ob_plain rfl (gives_call2 _ _ _ _ rfl (by kernel_rfl) (rmul_v (x := lnC B k) (y := lnB A i) ((HLf.out k).2.2.small (by omega) (by omega) (by omega)) ((HLf.out i).2.1.small (by omega) (by omega) (by omega)) _ _ hd.1 hd.2.1 _))
            · exact fun aa ww hb he hd => ob_plain rfl (gives_call2 _ _ _ _ rfl (by kernel_rfl) (by rw [show aa.eval (.tmp 73) = QL ((lnC B i) * (lnB A k)) from hd.1, show aa.eval (.tmp 84) = QL ((lnC B k) * (lnB A i)) from hd.2.1]; exact rv_one (rminus_any (((HLf.out i).2.2.mul (HLf.out k).2.1).small (by omega) (by omega) (by omega)) (((HLf.out k).2.2.mul (HLf.out i).2.1).small (by omega) (by omega) (by omega)) _)))
            · exact fun aa ww hb he hd => ob_plain rfl (load_qb rfl he.2.2.2.1 (Qb.new Hg10.out hb))
            · exact fun aa ww hb he hd => ob_plain rfl (gives_call2 _ _ _ _ rfl (by kernel_rfl) (rmul_v (x := ((lnC B i) * (lnB A k)) - ((lnC B k) * (lnB A i))) (y := 1 / detL A i k) ((two_frac (HLf.out i).2.2 (HLf.out k).2.1 (HLf.out k).2.2 (HLf.out i).2.1).small (by omega) (by omega) (by omega)) HIs.out _ _ hd.1 hd.2.1 _))
            · exact fun aa ww hb he hd => ob_plain rfl (alloc_q rfl hb)
          intro vs w15 hb hR _
          have r11 : Zq w14.heap.size (vs 25) w15 := hR 25 (by decide)
          have e87 : vs 24 = QL ((((lnC B i) * (lnB A k)) - ((lnC B k) * (lnB A i))) * (1 / detL A i k)) := hR 24 (by decide)
          clear hR
          simp only [putsL, Nat.zero_add, Nat.reduceAdd, List.take_succ_cons, List.take_zero, Act.put, List.setIfInBounds_toArray, List.set_cons_zero, List.set_cons_succ]
          rw [e87]
          clear e87
          obtain ⟨g11, eg11, hlo, hz⟩ := r11
          rw [eg11]
          clear eg11
          show wpAny _ _ _ _ 1 _ _ _
          refine wpAny_next (i := 26) (by kernel_rfl) rfl rfl (store_qb (g := g11) (x := xL A B i k) rfl rfl rfl rfl ⟨0, 0, GB.blk hz⟩ ?_)
          intro w16 kp hg hsz hX
          have hb2 := hb.grown hg hb.size (fun x hx => by cases hx; exact hlo)
          have Hg11 := Lib.hid (show Qb (xL A B i k) g11 w16 from hX)
          clear hb kp hg hsz hX hz hlo
          replace H5 := Lib.hid (H5.out.new hb2)
          replace HBx := Lib.hid (HBx.out.keep hb2)
          replace H2 := Lib.hid (H2.out.keep hb2)
          replace HLn := Lib.hid (HLn.out.below hb2)
          replace HB := Lib.hid (bthen HB.out hb2 HB.out.size)
          replace Hg9 := Lib.hid (Hg9.out.new hb2)
          replace Hg10 := Lib.hid (Hg10.out.new hb2)
          clear hb2
          refine wpAny_end (by kernel_rfl) (calm_normal ?_) _
          go_upto_region 13 with (fail)
          refine wp_region_join (kss := [[], [], [(0, 88), (1, 89)], [(2, 90)], [(3, 91)], [], [], [(5, 93), (6, 94)], [(7, 95)], [(8, 96)], [(4, 92), (9, 97)], [], [], [(11, 99), (12, 100)], [(13, 101)], [(14, 102)], [], [], [(16, 104), (17, 105)], [(18, 106)], [(19, 107)], [(15, 103), (20, 108)], [(10, 98), (21, 109)], [], [(22, 110), (23, 111)], []]) [(4, .slice (some ad) ((m + 2)) c0), (7, .int .i64 ((i : Int))), (8, .int .i64 ((k : Int))), (10, .pointer (some ⟨g10, 0, none⟩))] [EV (.slice (some ad) ((m + 2)) c0), EV (.int .i64 ((i : Int))), EV (.pointer (some (Addr.add ad (i * 6)))), EV (.pointer (some (Addr.add (Addr.add ad (i * 6)) (0 * 2)))), EV (QL (lnA A i)), EV (.slice (some ad) ((m + 2)) c0), EV (.int .i64 ((k : Int))), EV (.pointer (some (Addr.add ad (k * 6)))), EV (.pointer (some (Addr.add (Addr.add ad (k * 6)) (2 * 2)))), EV (QL (lnC B k)), EV (QL ((lnA A i) * (lnC B k))), EV (.slice (some ad) ((m + 2)) c0), EV (.int .i64 ((k : Int))), EV (.pointer (some (Addr.add ad (k * 6)))), EV (.pointer (some (Addr.add (Addr.add ad (k * 6)) (0 * 2)))), EV (QL (lnA A k)), EV (.slice (some ad) ((m + 2)) c0), EV (.int .i64 ((i : Int))), EV (.pointer (some (Addr.add ad (i * 6)))), EV (.pointer (some (Addr.add (Addr.add ad (i * 6)) (2 * 2)))), EV (QL (lnC B i)), EV (QL ((lnA A k) * (lnC B i))), EV (QL (((lnA A i) * (lnC B k)) - ((lnA A k) * (lnC B i)))), EV (QL (1 / detL A i k)), EV (QL ((((lnA A i) * (lnC B k)) - ((lnA A k) * (lnC B i))) * (1 / detL A i k))), Zq w16.heap.size] 26 [] (by kernel_rfl) (by kernel_rfl) ⟨rfl, rfl, rfl, rfl, trivial⟩ [false, false, false, false, false, false, false, false, false, false, false, false, false, false, false, false, false, false, false, false, false, false, false, false, false, false] ?_ ?_ ?_ ?_
          · exact fun i hi => absurd hi (by simp)
          · exact ⟨eI, eI, eI, eI, eI, eI, eI, eI, eI, eI, eI, eI, eI, eI, eI, eI, eI, eI, eI, eI, eI, eI, eI, eI, eI, fun _ _ _ h hb => h.new hb, trivial⟩
          · refine ⟨?_, ?_, ?_, ?_, ?_, ?_, ?_, ?_, ?_, ?_, ?_, ?_, ?_, ?_, ?_, ?_, ?_, ?_, ?_, ?_, ?_, ?_, ?_, ?_, ?_, ?_, trivial⟩
            · exact fun _ _ _ he hd => ob_mv rfl rfl he.1
            · exact fun _ _ _ he hd => ob_mv rfl rfl he.2.1
            · exact fun aa ww hb he hd => ob_plain rfl (idx_ln (by omega) rfl hd.1 hd.2.1)
            · exact fun aa ww hb he hd => ob_plain rfl (fld_ln rfl (by decide) hd.1)
            · exact fun aa ww hb he hd => ob_plain rfl (load_ln rfl hd.1 (Reads.of_own (HLn.out.below hb).own) (by omega) (by decide))
            · exact fun _ _ _ he hd => ob_mv rfl rfl he.1
            · exact fun _ _ _ he hd => ob_mv rfl rfl he.2.2.1
            · exact fun aa ww hb he hd => ob_plain rfl (idx_ln (by omega) rfl hd.1 hd.2.1)
            · exact fun aa ww hb he hd => ob_plain rfl (fld_ln rfl (by decide) hd.1)
            · exact fun aa ww hb he hd => ob_plain rfl (load_ln rfl hd.1 (Reads.of_own (HLn.out.below hb).own) (by omega) (by decide))
            · exact fun aa ww hb he hd => ob_plain rfl (gives_call2 _ _ _ _ rfl (by kernel_rfl) (rmul_v (x := lnA A i) (y := lnC B k) ((HLf.out i).1.small (by omega) (by omega) (by omega)) ((HLf.out k).2.2.small (by omega) (by omega) (by omega)) _ _ hd.1 hd.2.1 _))
            · exact fun _ _ _ he hd => ob_mv rfl rfl he.1
            · exact fun _ _ _ he hd => ob_mv rfl rfl he.2.2.1
            · exact fun aa ww hb he hd => ob_plain rfl (idx_ln (by omega) rfl hd.1 hd.2.1)
            · exact fun aa ww hb he hd => ob_plain rfl (fld_ln rfl (by decide) hd.1)
            · exact fun aa ww hb he hd => ob_plain rfl (load_ln rfl hd.1 (Reads.of_own (HLn.out.below hb).own) (by omega) (by decide))
            · exact fun _ _ _ he hd => ob_mv rfl rfl he.1
            · exact fun _ _ _ he hd => ob_mv rfl rfl he.2.1
            · exact fun aa ww hb he hd => ob_plain rfl (idx_ln (by omega) rfl hd.1 hd.2.1)
            · exact fun aa ww hb he hd => ob_plain rfl (fld_ln rfl (by decide) hd.1)
            · exact fun aa ww hb he hd => ob_plain rfl (load_ln rfl hd.1 (Reads.of_own (HLn.out.below hb).own) (by omega) (by decide))
            · exact fun aa ww hb he hd => ob_plain rfl (gives_call2 _ _ _ _ rfl (by kernel_rfl) (rmul_v (x := lnA A k) (y := lnC B i) ((HLf.out k).1.small (by omega) (by omega) (by omega)) ((HLf.out i).2.2.small (by omega) (by omega) (by omega)) _ _ hd.1 hd.2.1 _))
            · exact fun aa ww hb he hd => ob_plain rfl (gives_call2 _ _ _ _ rfl (by kernel_rfl) (by rw [show aa.eval (.tmp 98) = QL ((lnA A i) * (lnC B k)) from hd.1, show aa.eval (.tmp 109) = QL ((lnA A k) * (lnC B i)) from hd.2.1]; exact rv_one (rminus_any (((HLf.out i).1.mul (HLf.out k).2.2).small (by omega) (by omega) (by omega)) (((HLf.out k).1.mul (HLf.out i).2.2).small (by omega) (by omega) (by omega)) _)))
            · exact fun aa ww hb he hd => ob_plain rfl (load_qb rfl he.2.2.2.1 (Qb.new Hg10.out hb))
            · exact fun aa ww hb he hd => ob_plain rfl (gives_call2 _ _ _ _ rfl (by kernel_rfl) (rmul_v (x := ((lnA A i) * (lnC B k)) - ((lnA A k) * (lnC B i))) (y := 1 / detL A i k) ((two_frac (HLf.out i).1 (HLf.out k).2.2 (HLf.out k).1 (HLf.out i).2.2).small (by omega) (by omega) (by omega)) HIs.out _ _ hd.1 hd.2.1 _))
            · exact fun aa ww hb he hd => ob_plain rfl (alloc_q rfl hb)
          intro vs w17 hb hR _
          have r12 : Zq w16.heap.size (vs 25) w17 := hR 25 (by decide)
          have e112 : vs 24 = QL ((((lnA A i) * (lnC B k)) - ((lnA A k) * (lnC B i))) * (1 / detL A i k)) := hR 24 (by decide)
          clear hR
          simp only [putsL, Nat.zero_add, Nat.reduceAdd, List.take_succ_cons, List.take_zero, Act.put, List.setIfInBounds_toArray, List.set_cons_zero, List.set_cons_succ]
          rw [e112]
          clear e112
          obtain ⟨g12, eg12, hlo, hz⟩ := r12
          rw [eg12]
          clear eg12
          show wpAny _ _ _ _ 1 _ _ _
          refine wpAny_next (i := 26) (by kernel_rfl) rfl rfl (store_qb (g := g12) (x := yL A B i k) rfl rfl rfl rfl ⟨0, 0, GB.blk hz⟩ ?_)
          intro w18 kp hg hsz hX
          have hb2 := hb.grown hg hb.size (fun x hx => by cases hx; exact hlo)
          have Hg12 := Lib.hid (show Qb (yL A B i k) g12 w18 from hX)
          clear hb kp hg hsz hX hz hlo
          replace H5 := Lib.hid (H5.out.new hb2)
          replace HBx := Lib.hid (HBx.out.keep hb2)
          replace H2 := Lib.hid (H2.out.keep hb2)
          replace HLn := Lib.hid (HLn.out.below hb2)
          replace HB := Lib.hid (bthen HB.out hb2 HB.out.size)
          replace Hg9 := Lib.hid (Hg9.out.new hb2)
          replace Hg10 := Lib.hid (Hg10.out.new hb2)
          replace Hg11 := Lib.hid (Hg11.out.new hb2)
          clear hb2
          refine wpAny_end (by kernel_rfl) (calm_normal ?_) _
          go_upto_region 14 with (fail)
          refine wp_region_seq (kss := [[], [], [(0, 113), (1, 114)], [(2, 115)]]) [(11, .pointer (some ⟨g11, 0, none⟩)), (12, .pointer (some ⟨g12, 0, none⟩))] [EV (QL (xL A B i k)), EV (QL (yL A B i k)), fun v w' => ∃ (A0 : Option Addr) (c1 : Nat), v = .slice A0 2 c1 ∧ Reads w' w'.heap.size 2 A0 2 (qsL (pt (xL A B i k) (yL A B i k)) 2), fun v w' => ∃ (A0 : Option Addr) (c1 : Nat), v = .slice A0 2 c1 ∧ Reads w' w'.heap.size 2 A0 2 (qsL (pt (xL A B i k) (yL A B i k)) 2)] (by kernel_rfl) ⟨rfl, rfl, trivial⟩ ?_ ?_ ?_
          · exact ⟨eI, eI, fun _ _ _ ⟨A0, c1, h1, h2⟩ hb => ⟨A0, c1, h1, (h2.below hb).more hb.size⟩, fun _ _ _ ⟨A0, c1, h1, h2⟩ hb => ⟨A0, c1, h1, (h2.below hb).more hb.size⟩, trivial⟩
          · refine ⟨?_, ?_, ?_, ?_, trivial⟩
            · exact fun aa ww hb he hd => ob_plain rfl (load_qb rfl he.1 (Qb.new Hg11.out hb))
            · exact fun aa ww hb he hd => ob_plain rfl (load_qb rfl he.2.1 (Qb.new Hg12.out hb))
            · exact fun aa ww hb he hd => ob_plain rfl (gives_two_q rfl hd.1 hd.2.1)
            · exact fun aa ww hb he hd => ob_plain rfl (gives_assign _ rfl ⟨hd.1, Below.refl _ _⟩)
          intro vs w19 hb hR
          have r13 := hR 3 (by decide)
          clear hR
          simp only [putsL, Nat.zero_add, Nat.reduceAdd, List.take_succ_cons, List.take_zero, Act.put, List.setIfInBounds_toArray, List.set_cons_zero, List.set_cons_succ]
          obtain ⟨A1, c1, e13, h1⟩ := r13
          rw [e13]
          clear e13
          have HAt := Lib.hid h1; clear h1
          replace H5 := Lib.hid (H5.out.new hb)
          replace HBx := Lib.hid (HBx.out.keep hb)
          replace H2 := Lib.hid (H2.out.keep hb)
          replace HLn := Lib.hid (HLn.out.below hb)
          replace HB := Lib.hid (bthen HB.out hb HB.out.size)
          replace Hg9 := Lib.hid (Hg9.out.new hb)
          replace Hg10 := Lib.hid (Hg10.out.new hb)
          replace Hg11 := Lib.hid (Hg11.out.new hb)
          replace Hg12 := Lib.hid (Hg12.out.new hb)
          clear hb
          clear Hg9 Hg10 Hg11 Hg12
          have HsP := Lib.hid (pt_frac HDx.out HDy.out)
          go_upto_region 15 with (fail)
          by_cases hv : Primal 2 m A B (pt (xL A B i k) (yL A B i k))
          rotate_left
          · skip
            have HVt := Lib.hid hv; clear hv
            refine wp_region_seq (kss := [[], [], [], [(2, 118)], [(0, 116), (1, 117), (3, 119)], [(4, 120)]]) [(1, .pointer (some ⟨gq, 0, none⟩)), (13, .slice A1 2 c1)] [EV (.agg #[.slice QC 2 qc, .slice QA m qa, .slice QB m qb]), EV (.slice A1 2 c1), EV (.pointer (some ⟨gq, 2, none⟩)), EV (.slice QB m qb), EV (.bool false), EV (.bool true)] (by kernel_rfl) ⟨rfl, rfl, trivial⟩ ?_ ?_ ?_
            · exact ⟨eI, eI, eI, eI, eI, eI, trivial⟩
            · refine ⟨?_, ?_, ?_, ?_, ?_, ?_, trivial⟩
              · exact fun aa ww hb he hd => ob_plain rfl (load_rpb rfl he.1 (Blk.keep HBx.out hb))
              · exact fun _ _ _ he hd => ob_mv rfl rfl he.2.1
              · exact fun aa ww hb he hd => ob_plain rfl (fld_rpb rfl (by decide) he.1)
              · exact fun aa ww hb he hd => ob_plain rfl (load_c32 rfl hd.1 (Blk.at2 HBx.out hb))
              · exact fun aa ww hb he hd => ob_plain rfl (gives_call3 _ _ _ _ _ rfl (by kernel_rfl) (by rw [show aa.eval (.tmp 116) = .agg #[.slice QC 2 qc, .slice QA m qa, .slice QB m qb] from hd.1, show aa.eval (.tmp 117) = .slice A1 2 c1 from hd.2.1, show aa.eval (.tmp 119) = .slice QB m qb from hd.2.2.1]; exact ret_t (rfeas_any 2 m m 2 m qc qa qb c1 qb QC QA QB A1 QB Qr qp A C B (pt (xL A B i k) (yL A B i k)) B _ (RqW.new HQ.out (bthen HB.out hb HB.out.size)) (((HAt.out.below hb).more hb.size)) ((RqW.new HQ.out (bthen HB.out hb HB.out.size)).b) (by omega) (fun i hi => (HsP.out i hi).small hD1 (by omega) (by omega)) (fun i _ => HsB.out i) (fun i _ => dotS2 (by omega) hD1 hD2 (fun k _ => HfA.out i k) (fun k hk => HsP.out k hk)) (by omega) (by omega) (by omega)) (f_iff (fun h => HVt.out h.2))))
              · exact fun aa ww hb he hd => ob_plain rfl (gives_not false _ _ rfl hd.1 ⟨rfl, Below.refl _ _⟩)
            intro vs w20 hb hR
            have e121 : vs 5 = .bool true := hR 5 (by decide)
            clear hR
            simp only [putsL, Nat.zero_add, Nat.reduceAdd, List.take_succ_cons, List.take_zero, Act.put, List.setIfInBounds_toArray, List.set_cons_zero, List.set_cons_succ]
            rw [e121]
            clear e121
            replace H5 := Lib.hid (H5.out.new hb)
            replace HBx := Lib.hid (HBx.out.keep hb)
            replace H2 := Lib.hid (H2.out.keep hb)
            replace HLn := Lib.hid (HLn.out.below hb)
            replace HB := Lib.hid (bthen HB.out hb HB.out.size)
            replace HAt := Lib.hid ((HAt.out.below hb).more (Below.size hb))
            clear hb
            go_wp2_with fail
            go_roundg (gk - 1)
            case measure => omega
            case rel => exact ⟨k + 1, best, has, by go_num, rfl, by omega, by omega, Lib.hid ⟨BInv.skip (fun h => HVt.out h.2) HI0.out, H5.out, HBx.out, H2.out, HLn.out, HB.out⟩⟩
          have HVt := Lib.hid hv; clear hv
          refine wp_region_seq (kss := [[], [], [], [(2, 118)], [(0, 116), (1, 117), (3, 119)], [(4, 120)]]) [(1, .pointer (some ⟨gq, 0, none⟩)), (13, .slice A1 2 c1)] [EV (.agg #[.slice QC 2 qc, .slice QA m qa, .slice QB m qb]), EV (.slice A1 2 c1), EV (.pointer (some ⟨gq, 2, none⟩)), EV (.slice QB m qb), EV (.bool true), EV (.bool false)] (by kernel_rfl) ⟨rfl, rfl, trivial⟩ ?_ ?_ ?_
          · exact ⟨eI, eI, eI, eI, eI, eI, trivial⟩
          · refine ⟨?_, ?_, ?_, ?_, ?_, ?_, trivial⟩
            · exact fun aa ww hb he hd => ob_plain rfl (load_rpb rfl he.1 (Blk.keep HBx.out hb))
            · exact fun _ _ _ he hd => ob_mv rfl rfl he.2.1
            · exact fun aa ww hb he hd => ob_plain rfl (fld_rpb rfl (by decide) he.1)
            · exact fun aa ww hb he hd => ob_plain rfl (load_c32 rfl hd.1 (Blk.at2 HBx.out hb))
            · exact fun aa ww hb he hd => ob_plain rfl (gives_call3 _ _ _ _ _ rfl (by kernel_rfl) (by rw [show aa.eval (.tmp 116) = .agg #[.slice QC 2 qc, .slice QA m qa, .slice QB m qb] from hd.1, show aa.eval (.tmp 117) = .slice A1 2 c1 from hd.2.1, show aa.eval (.tmp 119) = .slice QB m qb from hd.2.2.1]; exact ret_t (rfeas_any 2 m m 2 m qc qa qb c1 qb QC QA QB A1 QB Qr qp A C B (pt (xL A B i k) (yL A B i k)) B _ (RqW.new HQ.out (bthen HB.out hb HB.out.size)) (((HAt.out.below hb).more hb.size)) ((RqW.new HQ.out (bthen HB.out hb HB.out.size)).b) (by omega) (fun i hi => (HsP.out i hi).small hD1 (by omega) (by omega)) (fun i _ => HsB.out i) (fun i _ => dotS2 (by omega) hD1 hD2 (fun k _ => HfA.out i k) (fun k hk => HsP.out k hk)) (by omega) (by omega) (by omega)) (t_iff ⟨rfl, HVt.out⟩)))
            · exact fun aa ww hb he hd => ob_plain rfl (gives_not true _ _ rfl hd.1 ⟨rfl, Below.refl _ _⟩)
          intro vs w20 hb hR
          have e121 : vs 5 = .bool false := hR 5 (by decide)
          clear hR
          simp only [putsL, Nat.zero_add, Nat.reduceAdd, List.take_succ_cons, List.take_zero, Act.put, List.setIfInBounds_toArray, List.set_cons_zero, List.set_cons_succ]
          rw [e121]
          clear e121
          replace H5 := Lib.hid (H5.out.new hb)
          replace HBx := Lib.hid (HBx.out.keep hb)
          replace H2 := Lib.hid (H2.out.keep hb)
          replace HLn := Lib.hid (HLn.out.below hb)
          replace HB := Lib.hid (bthen HB.out hb HB.out.size)
          replace HAt := Lib.hid ((HAt.out.below hb).more (Below.size hb))
          clear hb
          have HVx := Lib.hid (show Vtx m A B i k from ⟨HD0.out, HVt.out⟩)
          have HDC := Lib.hid (dotS2 (n := 2) (by omega) hD1 hD2 (fun k _ => HfC.out k) (fun k hk => HsP.out k hk))
          have HVs := Lib.hid (show Sm (vval A B C i k) from HDC.out.h4 2 (Nat.le_refl _))
          go_upto_region 16 with (fail)
          refine wp_region_joins (kss := [[], [(0, 122)], [], [(1, 123), (2, 124)], []]) [(1, .pointer (some ⟨gq, 0, none⟩)), (13, .slice A1 2 c1)] [EV (.pointer (some ⟨gq, 0, none⟩)), EV (.slice QC 2 qc), EV (.slice A1 2 c1), EV (QL (sm (fun l => C l * ((pt (xL A B i k) (yL A B i k))) l) 2)), Zq w20.heap.size] 5 (by kernel_rfl) ⟨rfl, rfl, trivial⟩ [false, false, false, false, false] ?_ ?_ ?_
          · exact ⟨eI, eI, eI, eI, fun _ _ _ h hb => h.new hb, trivial⟩
          · refine ⟨?_, ?_, ?_, ?_, ?_, trivial⟩
            · exact fun aa ww hb he hd => ob_plain rfl (fld_rpb rfl (by decide) he.1)
            · exact fun aa ww hb he hd => ob_plain rfl (load_c32 rfl hd.1 (Blk.at0 HBx.out hb))
            · exact fun _ _ _ he hd => ob_mv rfl rfl he.2.1
            · exact fun aa ww hb he hd => ob_plain rfl (gives_call2 _ _ _ _ rfl (by kernel_rfl) (by rw [show aa.eval (.tmp 123) = .slice QC 2 qc from hd.1, show aa.eval (.tmp 124) = .slice A1 2 c1 from hd.2.1]; exact rdot_any 2 2 qc c1 QC A1 C ((pt (xL A B i k) (yL A B i k))) _ ((RqW.new HQ.out (bthen HB.out hb HB.out.size)).c) (((HAt.out.below hb).more hb.size)) (by omega) (by omega) HDC.out))
            · exact fun aa ww hb he hd => ob_plain rfl (alloc_q rfl hb)
          intro vs w21 hb hR
          have r14 : Zq w20.heap.size (vs 4) w21 := hR 4 (by decide)
          have e125 : vs 3 = QL (sm (fun l => C l * ((pt (xL A B i k) (yL A B i k))) l) 2) := hR 3 (by decide)
          clear hR
          simp only [putsL, Nat.zero_add, Nat.reduceAdd, List.take_succ_cons, List.take_zero, Act.put, List.setIfInBounds_toArray, List.set_cons_zero, List.set_cons_succ]
          rw [e125]
          clear e125
          obtain ⟨g14, eg14, hlo, hz⟩ := r14
          rw [eg14]
          clear eg14
          show wpOps _ _ _ [5] _ _
          refine wpOps_next rfl rfl (store_qb (g := g14) (x := vval A B C i k) rfl rfl rfl rfl ⟨0, 0, GB.blk hz⟩ ?_)
          intro w22 kp hg hsz hX
          have hb2 := hb.grown hg hb.size (fun x hx => by cases hx; exact hlo)
          have Hg14 := Lib.hid (show Qb (vval A B C i k) g14 w22 from hX)
          clear hb kp hg hsz hX hz hlo
          replace H5 := Lib.hid (H5.out.new hb2)
          replace HBx := Lib.hid (HBx.out.keep hb2)
          replace H2 := Lib.hid (H2.out.keep hb2)
          replace HLn := Lib.hid (HLn.out.below hb2)
          replace HB := Lib.hid (bthen HB.out hb2 HB.out.size)
          replace HAt := Lib.hid ((HAt.out.below hb2).more (Below.size hb2))
          clear hb2
          unfold wpOps
          go_upto_region 17 with (fail)
          cases has with
          | false =>
            refine wp_region_seq (kss := [[], [(0, 126)], [(1, 127)], [(2, 128)], [(2, 128)], [(2, 128), (3, 129), (4, 130)], [(2, 128), (5, 131)], [(2, 128), (6, 132)]]) [(6, .bool false), (14, .pointer (some ⟨g14, 0, none⟩)), (5, .pointer (some ⟨g5, 0, none⟩))] [EV (.bool false), EV (.bool true), EV (.bool true), EV (undef), EV (undef), EV (undef), EV (undef), EV (.bool true)] (by kernel_rfl) ⟨rfl, rfl, rfl, trivial⟩ ?_ ?_ ?_
            · exact ⟨eI, eI, eI, eI, eI, eI, eI, eI, trivial⟩
            · refine ⟨?_, ?_, ?_, ?_, ?_, ?_, ?_, ?_, trivial⟩
              · exact fun _ _ _ he hd => ob_mv rfl rfl he.1
              · exact fun aa ww hb he hd => ob_plain rfl (gives_not false _ _ rfl hd.1 ⟨rfl, Below.refl _ _⟩)
              · exact fun _ _ _ he hd => ob_mv rfl rfl hd.1
              · exact fun aa ww hb he hd => ob_off 128 rfl (by kernel_rfl) hd.1 rfl
              · exact fun aa ww hb he hd => ob_off 128 rfl (by kernel_rfl) hd.1 rfl
              · exact fun aa ww hb he hd => ob_off 128 rfl (by kernel_rfl) hd.1 rfl
              · exact fun aa ww hb he hd => ob_off 128 rfl (by kernel_rfl) hd.1 rfl
              · exact fun aa ww hb he hd => ob_plain rfl (gives_pick true _ _ _ rfl hd.1 ⟨rfl, Below.refl _ _⟩)
            intro vs w23 hb hR
            have e133 : vs 7 = .bool true := hR 7 (by decide)
            clear hR
            simp only [putsL, Nat.zero_add, Nat.reduceAdd, List.take_succ_cons, List.take_zero, Act.put, List.setIfInBounds_toArray, List.set_cons_zero, List.set_cons_succ]
            rw [e133]
            clear e133
            replace H5 := Lib.hid (H5.out.new hb)
            replace HBx := Lib.hid (HBx.out.keep hb)
            replace H2 := Lib.hid (H2.out.keep hb)
            replace HLn := Lib.hid (HLn.out.below hb)
            replace HB := Lib.hid (bthen HB.out hb HB.out.size)
            replace HAt := Lib.hid ((HAt.out.below hb).more (Below.size hb))
            replace Hg14 := Lib.hid (Hg14.out.new hb)
            clear hb
            go_upto_region 18 with (fail)
            refine wp_region_joins (kss := [[]]) [(14, .pointer (some ⟨g14, 0, none⟩))] [EV (QL (vval A B C i k))] 1 (by kernel_rfl) ⟨rfl, trivial⟩ [false] ?_ ?_ ?_
            · exact ⟨eI, trivial⟩
            · refine ⟨?_, trivial⟩
              · exact fun aa ww hb he hd => ob_plain rfl (load_qb rfl he.1 (Qb.new Hg14.out hb))
            intro vs w24 hb hR
            have e134 : vs 0 = QL (vval A B C i k) := hR 0 (by decide)
            clear hR
            simp only [putsL, Nat.zero_add, Nat.reduceAdd, List.take_succ_cons, List.take_zero, Act.put, List.setIfInBounds_toArray, List.set_cons_zero, List.set_cons_succ]
            rw [e134]
            clear e134
            show wpOps _ _ _ [1, 2] _ _
            refine wpOps_next rfl rfl (store_qb (g := g5) (x := vval A B C i k) rfl rfl rfl rfl (Qb.blk (H5.out.new hb)) ?_)
            intro w25 kp hg hsz hX
            replace HBx := Lib.hid ((HBx.out.keep hb).grown hg (fun e => by injection e with e; exact Blk.ne_ (HBx.out.keep hb) (GB.blk (H5.out.new hb)) (by decide) e))
            replace H2 := Lib.hid ((H2.out.keep hb).grown hg (fun e => by injection e with e; exact HN5.out.1 e))
            replace HLn := Lib.hid ((HLn.out.below hb).blk (GB.blk (H5.out.new hb)) (by decide) hg)
            replace HB := Lib.hid ((bthen HB.out hb HB.out.size).grown hg (bthen HB.out hb HB.out.size).size (fun x hx => by cases hx; exact HN5.out.2))
            replace H5 := Lib.hid (show Qb (vval A B C i k) g5 w25 from hX)
            clear hb kp hg hsz hX Hg14
            refine wpOps_next rfl rfl (wp_assign 6 (.const (.bool true)) rfl rfl (.bool true) rfl ?_)
            simp only [Act.put, List.setIfInBounds_toArray, List.set_cons_zero, List.set_cons_succ]
            unfold wpOps
            go_wp2_with fail
            go_roundg (gk - 1)
            case measure => omega
            case rel => exact ⟨k + 1, vval A B C i k, true, by go_num, rfl, by omega, by omega, Lib.hid ⟨BInv.take HVx.out (fun h => by cases h) HVs.out HI0.out, H5.out, HBx.out, H2.out, HLn.out, HB.out⟩⟩
          | true =>
            by_cases hgt : best < vval A B C i k
            · have HGt := Lib.hid hgt; clear hgt
              have hq : decide (rcq (vval A B C i k) best > 0) = true := rcq_gtb.trans (decide_eq_true HGt.out)
              refine wp_region_seq (kss := [[], [(0, 126)], [(1, 127)], [(2, 128)], [(2, 128)], [(2, 128), (3, 129), (4, 130)], [(2, 128), (5, 131)], [(2, 128), (6, 132)]]) [(6, .bool true), (14, .pointer (some ⟨g14, 0, none⟩)), (5, .pointer (some ⟨g5, 0, none⟩))] [EV (.bool true), EV (.bool false), EV (.bool false), EV (QL (vval A B C i k)), EV (QL (best)), EV (.int .i64 (rcq (vval A B C i k) best)), EV (.bool true), EV (.bool true)] (by kernel_rfl) ⟨rfl, rfl, rfl, trivial⟩ ?_ ?_ ?_
              · exact ⟨eI, eI, eI, eI, eI, eI, eI, eI, trivial⟩
              · refine ⟨?_, ?_, ?_, ?_, ?_, ?_, ?_, ?_, trivial⟩
                · exact fun _ _ _ he hd => ob_mv rfl rfl he.1
                · exact fun aa ww hb he hd => ob_plain rfl (gives_not true _ _ rfl hd.1 ⟨rfl, Below.refl _ _⟩)
                · exact fun _ _ _ he hd => ob_mv rfl rfl hd.1
                · exact fun aa ww hb he hd => ob_on 128 rfl (by kernel_rfl) hd.1 (load_qb rfl he.2.1 (Qb.new Hg14.out hb))
                · exact fun aa ww hb he hd => ob_on 128 rfl (by kernel_rfl) hd.1 (load_qb rfl he.2.2.1 (Qb.new H5.out hb))
                · exact fun aa ww hb he hd => ob_on 128 rfl (by kernel_rfl) hd.1 (gives_call2 _ _ _ _ rfl (by kernel_rfl) (rcmp_v (x := vval A B C i k) (y := best) HVs.out HI0.out.s _ _ hd.2.1 hd.2.2.1 _))
                · exact fun aa ww hb he hd => ob_on 128 rfl (by kernel_rfl) hd.1 (gives_gt_int (rcq (vval A B C i k) best) 0 .i64 _ _ _ _ rfl hd.2.1 rfl ⟨congrArg Value.bool (hq), Below.refl _ _⟩)
                · exact fun aa ww hb he hd => ob_plain rfl (gives_pick false _ _ _ rfl hd.1 ⟨hd.2.1, Below.refl _ _⟩)
              intro vs w23 hb hR
              have e133 : vs 7 = .bool true := hR 7 (by decide)
              clear hR
              simp only [putsL, Nat.zero_add, Nat.reduceAdd, List.take_succ_cons, List.take_zero, Act.put, List.setIfInBounds_toArray, List.set_cons_zero, List.set_cons_succ]
              rw [e133]
              clear e133
              replace H5 := Lib.hid (H5.out.new hb)
              replace HBx := Lib.hid (HBx.out.keep hb)
              replace H2 := Lib.hid (H2.out.keep hb)
              replace HLn := Lib.hid (HLn.out.below hb)
              replace HB := Lib.hid (bthen HB.out hb HB.out.size)
              replace HAt := Lib.hid ((HAt.out.below hb).more (Below.size hb))
              replace Hg14 := Lib.hid (Hg14.out.new hb)
              clear hb
              clear hq
              go_upto_region 18 with (fail)
              refine wp_region_joins (kss := [[]]) [(14, .pointer (some ⟨g14, 0, none⟩))] [EV (QL (vval A B C i k))] 1 (by kernel_rfl) ⟨rfl, trivial⟩ [false] ?_ ?_ ?_
              · exact ⟨eI, trivial⟩
              · refine ⟨?_, trivial⟩
                · exact fun aa ww hb he hd => ob_plain rfl (load_qb rfl he.1 (Qb.new Hg14.out hb))
              intro vs w24 hb hR
              have e134 : vs 0 = QL (vval A B C i k) := hR 0 (by decide)
              clear hR
              simp only [putsL, Nat.zero_add, Nat.reduceAdd, List.take_succ_cons, List.take_zero, Act.put, List.setIfInBounds_toArray, List.set_cons_zero, List.set_cons_succ]
              rw [e134]
              clear e134
              show wpOps _ _ _ [1, 2] _ _
              refine wpOps_next rfl rfl (store_qb (g := g5) (x := vval A B C i k) rfl rfl rfl rfl (Qb.blk (H5.out.new hb)) ?_)
              intro w25 kp hg hsz hX
              replace HBx := Lib.hid ((HBx.out.keep hb).grown hg (fun e => by injection e with e; exact Blk.ne_ (HBx.out.keep hb) (GB.blk (H5.out.new hb)) (by decide) e))
              replace H2 := Lib.hid ((H2.out.keep hb).grown hg (fun e => by injection e with e; exact HN5.out.1 e))
              replace HLn := Lib.hid ((HLn.out.below hb).blk (GB.blk (H5.out.new hb)) (by decide) hg)
              replace HB := Lib.hid ((bthen HB.out hb HB.out.size).grown hg (bthen HB.out hb HB.out.size).size (fun x hx => by cases hx; exact HN5.out.2))
              replace H5 := Lib.hid (show Qb (vval A B C i k) g5 w25 from hX)
              clear hb kp hg hsz hX Hg14
              refine wpOps_next rfl rfl (wp_assign 6 (.const (.bool true)) rfl rfl (.bool true) rfl ?_)
              simp only [Act.put, List.setIfInBounds_toArray, List.set_cons_zero, List.set_cons_succ]
              unfold wpOps
              go_wp2_with fail
              go_roundg (gk - 1)
              case measure => omega
              case rel => exact ⟨k + 1, vval A B C i k, true, by go_num, rfl, by omega, by omega, Lib.hid ⟨BInv.take HVx.out (fun _ => HGt.out) HVs.out HI0.out, H5.out, HBx.out, H2.out, HLn.out, HB.out⟩⟩
            · have HGt := Lib.hid hgt; clear hgt
              have hq : decide (rcq (vval A B C i k) best > 0) = false := rcq_gtb.trans (decide_eq_false HGt.out)
              refine wp_region_seq (kss := [[], [(0, 126)], [(1, 127)], [(2, 128)], [(2, 128)], [(2, 128), (3, 129), (4, 130)], [(2, 128), (5, 131)], [(2, 128), (6, 132)]]) [(6, .bool true), (14, .pointer (some ⟨g14, 0, none⟩)), (5, .pointer (some ⟨g5, 0, none⟩))] [EV (.bool true), EV (.bool false), EV (.bool false), EV (QL (vval A B C i k)), EV (QL (best)), EV (.int .i64 (rcq (vval A B C i k) best)), EV (.bool false), EV (.bool false)] (by kernel_rfl) ⟨rfl, rfl, rfl, trivial⟩ ?_ ?_ ?_
              · exact ⟨eI, eI, eI, eI, eI, eI, eI, eI, trivial⟩
              · refine ⟨?_, ?_, ?_, ?_, ?_, ?_, ?_, ?_, trivial⟩
                · exact fun _ _ _ he hd => ob_mv rfl rfl he.1
                · exact fun aa ww hb he hd => ob_plain rfl (gives_not true _ _ rfl hd.1 ⟨rfl, Below.refl _ _⟩)
                · exact fun _ _ _ he hd => ob_mv rfl rfl hd.1
                · exact fun aa ww hb he hd => ob_on 128 rfl (by kernel_rfl) hd.1 (load_qb rfl he.2.1 (Qb.new Hg14.out hb))
                · exact fun aa ww hb he hd => ob_on 128 rfl (by kernel_rfl) hd.1 (load_qb rfl he.2.2.1 (Qb.new H5.out hb))
                · exact fun aa ww hb he hd => ob_on 128 rfl (by kernel_rfl) hd.1 (gives_call2 _ _ _ _ rfl (by kernel_rfl) (rcmp_v (x := vval A B C i k) (y := best) HVs.out HI0.out.s _ _ hd.2.1 hd.2.2.1 _))
                · exact fun aa ww hb he hd => ob_on 128 rfl (by kernel_rfl) hd.1 (gives_gt_int (rcq (vval A B C i k) best) 0 .i64 _ _ _ _ rfl hd.2.1 rfl ⟨congrArg Value.bool (hq), Below.refl _ _⟩)
                · exact fun aa ww hb he hd => ob_plain rfl (gives_pick false _ _ _ rfl hd.1 ⟨hd.2.1, Below.refl _ _⟩)
              intro vs w23 hb hR
              have e133 : vs 7 = .bool false := hR 7 (by decide)
              clear hR
              simp only [putsL, Nat.zero_add, Nat.reduceAdd, List.take_succ_cons, List.take_zero, Act.put, List.setIfInBounds_toArray, List.set_cons_zero, List.set_cons_succ]
              rw [e133]
              clear e133
              replace H5 := Lib.hid (H5.out.new hb)
              replace HBx := Lib.hid (HBx.out.keep hb)
              replace H2 := Lib.hid (H2.out.keep hb)
              replace HLn := Lib.hid (HLn.out.below hb)
              replace HB := Lib.hid (bthen HB.out hb HB.out.size)
              replace HAt := Lib.hid ((HAt.out.below hb).more (Below.size hb))
              replace Hg14 := Lib.hid (Hg14.out.new hb)
              clear hb
              clear hq
              go_wp2_with fail
              go_roundg (gk - 1)
              case measure => omega
              case rel => exact ⟨k + 1, best, true, by go_num, rfl, by omega, by omega, Lib.hid ⟨BInv.kept HVx.out (by have := HGt.out; grind) HI0.out, H5.out, HBx.out, H2.out, HLn.out, HB.out⟩⟩
        · have hkk : ¬ ((k : Int) < ((m + 2 : Nat) : Int)) := by omega
          go_wp2_with fail
          go_roundg (G - 1)
          case measure => omega
          case rel => exact ⟨i + 1, best, has, by go_num, rfl, by omega, Lib.hid ⟨BInv.row (by omega) HI0.out, H5.out, HBx.out, H2.out, HLn.out, HB.out⟩⟩
    · have hii : ¬ ((i : Int) < ((m + 2 : Nat) : Int)) := by omega
      go_upto_region 19 with (fail)
      refine wp_region_joins (kss := [[], []]) [(5, .pointer (some ⟨g5, 0, none⟩)), (6, .bool has)] [EV (QL (best)), EV (.bool has)] 2 (by kernel_rfl) ⟨rfl, rfl, trivial⟩ [false, false] ?_ ?_ ?_
      · exact ⟨eI, eI, trivial⟩
      · refine ⟨?_, ?_, trivial⟩
        · exact fun aa ww hb he hd => ob_plain rfl (load_qb rfl he.1 (Qb.new H5.out hb))
        · exact fun _ _ _ he hd => ob_mv rfl rfl he.2.1
      intro vs w5 hb hR
      have e135 : vs 0 = QL (best) := hR 0 (by decide)
      have e136 : vs 1 = .bool has := hR 1 (by decide)
      clear hR
      simp only [putsL, Nat.zero_add, Nat.reduceAdd, List.take_succ_cons, List.take_zero, Act.put, List.setIfInBounds_toArray, List.set_cons_zero, List.set_cons_succ]
      rw [e135, e136]
      clear e135 e136
      show wpOps _ _ _ [2, 3] _ _
      refine wpOps_next rfl rfl (store_qb (g := g2) (x := best) rfl rfl rfl rfl ⟨0, 0, H2.out.keep hb⟩ ?_)
      intro w6 kp hg hsz hX
      have HXa := Lib.hid (GB.blk hX)
      have HBa := Lib.hid (show Below w.heap.size w w6 from (bthen HB.out hb HB.out.size).grown hg (bthen HB.out hb HB.out.size).size (fun x hx => by cases hx; exact HGgq.out.2))
      clear hb kp hg hsz hX
      refine wpOps_next rfl rfl (wp_assign 3 (.tmp 136) rfl rfl (.bool has) rfl ?_)
      simp only [Act.put, List.setIfInBounds_toArray, List.set_cons_zero, List.set_cons_succ]
      unfold wpOps
      go_wp2_with fail
      refine bodyPost_ret (v := .tuple #[QL best, .bool has]) (results_cell_tmp Try.results22 _ _ _ _ _ (0, 0) _ rfl HXa.out Try.underlying58 rfl rfl) rfl ?_
      have HFn := HI0.out.fin (by omega)
      cases has
      · exact ⟨best, .inl ⟨rfl, HFn, HI0.out.s, HBa.out⟩⟩
      · exact ⟨best, .inr ⟨rfl, HFn, HI0.out.s, HBa.out⟩⟩
end Go.Proofs.Ytamcibmjpmibdaa
namespace Go.Proofs.Ytamcibmjpmibdaa
open Go.RowKit
set_option linter.unusedVariables false
set_option linter.unusedSimpArgs false

end Go.Proofs.Ytamcibmjpmibdaa
namespace Go.Proofs.Ytamcibmjpmibdaa
open Go.RowKit
set_option linter.unusedVariables false
set_option linter.unusedSimpArgs false

section
variable {o : Oper} {a : Act} {w : World} {t : Tmp}
theorem Blk.at5 {w w' : World} {g : Nat} {t : TypeId} {v0 v1 v2 v3 v4 v : Value} {r : List Value} (h : Blk w g t (v0 :: v1 :: v2 :: v3 :: v4 :: v :: r).toArray) (hb : Below w.heap.size w w') : w'.cell? ⟨g, 5, none⟩ = some v := by rw [(h.keep hb).cell]; rfl
end
end Go.Proofs.Ytamcibmjpmibdaa
namespace Go.Proofs.Ytamcibmjpmibdaa
open Go.RowKit
set_option linter.unusedVariables false
set_option linter.unusedSimpArgs false

theorem rv_parts {b : Nat} {x : Rat} {s : Bool} {A B : Option Addr} {n c m d : Nat} {w : World} (h : Rv b x (.agg #[.bool s, .slice A n c, .slice B m d]) w) : Rn w s A n c B m d b x := by
  obtain ⟨s', A', n', c', B', m', d', e, h⟩ := h
  cases e
  exact h
theorem Blk.at6 {w w' : World} {g : Nat} {t : TypeId} {v0 v1 v2 v3 v4 v5 v : Value} {r : List Value} (h : Blk w g t (v0 :: v1 :: v2 :: v3 :: v4 :: v5 :: v :: r).toArray) (hb : Below w.heap.size w w') : w'.cell? ⟨g, 6, none⟩ = some v := by
  rw [(h.keep hb).cell]; rfl
section
variable {o : Oper} {a : Act} {w : World} {t : Tmp}
theorem fld_rat4 {g k : Nat} (ho : o.op = .fieldAddr 41 (.tmp t) k) (hk : k < 3) (h : tv a t = .pointer (some ⟨g, 4, none⟩)) : gives Try.prog o a.eval w (fun v w' => v = .pointer (some ⟨g, 4 + k, none⟩) ∧ Below w.heap.size w w') := by
  refine gives_val (.pointer (some ⟨g, 4 + k, none⟩)) ?_ ⟨rfl, Below.refl _ _⟩
  have : k = 0 ∨ k = 1 ∨ k = 2 := by omega
  rcases this with rfl | rfl | rfl <;> (unfold execOp; rw [ho]; simp only [eval_tmp, h]; go_simp)
theorem load_c4 {p : Addr} {v : Value} (ho : o.op = .load 4 (.tmp t)) (hx : tv a t = .pointer (some p)) (hc : w.cell? p = some v) : gives Try.prog o a.eval w (fun z w' => z = v ∧ Below w.heap.size w w') := by
  refine gives_val v ?_ ⟨rfl, Below.refl _ _⟩
  unfold execOp; rw [ho]; simp only [eval_tmp, hx]; go_simp
theorem gives_conv64 {z : Int} (hz : 0 ≤ z ∧ z ≤ 1073741824) (ho : o.op = .convert 2 64 (.tmp t)) (hx : tv a t = .int .i64 z) : gives Try.prog o a.eval w (fun v w' => v = .int .u64 z ∧ Below w.heap.size w w') := by
  have e : IntKind.u64.wrap z = z := IntWalk.u64_in _ (by omega)
  refine gives_val (.int .u64 z) ?_ ⟨rfl, Below.refl _ _⟩
  unfold execOp; rw [ho]; simp only [eval_tmp, hx]
  go_simp
  all_goals first | exact e | omega
end
def SvRn (n m : Nat) (A : Nat → Nat → Rat) (B C : Nat → Rat) (w : World) (e : Ending) (w' : World) : Prop :=
  ∃ (AX : Option Addr) (kX cX : Nat) (AY : Option Addr) (kY cY : Nat) (AR : Option Addr) (kR cR : Nat) (s : Bool) (A0 : Option Addr) (k0 c0 : Nat) (B0 : Option Addr) (m0 d0 : Nat) (q : Res),
    e = .returned (.tuple #[.agg #[.int .i64 (q.out : Int), .slice AX kX cX, .slice AY kY cY, .slice AR kR cR, .bool s, .slice A0 k0 c0, .slice B0 m0 d0], .int .i64 0]) ∧ SolveIs n m A B C q ∧
    ((q.out = 0 ∧ kX = n ∧ kY = m ∧ kR = 0) ∨ (q.out = 1 ∧ kX = 0 ∧ kY = m ∧ kR = 0) ∨ (q.out = 2 ∧ kX = n ∧ kY = 0 ∧ kR = n)) ∧
    Rs w' w'.heap.size AX kX (PN w' 140 q.X) ∧ Rs w' w'.heap.size AY kY (PN w' 140 q.Y) ∧ Rs w' w'.heap.size AR kR (PN w' 140 q.Ray) ∧ Rv 140 q.v (.agg #[.bool s, .slice A0 k0 c0, .slice B0 m0 d0]) w' ∧ Below w.heap.size w w'
theorem solve_rv (n m b cC cA cB : Nat) (AC AA AB : Option Addr) (Ar : Nat → Option Addr) (ln cp : Nat → Nat) (A : Nat → Nat → Rat) (C B : Nat → Rat) (w : World) (hP : PrW w b n m m AC AA AB Ar ln cp A C B) (hl : ∀ i, i < m → ln i = n) (hn : n ≤ 6) (hm : m ≤ 6) (hb : b ≤ 140) (hF : FracP n m 12 10 A B C) :
    Calls Try.prog 13 #[.agg #[.slice AC n cC, .slice AA m cA, .slice AB m cB]] w (SvRn n m A B C w) := by
  have hbit : bitsT m 10 < 32 * 140 := Nat.lt_of_le_of_lt (bitsT_mono hm) (by decide)
  refine (Solve_ok n m (n + m + 2) 140 cC cA cB AC AA AB Ar ln cp A C B 12 10 w (hP.more hb) hl rfl (by omega) (by omega) (by omega) (by omega) hF hbit).mono ?_
  rintro e w' ⟨v, rfl, ⟨u, q, rfl, hs, hsv⟩, hb⟩
  obtain ⟨AX, kX, cX, AY, kY, cY, AR, kR, cR, s, A0, k0, c0, B0, m0, d0, rfl, hln, hX, hY, hR, hV⟩ := hsv
  exact ⟨AX, kX, cX, AY, kY, cY, AR, kR, cR, s, A0, k0, c0, B0, m0, d0, q, rfl, hs, hln, hX, hY, hR, hV, hb⟩
set_option maxRecDepth 100000 in
set_option maxHeartbeats 16000000 in
theorem flat_walk (n m k cC cA cB : Nat) (PC PA PB : Option Addr) (Pr : Nat → Option Addr) (ln cp : Nat → Nat) (NC NB : Nat → Int) (DC DB : Nat → Nat) (NA : Nat → Nat → Int) (DA : Nat → Nat → Nat) (w : World) (hP : PgL w n m k PC PA PB Pr ln cp NC NB DC DB NA DA)
    (A : Nat → Nat → Rat) (C B : Nat → Rat) (eC : C = fun i => smq (NC i) (DC i)) (eB : B = fun i => smq (NB i) (DB i)) (eA : A = fun i j => smq (NA i j) (DA i j)) :
    Calls Try.prog 5 #[.agg #[.slice PC n cC, .slice PA m cA, .slice PB k cB]] w (fun e w' => e = .returned (.bool true) ∧ Below w.heap.size w w') := by
  have EC := Lib.hid eC; have EB := Lib.hid eB; have EA := Lib.hid eA; clear eC eB eA
  have HfA := Lib.hid (show ∀ i j, Frac 12 108 (A i j) from fun i j => by rw [EA.out]; exact smq_frac _ _)
  have HfB := Lib.hid (show ∀ i, Frac 12 108 (B i) from fun i => by rw [EB.out]; exact smq_frac _ _)
  have HfC := Lib.hid (show ∀ i, Frac 12 108 (C i) from fun i => by rw [EC.out]; exact smq_frac _ _)
  have HPg := Lib.hid hP.p; have HLn := Lib.hid hP.l; clear hP
  go_enter Try.func5, Try.ntmps5
  go_upto_region 1 with (fail)
  have hbw := al w (.cells #[.slice PC n cC, .slice PA m cA, .slice PB k cB] 25)
  have T := Lib.hid (Blk.new w 25 #[.slice PC n cC, .slice PA m cA, .slice PB k cB])
  have HB := Lib.hid hbw
  replace HPg := Lib.hid (HPg.out.new hbw)
  clear hbw
  generalize w.alloc (.cells #[.slice PC n cC, .slice PA m cA, .slice PB k cB] 25) = w1 at *
  obtain ⟨g3, hg3⟩ : ∃ g3, g3 = w.heap.size := ⟨_, rfl⟩
  rw [← hg3] at T ⊢
  have HGg3 := Lib.hid (show w.heap.size ≤ g3 from by omega)
  clear hg3
  have c0 := Blk.at0 T.out (Below.refl _ _); have c1 := Blk.at1 T.out (Below.refl _ _); have c2 := Blk.at2 T.out (Below.refl _ _)
  go_wp2_with fail
  refine (great_any n m k cC cA cB PC PA PB w1).mono ?_
  rintro e w2 ⟨t, rfl, hb, ht⟩
  have HT := Lib.hid ht; clear ht c0 c1 c2
  replace HPg := Lib.hid (HPg.out.new hb)
  replace HB := Lib.hid (bthen HB.out hb HB.out.size)
  replace T := Lib.hid (T.out.keep hb)
  clear hb
  have c0 := Blk.at0 T.out (Below.refl _ _); have c1 := Blk.at1 T.out (Below.refl _ _); have c2 := Blk.at2 T.out (Below.refl _ _)
  by_cases htt : t = true
  · subst htt
    clear HT
    go_wp2_with fail
    refine (awake_any _).mono ?_
    rintro e w3 ⟨rfl, hb⟩
    go_wp2_with fail
    go_ret
    exact ⟨rfl, bthen HB.out hb HB.out.size⟩
  obtain rfl : t = false := by simpa using htt
  clear htt
  obtain ⟨hn5, hm5, hk6⟩ := HT.out.1 rfl
  clear HT
  by_cases hn : n = 2
  rotate_left
  · have h1 : ¬ ((n : Int) = 2) := by omega
    go_wp2_with fail
    refine (awake_any _).mono ?_
    rintro e w3 ⟨rfl, hb⟩
    go_wp2_with fail
    go_ret
    exact ⟨rfl, bthen HB.out hb HB.out.size⟩
  have h1 : (n : Int) = 2 := by omega
  have HN2 := Lib.hid hn; clear hn
  go_wp2_with fail
  refine (of_any n m k cC cA cB PC PA PB Pr ln cp NC NB DC DB NA DA w2 HPg.out (by omega) (by omega) (by omega) HLn.out A C B EC.out EB.out EA.out smq_small).mono ?_
  rintro e w3 ⟨YC, YA, YB, QC, QA, QB, Yr, Qr, yp, qp, yc, ya, yb, qc, qa, qb, rfl, hpr, hrq, hb⟩
  clear c0 c1 c2
  replace HPg := Lib.hid (HPg.out.new hb)
  replace HB := Lib.hid (bthen HB.out hb HB.out.size)
  replace T := Lib.hid (T.out.keep hb)
  clear hb
  have HP := Lib.hid hpr; have HQ := Lib.hid hrq; clear hpr hrq
  go_upto_region 4 with (fail)
  have hbw := bthen (al w3 (.cells #[.slice YC n yc, .slice YA m ya, .slice YB k yb] 31)) (al _ (.cells #[.slice QC n qc, .slice QA m qa, .slice QB k qb] 35)) (by simp)
  have HY := Lib.hid ((Blk.new w3 31 #[.slice YC n yc, .slice YA m ya, .slice YB k yb]).keep (al _ (.cells #[.slice QC n qc, .slice QA m qa, .slice QB k qb] 35)))
  have HR := Lib.hid (Blk.new (w3.alloc (.cells #[.slice YC n yc, .slice YA m ya, .slice YB k yb] 31)) 35 #[.slice QC n qc, .slice QA m qa, .slice QB k qb])
  rw [show (w3.alloc (.cells #[.slice YC n yc, .slice YA m ya, .slice YB k yb] 31)).heap.size = w3.heap.size + 1 from by simp] at HR
  replace HPg := Lib.hid (HPg.out.new hbw)
  replace HB := Lib.hid (bthen HB.out hbw HB.out.size)
  replace T := Lib.hid (T.out.keep hbw)
  replace HP := Lib.hid (HP.out.new hbw)
  replace HQ := Lib.hid (HQ.out.new hbw)
  clear hbw
  generalize (w3.alloc (.cells #[.slice YC n yc, .slice YA m ya, .slice YB k yb] 31)).alloc (.cells #[.slice QC n qc, .slice QA m qa, .slice QB k qb] 35) = w4 at *
  obtain ⟨g7, hg7⟩ : ∃ g7, g7 = w3.heap.size := ⟨_, rfl⟩
  obtain ⟨g8, hg8⟩ : ∃ g8, g8 = w3.heap.size + 1 := ⟨_, rfl⟩
  rw [← hg8] at HR ⊢
  rw [← hg7] at HY ⊢
  have HGg7 := Lib.hid (show w3.heap.size ≤ g7 ∧ w3.heap.size ≤ g8 from by omega)
  clear hg7 hg8
  have q0 := Blk.at0 HR.out (Below.refl _ _); have q1 := Blk.at1 HR.out (Below.refl _ _); have q2 := Blk.at2 HR.out (Below.refl _ _)
  go_wp2_with fail
  refine (rvalid_any n m k qc qa qb QC QA QB Qr ln qp A C B w4 HQ.out (by omega)).mono ?_
  rintro e w5 ⟨t, rfl, hb, ht⟩
  clear q0 q1 q2
  have HT := Lib.hid ht; clear ht
  replace HPg := Lib.hid (HPg.out.new hb)
  replace HB := Lib.hid (bthen HB.out hb HB.out.size)
  replace T := Lib.hid (T.out.keep hb)
  replace HP := Lib.hid (HP.out.new hb)
  replace HQ := Lib.hid (HQ.out.new hb)
  replace HY := Lib.hid (HY.out.keep hb)
  replace HR := Lib.hid (HR.out.keep hb)
  clear hb
  by_cases htt : t = false
  · subst htt
    go_wp2_with fail
    refine (awake_any _).mono ?_
    rintro e w6 ⟨rfl, hb⟩
    go_wp2_with fail
    go_ret
    exact ⟨rfl, bthen HB.out hb HB.out.size⟩
  obtain rfl : t = true := by simpa using htt
  clear htt
  obtain ⟨hmk, hl⟩ := HT.out.1 rfl
  clear HT
  subst hmk
  have HL := Lib.hid hl; clear hl
  obtain rfl : n = 2 := HN2.out
  have HP0 := Lib.hid (HP.out.flat HL.out); have HQ0 := Lib.hid (HQ.out.flat HL.out)
  have HF := Lib.hid (frac_smq (n := 2) (m := m) EC.out EB.out EA.out)
  clear EC EB EA HP HQ T HPg HL HLn HN2
  have y0 := Blk.at0 HY.out (Below.refl _ _); have y1 := Blk.at1 HY.out (Below.refl _ _); have y2 := Blk.at2 HY.out (Below.refl _ _)
  go_wp2_with fail
  refine (solve_rv 2 m 2 yc ya yb YC YA YB Yr (fun _ => 2) yp A C B w5 HP0.out (fun _ _ => rfl) (by omega) (by omega) (by omega) HF.out).mono ?_
  rintro e w6 ⟨AX, kX, cX, AY, kY, cY, AR, kR, cR, s, A0, k0, c0, B0, m0, d0, q, rfl, hs, hln, hX, hY, hR, hV, hb⟩
  replace HB := Lib.hid (bthen HB.out hb HB.out.size)
  replace HY := Lib.hid (HY.out.keep hb)
  replace HR := Lib.hid (HR.out.keep hb)
  replace HQ0 := Lib.hid (HQ0.out.new hb)
  clear hb
  have HS := Lib.hid hs; have HV := Lib.hid hV; clear hs hV hX hY hR hln y0 y1 y2
  go_upto_region 7 with (fail)
  have hbw := al w6 (.cells #[.int .i64 (q.out : Int), .slice AX kX cX, .slice AY kY cY, .slice AR kR cR, .bool s, .slice A0 k0 c0, .slice B0 m0 d0] 43)
  have HZ := Lib.hid (Blk.new w6 43 #[.int .i64 (q.out : Int), .slice AX kX cX, .slice AY kY cY, .slice AR kR cR, .bool s, .slice A0 k0 c0, .slice B0 m0 d0])
  replace HB := Lib.hid (bthen HB.out hbw HB.out.size)
  replace HY := Lib.hid (HY.out.keep hbw)
  replace HR := Lib.hid (HR.out.keep hbw)
  replace HQ0 := Lib.hid (HQ0.out.new hbw)
  replace HV := Lib.hid (HV.out.new hbw)
  clear hbw
  generalize w6.alloc (.cells #[.int .i64 (q.out : Int), .slice AX kX cX, .slice AY kY cY, .slice AR kR cR, .bool s, .slice A0 k0 c0, .slice B0 m0 d0] 43) = w7 at *
  obtain ⟨g9, hg9⟩ : ∃ g9, g9 = w6.heap.size := ⟨_, rfl⟩
  rw [← hg9] at HZ ⊢
  have HGg9 := Lib.hid (show w6.heap.size ≤ g9 from by omega)
  clear hg9
  have q0 := Blk.at0 HR.out (Below.refl _ _); have q1 := Blk.at1 HR.out (Below.refl _ _); have q2 := Blk.at2 HR.out (Below.refl _ _)
  go_wp2_with fail
  refine (rbest_any m qc qa qb QC QA QB Qr qp A C B w7 HQ0.out HfA.out HfB.out HfC.out (by omega)).mono ?_
  rintro e w8 ⟨v, has, rfl, hbr, hsm, hb⟩
  have HFl := Lib.hid (flat_law HS.out.cert hbr); have HSm := Lib.hid hsm; clear hbr hsm q0 q1 q2
  replace HB := Lib.hid (bthen HB.out hb HB.out.size)
  replace HY := Lib.hid (HY.out.keep hb)
  replace HR := Lib.hid (HR.out.keep hb)
  replace HQ0 := Lib.hid (HQ0.out.new hb)
  replace HV := Lib.hid (HV.out.new hb)
  replace HZ := Lib.hid (HZ.out.keep hb)
  clear hb
  unfold QL
  go_upto_region 8 with (fail)
  have hbw := al w8 (.cells #[.int .i64 v.num, .int .i64 (v.den : Int)] 58)
  have HX := Lib.hid (Blk.new w8 58 #[.int .i64 v.num, .int .i64 (v.den : Int)])
  replace HB := Lib.hid (bthen HB.out hbw HB.out.size)
  replace HY := Lib.hid (HY.out.keep hbw)
  replace HR := Lib.hid (HR.out.keep hbw)
  replace HQ0 := Lib.hid (HQ0.out.new hbw)
  replace HV := Lib.hid (HV.out.new hbw)
  replace HZ := Lib.hid (HZ.out.keep hbw)
  clear hbw
  generalize w8.alloc (.cells #[.int .i64 v.num, .int .i64 (v.den : Int)] 58) = w9 at *
  obtain ⟨g10, hg10⟩ : ∃ g10, g10 = w8.heap.size := ⟨_, rfl⟩
  rw [← hg10] at HX ⊢
  have HGg10 := Lib.hid (show w8.heap.size ≤ g10 from by omega)
  clear hg10
  replace HX := Lib.hid (show Qb v g10 w9 from HX.out)
  rcases HS.out.cert.outs with ho | ho | ho
  · skip
    have z0 : w9.cell? ⟨g9, 0, none⟩ = some (.int .i64 0) := by have hh := Blk.at0 HZ.out (Below.refl _ _); rw [ho] at hh; exact hh
    obtain rfl : has = true := HFl.out.1.2 (by omega)
    obtain rfl : v = q.v := HFl.out.2 ho
    have HRn := Lib.hid (rv_parts HV.out); have hr := HSm.out.rng
    have z5 : w9.cell? ⟨g9, 5, none⟩ = some (.slice A0 k0 c0) := Blk.at5 HZ.out (Below.refl _ _)
    have z6 : w9.cell? ⟨g9, 6, none⟩ = some (.slice B0 m0 d0) := Blk.at6 HZ.out (Below.refl _ _)
    go_wp2_with fail
    refine (u64_n HRn.out.2.1.1).mono ?_
    rintro e w10 ⟨hu1, -, rfl⟩
    obtain rfl := hu1 (by omega)
    clear hu1
    go_wp2_with fail
    refine (u64_n HRn.out.2.2.1).mono ?_
    rintro e w10 ⟨hu1, -, rfl⟩
    obtain rfl := hu1 (by omega)
    clear hu1
    have x0 := GB.c0 HX.out; have x1 := GB.c1 HX.out
    by_cases hn : q.v.num < 0
    · skip
      have e1 : IntKind.i64.wrap (-q.v.num) = -q.v.num := IntWalk.i64_in _ (by omega)
      go_upto_region 17 with (fail)
      clear z0 z5 z6 x0 x1
      refine wp_region_seq (kss := [[], [(0, 75)], [(1, 76)], [(1, 76), (2, 77)], [(3, 78)], [(4, 79)], [(4, 79)], [(4, 79), (6, 81)], [(4, 79), (5, 80), (7, 82)], [(4, 79), (8, 83)], [(9, 84)], [(10, 85)], [(10, 85)], [(10, 85), (12, 87)], [(10, 85), (13, 88)], [(10, 85), (11, 86), (14, 89)], [(10, 85), (15, 90)], [(16, 91)], [(17, 92)], [(17, 92), (18, 93)], [(17, 92), (19, 94)], [(17, 92)], [(17, 92), (21, 96)], [(17, 92), (22, 97)], [(17, 92), (20, 95), (23, 98)], [(17, 92), (24, 99)], [(25, 100)], [(26, 101)], [(26, 101), (27, 102)], [(28, 103)]]) [(10, .bool true), (12, .bool true), (9, .int .u64 (((q.v.num.natAbs : Nat) : Int))), (13, .int .i64 (-(q.v.num))), (11, .int .u64 (((q.v.den : Nat) : Int))), (7, .pointer (some ⟨g10, 0, none⟩)), (5, .pointer (some ⟨g9, 0, none⟩))] [EV (.bool true), EV (.bool true), EV (.bool true), EV (.bool true), EV (.bool true), EV (.int .u64 (((q.v.num.natAbs : Nat) : Int))), EV (.int .i64 (-(q.v.num))), EV (.int .u64 (-(q.v.num))), EV (.bool true), EV (.bool true), EV (.bool true), EV (.int .u64 (((q.v.den : Nat) : Int))), EV (.pointer (some ⟨g10, 1, none⟩)), EV (.int .i64 ((((q.v).den : Nat) : Int))), EV (.int .u64 ((((q.v).den : Nat) : Int))), EV (.bool true), EV (.bool true), EV (.bool true), EV (.pointer (some ⟨g9, 4, none⟩)), EV (.pointer (some ⟨g9, 4, none⟩)), EV (.bool s), EV (.pointer (some ⟨g10, 0, none⟩)), EV (.int .i64 ((q.v).num)), EV (.bool (decide (((q.v).num) < 0))), EV (.bool true), EV (.bool true), EV (.bool true), EV (.bool true), EV (.bool true), EV (.bool true)] (by kernel_rfl) ⟨rfl, rfl, rfl, rfl, rfl, rfl, rfl, trivial⟩ ?_ ?_ ?_
      · exact ⟨eI, eI, eI, eI, eI, eI, eI, eI, eI, eI, eI, eI, eI, eI, eI, eI, eI, eI, eI, eI, eI, eI, eI, eI, eI, eI, eI, eI, eI, eI, trivial⟩
      · refine ⟨?_, ?_, ?_, ?_, ?_, ?_, ?_, ?_, ?_, ?_, ?_, ?_, ?_, ?_, ?_, ?_, ?_, ?_, ?_, ?_, ?_, ?_, ?_, ?_, ?_, ?_, ?_, ?_, ?_, ?_, trivial⟩
        · exact fun _ _ _ he hd => ob_mv rfl rfl he.1
        · exact fun _ _ _ he hd => ob_mv rfl rfl hd.1
        · exact fun aa ww hb he hd => ob_on 76 rfl (by kernel_rfl) hd.1 (gives_move _ rfl ⟨he.2.1, Below.refl _ _⟩)
        · exact fun aa ww hb he hd => ob_plain rfl (gives_pick true _ _ _ rfl hd.1 ⟨hd.2.1, Below.refl _ _⟩)
        · exact fun _ _ _ he hd => ob_mv rfl rfl hd.1
        · exact fun aa ww hb he hd => ob_on 79 rfl (by kernel_rfl) hd.1 (gives_move _ rfl ⟨he.2.2.1, Below.refl _ _⟩)
        · exact fun aa ww hb he hd => ob_on 79 rfl (by kernel_rfl) hd.1 (gives_move _ rfl ⟨he.2.2.2.1, Below.refl _ _⟩)
        · exact fun aa ww hb he hd => ob_on 79 rfl (by kernel_rfl) hd.1 (gives_conv64 (by omega) rfl hd.2.1)
        · exact fun aa ww hb he hd => ob_on 79 rfl (by kernel_rfl) hd.1 (gives_eq_int (((q.v.num.natAbs : Nat) : Int)) (-(q.v.num)) .u64 _ _ _ _ rfl hd.2.1 hd.2.2.1 ⟨congrArg Value.bool (by simp; omega), Below.refl _ _⟩)
        · exact fun aa ww hb he hd => ob_plain rfl (gives_pick true _ _ _ rfl hd.1 ⟨hd.2.1, Below.refl _ _⟩)
        · exact fun _ _ _ he hd => ob_mv rfl rfl hd.1
        · exact fun aa ww hb he hd => ob_on 85 rfl (by kernel_rfl) hd.1 (gives_move _ rfl ⟨he.2.2.2.2.1, Below.refl _ _⟩)
        · exact fun aa ww hb he hd => ob_on 85 rfl (by kernel_rfl) hd.1 (fld_qb rfl (by decide) he.2.2.2.2.2.1)
        · exact fun aa ww hb he hd => ob_on 85 rfl (by kernel_rfl) hd.1 (load_c2 rfl hd.2.1 (GB.c1 (Qb.new HX.out hb)))
        · exact fun aa ww hb he hd => ob_on 85 rfl (by kernel_rfl) hd.1 (gives_conv64 (by omega) rfl hd.2.1)
        · exact fun aa ww hb he hd => ob_on 85 rfl (by kernel_rfl) hd.1 (gives_eq_int (((q.v.den : Nat) : Int)) ((((q.v).den : Nat) : Int)) .u64 _ _ _ _ rfl hd.2.1 hd.2.2.1 ⟨congrArg Value.bool (by simp), Below.refl _ _⟩)
        · exact fun aa ww hb he hd => ob_plain rfl (gives_pick true _ _ _ rfl hd.1 ⟨hd.2.1, Below.refl _ _⟩)
        · exact fun _ _ _ he hd => ob_mv rfl rfl hd.1
        · exact fun aa ww hb he hd => ob_on 92 rfl (by kernel_rfl) hd.1 (fld_sol rfl (by decide) he.2.2.2.2.2.2.1)
        · exact fun aa ww hb he hd => ob_on 92 rfl (by kernel_rfl) hd.1 (fld_rat4 (k := 0) rfl (by decide) hd.2.1)
        · exact fun aa ww hb he hd => ob_on 92 rfl (by kernel_rfl) hd.1 (load_c4 rfl hd.2.1 (Blk.at4 HZ.out hb))
        · exact fun aa ww hb he hd => ob_on 92 rfl (by kernel_rfl) hd.1 (fld_qb rfl (by decide) he.2.2.2.2.2.1)
        · exact fun aa ww hb he hd => ob_on 92 rfl (by kernel_rfl) hd.1 (load_c2 rfl hd.2.1 (GB.c0 (Qb.new HX.out hb)))
        · exact fun aa ww hb he hd => ob_on 92 rfl (by kernel_rfl) hd.1 (gives_lt_int ((q.v).num) 0 .i64 _ _ _ _ rfl hd.2.1 rfl ⟨rfl, Below.refl _ _⟩)
        · exact fun aa ww hb he hd => ob_on 92 rfl (by kernel_rfl) hd.1 (gives_eq_bool s (decide (((q.v).num) < 0)) _ _ _ _ rfl Try.underlying4 hd.2.1 hd.2.2.1 ⟨congrArg Value.bool (by rw [HRn.out.1]; simp), Below.refl _ _⟩)
        · exact fun aa ww hb he hd => ob_plain rfl (gives_pick true _ _ _ rfl hd.1 ⟨hd.2.1, Below.refl _ _⟩)
        · exact fun _ _ _ he hd => ob_mv rfl rfl hd.1
        · exact fun aa ww hb he hd => ob_on 101 rfl (by kernel_rfl) hd.1 (gives_call0 _ _ rfl (by kernel_rfl) (rv_one (awake_any _)))
        · exact fun aa ww hb he hd => ob_plain rfl (gives_pick true _ _ _ rfl hd.1 ⟨hd.2.1, Below.refl _ _⟩)
        · exact fun aa ww hb he hd => ob_plain rfl (gives_assign _ rfl ⟨hd.1, Below.refl _ _⟩)
      intro vs w11 hb hR
      have e2 : vs 29 = .bool true := hR 29 (by decide)
      clear hR
      simp only [putsL, Nat.zero_add, Nat.reduceAdd, List.take_succ_cons, List.take_zero, Act.put, List.setIfInBounds_toArray, List.set_cons_zero, List.set_cons_succ]
      rw [e2]
      clear e2
      go_wp2_with fail
      go_ret
      exact ⟨rfl, bthen HB.out hb HB.out.size⟩
    · skip
      go_upto_region 17 with (fail)
      clear z0 z5 z6 x0 x1
      refine wp_region_seq (kss := [[], [(0, 75)], [(1, 76)], [(1, 76), (2, 77)], [(3, 78)], [(4, 79)], [(4, 79)], [(4, 79), (6, 81)], [(4, 79), (5, 80), (7, 82)], [(4, 79), (8, 83)], [(9, 84)], [(10, 85)], [(10, 85)], [(10, 85), (12, 87)], [(10, 85), (13, 88)], [(10, 85), (11, 86), (14, 89)], [(10, 85), (15, 90)], [(16, 91)], [(17, 92)], [(17, 92), (18, 93)], [(17, 92), (19, 94)], [(17, 92)], [(17, 92), (21, 96)], [(17, 92), (22, 97)], [(17, 92), (20, 95), (23, 98)], [(17, 92), (24, 99)], [(25, 100)], [(26, 101)], [(26, 101), (27, 102)], [(28, 103)]]) [(10, .bool true), (12, .bool true), (9, .int .u64 (((q.v.num.natAbs : Nat) : Int))), (13, .int .i64 (q.v.num)), (11, .int .u64 (((q.v.den : Nat) : Int))), (7, .pointer (some ⟨g10, 0, none⟩)), (5, .pointer (some ⟨g9, 0, none⟩))] [EV (.bool true), EV (.bool true), EV (.bool true), EV (.bool true), EV (.bool true), EV (.int .u64 (((q.v.num.natAbs : Nat) : Int))), EV (.int .i64 (q.v.num)), EV (.int .u64 (q.v.num)), EV (.bool true), EV (.bool true), EV (.bool true), EV (.int .u64 (((q.v.den : Nat) : Int))), EV (.pointer (some ⟨g10, 1, none⟩)), EV (.int .i64 ((((q.v).den : Nat) : Int))), EV (.int .u64 ((((q.v).den : Nat) : Int))), EV (.bool true), EV (.bool true), EV (.bool true), EV (.pointer (some ⟨g9, 4, none⟩)), EV (.pointer (some ⟨g9, 4, none⟩)), EV (.bool s), EV (.pointer (some ⟨g10, 0, none⟩)), EV (.int .i64 ((q.v).num)), EV (.bool (decide (((q.v).num) < 0))), EV (.bool true), EV (.bool true), EV (.bool true), EV (.bool true), EV (.bool true), EV (.bool true)] (by kernel_rfl) ⟨rfl, rfl, rfl, rfl, rfl, rfl, rfl, trivial⟩ ?_ ?_ ?_
      · exact ⟨eI, eI, eI, eI, eI, eI, eI, eI, eI, eI, eI, eI, eI, eI, eI, eI, eI, eI, eI, eI, eI, eI, eI, eI, eI, eI, eI, eI, eI, eI, trivial⟩
      · refine ⟨?_, ?_, ?_, ?_, ?_, ?_, ?_, ?_, ?_, ?_, ?_, ?_, ?_, ?_, ?_, ?_, ?_, ?_, ?_, ?_, ?_, ?_, ?_, ?_, ?_, ?_, ?_, ?_, ?_, ?_, trivial⟩
        · exact fun _ _ _ he hd => ob_mv rfl rfl he.1
        · exact fun _ _ _ he hd => ob_mv rfl rfl hd.1
        · exact fun aa ww hb he hd => ob_on 76 rfl (by kernel_rfl) hd.1 (gives_move _ rfl ⟨he.2.1, Below.refl _ _⟩)
        · exact fun aa ww hb he hd => ob_plain rfl (gives_pick true _ _ _ rfl hd.1 ⟨hd.2.1, Below.refl _ _⟩)
        · exact fun _ _ _ he hd => ob_mv rfl rfl hd.1
        · exact fun aa ww hb he hd => ob_on 79 rfl (by kernel_rfl) hd.1 (gives_move _ rfl ⟨he.2.2.1, Below.refl _ _⟩)
        · exact fun aa ww hb he hd => ob_on 79 rfl (by kernel_rfl) hd.1 (gives_move _ rfl ⟨he.2.2.2.1, Below.refl _ _⟩)
        · exact fun aa ww hb he hd => ob_on 79 rfl (by kernel_rfl) hd.1 (gives_conv64 (by omega) rfl hd.2.1)
        · exact fun aa ww hb he hd => ob_on 79 rfl (by kernel_rfl) hd.1 (gives_eq_int (((q.v.num.natAbs : Nat) : Int)) (q.v.num) .u64 _ _ _ _ rfl hd.2.1 hd.2.2.1 ⟨congrArg Value.bool (by simp; omega), Below.refl _ _⟩)
        · exact fun aa ww hb he hd => ob_plain rfl (gives_pick true _ _ _ rfl hd.1 ⟨hd.2.1, Below.refl _ _⟩)
        · exact fun _ _ _ he hd => ob_mv rfl rfl hd.1
        · exact fun aa ww hb he hd => ob_on 85 rfl (by kernel_rfl) hd.1 (gives_move _ rfl ⟨he.2.2.2.2.1, Below.refl _ _⟩)
        · exact fun aa ww hb he hd => ob_on 85 rfl (by kernel_rfl) hd.1 (fld_qb rfl (by decide) he.2.2.2.2.2.1)
        · exact fun aa ww hb he hd => ob_on 85 rfl (by kernel_rfl) hd.1 (load_c2 rfl hd.2.1 (GB.c1 (Qb.new HX.out hb)))
        · exact fun aa ww hb he hd => ob_on 85 rfl (by kernel_rfl) hd.1 (gives_conv64 (by omega) rfl hd.2.1)
        · exact fun aa ww hb he hd => ob_on 85 rfl (by kernel_rfl) hd.1 (gives_eq_int (((q.v.den : Nat) : Int)) ((((q.v).den : Nat) : Int)) .u64 _ _ _ _ rfl hd.2.1 hd.2.2.1 ⟨congrArg Value.bool (by simp), Below.refl _ _⟩)
        · exact fun aa ww hb he hd => ob_plain rfl (gives_pick true _ _ _ rfl hd.1 ⟨hd.2.1, Below.refl _ _⟩)
        · exact fun _ _ _ he hd => ob_mv rfl rfl hd.1
        · exact fun aa ww hb he hd => ob_on 92 rfl (by kernel_rfl) hd.1 (fld_sol rfl (by decide) he.2.2.2.2.2.2.1)
        · exact fun aa ww hb he hd => ob_on 92 rfl (by kernel_rfl) hd.1 (fld_rat4 (k := 0) rfl (by decide) hd.2.1)
        · exact fun aa ww hb he hd => ob_on 92 rfl (by kernel_rfl) hd.1 (load_c4 rfl hd.2.1 (Blk.at4 HZ.out hb))
        · exact fun aa ww hb he hd => ob_on 92 rfl (by kernel_rfl) hd.1 (fld_qb rfl (by decide) he.2.2.2.2.2.1)
        · exact fun aa ww hb he hd => ob_on 92 rfl (by kernel_rfl) hd.1 (load_c2 rfl hd.2.1 (GB.c0 (Qb.new HX.out hb)))
        · exact fun aa ww hb he hd => ob_on 92 rfl (by kernel_rfl) hd.1 (gives_lt_int ((q.v).num) 0 .i64 _ _ _ _ rfl hd.2.1 rfl ⟨rfl, Below.refl _ _⟩)
        · exact fun aa ww hb he hd => ob_on 92 rfl (by kernel_rfl) hd.1 (gives_eq_bool s (decide (((q.v).num) < 0)) _ _ _ _ rfl Try.underlying4 hd.2.1 hd.2.2.1 ⟨congrArg Value.bool (by rw [HRn.out.1]; simp), Below.refl _ _⟩)
        · exact fun aa ww hb he hd => ob_plain rfl (gives_pick true _ _ _ rfl hd.1 ⟨hd.2.1, Below.refl _ _⟩)
        · exact fun _ _ _ he hd => ob_mv rfl rfl hd.1
        · exact fun aa ww hb he hd => ob_on 101 rfl (by kernel_rfl) hd.1 (gives_call0 _ _ rfl (by kernel_rfl) (rv_one (awake_any _)))
        · exact fun aa ww hb he hd => ob_plain rfl (gives_pick true _ _ _ rfl hd.1 ⟨hd.2.1, Below.refl _ _⟩)
        · exact fun aa ww hb he hd => ob_plain rfl (gives_assign _ rfl ⟨hd.1, Below.refl _ _⟩)
      intro vs w11 hb hR
      have e2 : vs 29 = .bool true := hR 29 (by decide)
      clear hR
      simp only [putsL, Nat.zero_add, Nat.reduceAdd, List.take_succ_cons, List.take_zero, Act.put, List.setIfInBounds_toArray, List.set_cons_zero, List.set_cons_succ]
      rw [e2]
      clear e2
      go_wp2_with fail
      go_ret
      exact ⟨rfl, bthen HB.out hb HB.out.size⟩
  · skip
    have z0 : w9.cell? ⟨g9, 0, none⟩ = some (.int .i64 1) := by have hh := Blk.at0 HZ.out (Below.refl _ _); rw [ho] at hh; exact hh
    obtain rfl : has = false := by cases has with | false => rfl | true => exact absurd ho (HFl.out.1.1 rfl)
    go_wp2_with fail
    refine (awake_any _).mono ?_
    rintro e w10 ⟨rfl, hb⟩
    go_wp2_with fail
    go_ret
    exact ⟨rfl, bthen HB.out hb HB.out.size⟩
  · skip
    have z0 : w9.cell? ⟨g9, 0, none⟩ = some (.int .i64 2) := by have hh := Blk.at0 HZ.out (Below.refl _ _); rw [ho] at hh; exact hh
    obtain rfl : has = true := HFl.out.1.2 (by omega)
    go_wp2_with fail
    refine (awake_any _).mono ?_
    rintro e w10 ⟨rfl, hb⟩
    go_wp2_with fail
    go_ret
    exact ⟨rfl, bthen HB.out hb HB.out.size⟩
end Go.Proofs.Ytamcibmjpmibdaa
