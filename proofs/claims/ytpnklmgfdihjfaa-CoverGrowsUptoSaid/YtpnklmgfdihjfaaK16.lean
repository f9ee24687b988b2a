/-
law29.awake. Printed by gen/scv.py.
The walk of CoverSubsets. Printed by gen/scv.py.
Contract of cover.Check. Printed by gen/scv.py.
The walk of CoverFinds. Printed by gen/scv.py.
Contract of law29.made. Printed by gen/scv.py.
The reference of Cover: Has, Sum, Covers, Packs. Printed by gen/scv.py.
The walk of CoverChecks. Printed by gen/scv.py.
Contracts of reference functions and of slices.Equal.
Contracts of law26.Few and slices.Clone.
The reduction of a hypergraph, plainly: which step comes next, and runs of steps.
Contracts of hypergraph.absorb and hypergraph.isolate.
Contract of hypergraph.Reduce.
Contract of hypergraph.Acyclic.
Contract of hypergraph.Inside.
The walk of CoverLeast. Printed by gen/scv.py.
The walk of CoverGrows. Printed by gen/scv.py.
-/
import Derived.Test.YtpnklmgfdihjfaaK15
import Derived.Test.YtpnklmgfdihjfaaK13
import Derived.Test.YtpnklmgfdihjfaaK14
import Derived.Test.YtpnklmgfdihjfaaK6
import Derived.Test.YtpnklmgfdihjfaaK1
import Derived.Deep.LoopGhost
namespace Go.Proofs.Ytpnklmgfdihjfaa
open Go.RowKit
set_option linter.unusedVariables false
set_option linter.unusedSimpArgs false

/-- The weights of the triangle. -/
def TriW (W : Nat → Rat) : Prop := W 0 = 1 / 2 ∧ W 1 = 1 / 2 ∧ W 2 = 1 / 2
theorem half_den : ((1 : Rat) / 2).den = 2 := by decide +kernel
theorem half_exp : expW (1 / 2) 2 = 1 := by decide +kernel
theorem TriW.d {W : Nat → Rat} (h : TriW W) : dlcm W 3 = 2 := by
  show Nat.lcm (Nat.lcm (Nat.lcm 1 (W 0).den) (W 1).den) (W 2).den = 2
  rw [h.1, h.2.1, h.2.2, half_den]; rfl
theorem TriW.p {W : Nat → Rat} (h : TriW W) (x y z : Int) : prodP [x, y, z] W 2 3 = x.toNat * y.toNat * z.toNat := by
  show 1 * x.toNat ^ expW (W 0) 2 * y.toNat ^ expW (W 1) 2 * z.toNat ^ expW (W 2) 2 = _
  rw [h.1, h.2.1, h.2.2, half_exp, Nat.pow_one, Nat.pow_one, Nat.pow_one, Nat.one_mul]
theorem TriW.ok {W : Nat → Rat} (h : TriW W) {x y z : Int} (hx : 0 ≤ x) (hy : 0 ≤ y) (hz : 0 ≤ z) : ∀ j, j < 3 → 0 ≤ inth [x, y, z] j ∧ 0 ≤ W j
  | 0, _ => ⟨hx, by rw [h.1]; decide +kernel⟩
  | 1, _ => ⟨hy, by rw [h.2.1]; decide +kernel⟩
  | 2, _ => ⟨hz, by rw [h.2.2]; decide +kernel⟩
  | n + 3, hj => absurd hj (by omega)
theorem small60 {n : Nat} (h : n ≤ 1000) : n ^ 1 < PB 60 := by
  rw [Nat.pow_one]
  exact Nat.lt_of_lt_of_le (show n < PB 1 by rw [PB]; omega) (PB_mono (by omega))
theorem TriW.bd {W : Nat → Rat} (h : TriW W) {x y z : Int} (hx : x ≤ 1000) (hy : y ≤ 1000) (hz : z ≤ 1000) : BdP 3 W [x, y, z] := by
  refine ⟨by rw [h.d]; decide, ?_⟩
  rw [h.d]
  intro i hi
  match i, hi with
  | 0, _ => exact ⟨show x ≤ 1000000 by omega, by rw [h.1, half_exp]; decide, by rw [h.1, half_exp]; exact small60 (show x.toNat ≤ 1000 by omega)⟩
  | 1, _ => exact ⟨show y ≤ 1000000 by omega, by rw [h.2.1, half_exp]; decide, by rw [h.2.1, half_exp]; exact small60 (show y.toNat ≤ 1000 by omega)⟩
  | 2, _ => exact ⟨show z ≤ 1000000 by omega, by rw [h.2.2, half_exp]; decide, by rw [h.2.2, half_exp]; exact small60 (show z.toNat ≤ 1000 by omega)⟩
  | n + 3, hj => exact absurd hj (by omega)
theorem bnd_tri {W : Nat → Rat} {v : Value} {w : World} (h : BndR 3 3 [2, 3, 4] W v w) (ht : TriW W) : PwV 600 4 v w := by
  rcases h with ⟨z, hz, hs, -⟩ | ⟨-, -, A, k, c, r, h1, h2, h3⟩
  · exact absurd (hs.2.2 rfl (ht.ok (by decide) (by decide) (by decide))) hz
  · rw [ht.d, ht.p] at h3
    obtain rfl := IsRoot.unique h3 (show IsRoot _ 2 4 by unfold IsRoot; decide) (by decide)
    exact ⟨A, k, c, h1, h2⟩
theorem win_tri {N : Nat} {W : Nat → Rat} {v : Value} (h : WinR N 3 3 [4, 4, 4] W v) (ht : TriW W) : v = .tuple #[.bool (decide (N ^ 2 ≤ 64)), .int .i64 0] := by
  rcases h with ⟨z, hz, hs, -⟩ | ⟨-, -, h1⟩
  · exact absurd (hs.2.2 rfl (ht.ok (by decide) (by decide) (by decide))) hz
  · rw [ht.d, ht.p] at h1
    exact h1
theorem CovOK.es {n m s : Nat} {es es' : Nat → Nat} {W P : Nat → Rat} {v : Rat} (h : CovOK n m es s W P v) (he : ∀ i, i < m → es i = es' i) : CovOK n m es' s W P v :=
  ⟨h.w0, h.p0, h.pz, fun x hx hb => by rw [← sm_congr (f := fun i => if (es i).testBit x then W i else 0) (fun i hi => by rw [he i hi])]; exact h.cov x hx hb, fun i hi => by have := h.pac i hi; rw [he i hi] at this; exact this, h.ws, h.ps⟩
theorem tri_es : ∀ i, i < 3 → nth [3, 6, 5] i = triE i
  | 0, _ => rfl
  | 1, _ => rfl
  | 2, _ => rfl
  | n + 3, h => absurd h (by omega)
theorem cmp_nv {w : World} {a b N M : Nat} {u v : Value} (h : Nv a N u w) (h' : Nv b M v w) : Calls Try.prog 18 #[u, v] w (RV w (fun z _ => z = .int .i64 (cmpN N M))) := by
  obtain ⟨A, k, c, rfl, h⟩ := h
  obtain ⟨B, m, d, rfl, h'⟩ := h'
  refine (cmp_n h h').mono ?_
  rintro e w2 ⟨rfl, hb⟩
  exact ⟨_, rfl, rfl, hb⟩
theorem gives_bs_i3 {o : Oper} {a : Act} {w : World} {x y z : Int} (ho : o.op = .buildSlice 45 3 #[(0, .const (.int .i64 x)), (1, .const (.int .i64 y)), (2, .const (.int .i64 z))]) : gives Try.prog o a.eval w (fun v w' => (∃ g : Nat, v = .slice (some ⟨g, 0, none⟩) 3 3 ∧ Blk w' g 3 #[.int .i64 x, .int .i64 y, .int .i64 z]) ∧ Below w.heap.size w w') := by
  have hr : (execOp a.eval o).run Try.prog w = .ok (.value (.slice (some ⟨w.heap.size, 0, none⟩) 3 3)) (w.alloc (.cells #[.int .i64 x, .int .i64 y, .int .i64 z] 3)) := by
    unfold execOp
    rw [ho]
    go_simp
  unfold gives
  rw [hr]
  exact ⟨⟨_, rfl, Blk.new _ _ _⟩, al _ _⟩
theorem xs3 {w : World} {g : Nat} {x y z : Int} (h : Blk w g 3 #[.int .i64 x, .int .i64 y, .int .i64 z]) (hx : -1000 ≤ x ∧ x ≤ 1000) (hy : -1000 ≤ y ∧ y ≤ 1000) (hz : -1000 ≤ z ∧ z ≤ 1000) : Xs w w.heap.size (some ⟨g, 0, none⟩) 3 [x, y, z] :=
  Xs.of_blk (l := [x, y, z]) h (by simp) (by
    intro u hu
    simp only [List.mem_cons, List.not_mem_nil, or_false] at hu
    rcases hu with rfl | rfl | rfl <;> omega)
set_option maxRecDepth 100000 in
set_option maxHeartbeats 8000000 in
theorem awake29_any (w : World) : Calls Try.prog 10 #[] w fun e w' => e = .returned (.bool true) ∧ Below w.heap.size w w' := by
  go_enter Try.func10, Try.ntmps10
  go_upto_region 2 with (fail)
  have hbw := bthen (al w (.cells #[.int .u32 3, .int .u32 6, .int .u32 5] 25)) (al _ (.cells #[.int .i64 3, .slice (some ⟨w.heap.size, 0, none⟩) 3 3] 24)) (by simp)
  have HE3 := Lib.hid ((Blk.new w 25 #[.int .u32 3, .int .u32 6, .int .u32 5]).keep (al _ (.cells #[.int .i64 3, .slice (some ⟨w.heap.size, 0, none⟩) 3 3] 24)))
  have HG := Lib.hid (Blk.new (w.alloc (.cells #[.int .u32 3, .int .u32 6, .int .u32 5] 25)) 24 #[.int .i64 3, .slice (some ⟨w.heap.size, 0, none⟩) 3 3])
  rw [show (w.alloc (.cells #[.int .u32 3, .int .u32 6, .int .u32 5] 25)).heap.size = w.heap.size + 1 from by simp] at HG
  have HB := Lib.hid hbw
  clear hbw
  generalize (w.alloc (.cells #[.int .u32 3, .int .u32 6, .int .u32 5] 25)).alloc (.cells #[.int .i64 3, .slice (some ⟨w.heap.size, 0, none⟩) 3 3] 24) = w1 at *
  obtain ⟨g9, hg9⟩ : ∃ g9, g9 = w.heap.size := ⟨_, rfl⟩
  obtain ⟨g1, hg1⟩ : ∃ g1, g1 = w.heap.size + 1 := ⟨_, rfl⟩
  rw [← hg1] at HG ⊢
  rw [← hg9] at HE3 HG ⊢
  have HGg9 := Lib.hid (show w.heap.size ≤ g9 ∧ w.heap.size ≤ g1 from by omega)
  clear hg9 hg1
  have x0 := Blk.at0 HG.out (Below.refl _ _); have x1 := Blk.at1 HG.out (Below.refl _ _)
  go_wp2_with fail
  refine (cvof_any 3 7 3 3 (some ⟨g9, 0, none⟩) [3, 6, 5] w1 (Es.of_blk (l := [3, 6, 5]) HE3.out (by decide) (by decide)) (by omega) (fun _ => ⟨by omega, by omega⟩)).mono ?_
  rintro e w2 ⟨v, rfl, hv, hb⟩
  obtain ⟨u, rfl, W, P, x, hok, AW, cw, AP, cp, s0, A0, k0, c0, B0, m0, d0, rfl, hW, -, hV⟩ := hv.2.2.2 (by decide) (by decide) (by decide)
  clear hv x0 x1
  have htri := tri_cov (hok.es tri_es)
  obtain ⟨rfl, ht0⟩ := htri
  have HT := Lib.hid (show TriW W from ht0); clear ht0 hok
  have HW := Lib.hid hW; have HV := Lib.hid hV; clear hW hV
  clear HE3 HG
  replace HB := Lib.hid (bthen HB.out hb HB.out.size)
  clear hb
  go_upto_region 3 with (fail)
  have hbw := al w2 (.cells #[.slice AW 3 cw, .slice AP 3 cp, .bool s0, .slice A0 k0 c0, .slice B0 m0 d0] 33)
  have HC := Lib.hid (Blk.new w2 33 #[.slice AW 3 cw, .slice AP 3 cp, .bool s0, .slice A0 k0 c0, .slice B0 m0 d0])
  replace HB := Lib.hid (bthen HB.out hbw HB.out.size)
  replace HW := Lib.hid (Rs.newW HW.out hbw)
  replace HV := Lib.hid (HV.out.new hbw)
  clear hbw
  generalize w2.alloc (.cells #[.slice AW 3 cw, .slice AP 3 cp, .bool s0, .slice A0 k0 c0, .slice B0 m0 d0] 33) = w3 at *
  obtain ⟨g2, hg2⟩ : ∃ g2, g2 = w2.heap.size := ⟨_, rfl⟩
  rw [← hg2] at HC ⊢
  have HGg2 := Lib.hid (show w2.heap.size ≤ g2 from by omega)
  clear hg2
  refine wp_region_seq (kss := [[], [], [(0, 18), (1, 19)], [(2, 20)], [(3, 17)], [(3, 17)], [(4, 21)], [(5, 22)]]) [(2, .pointer (some ⟨g2, 0, none⟩))] [EV (.agg #[.slice AW 3 cw, .slice AP 3 cp, .bool s0, .slice A0 k0 c0, .slice B0 m0 d0]), fun zz w' => ∃ g : Nat, zz = .slice (some ⟨g, 0, none⟩) 3 3 ∧ Blk w' g 3 #[.int .i64 2, .int .i64 3, .int .i64 4], PwV (600) (4), PwV (600) (4), Nv (600) (4), EV (.int .i64 0), Nv (600) (4), EV (.int .i64 0)] (by kernel_rfl) ⟨rfl, trivial⟩ ?_ ?_ ?_
  · exact ⟨eI, fun _ _ _ ⟨g, h1, h2⟩ hb => ⟨g, h1, h2.keep hb⟩, fun _ _ _ h hb => PwV.new h hb, fun _ _ _ h hb => PwV.new h hb, fun _ _ _ h hb => Nv.new h hb, eI, fun _ _ _ h hb => Nv.new h hb, eI, trivial⟩
  · refine ⟨?_, ?_, ?_, ?_, ?_, ?_, ?_, ?_, trivial⟩
    · exact fun aa ww hb he hd => ob_plain rfl (load_cov rfl he.1 (Blk.keep HC.out hb))
    · exact fun aa ww hb he hd => ob_plain rfl (gives_bs_i3 rfl)
    · exact fun aa ww hb he hd => ob_plain rfl (by obtain ⟨g8, e8, h8⟩ := hd.2.1; exact gives_call2 _ _ _ _ rfl (by kernel_rfl) (by rw [show aa.eval (.tmp 18) = _ from hd.1, show aa.eval (.tmp 19) = _ from e8]; exact (cvbound_any 3 3 3 cw cp 3 60 AW AP (some ⟨g8, 0, none⟩) s0 A0 B0 k0 c0 m0 d0 W [2, 3, 4] _ (Rs.newW HW.out hb) (xs3 h8 (by omega) (by omega) (by omega)) (by omega) (by omega) (by omega) (fun _ _ => HT.out.bd (by omega) (by omega) (by omega))).mono (fun _ _ ⟨v, h1, h2, h3⟩ => ⟨v, h1, bnd_tri h2 HT.out, h3⟩)))
    · exact fun _ _ _ he hd => ob_mv rfl rfl hd.1
    · exact fun aa ww hb he hd => ob_plain rfl (ext_pw rfl hd.1)
    · exact fun aa ww hb he hd => ob_plain rfl (ext_pw1 rfl hd.1)
    · exact fun aa ww hb he hd => ob_plain rfl (gives_assign _ rfl ⟨hd.1, Below.refl _ _⟩)
    · exact fun aa ww hb he hd => ob_plain rfl (gives_assign _ rfl ⟨hd.1, Below.refl _ _⟩)
  intro vs w4 hb hR
  have r4 : Nv (600) (4) (vs 6) w4 := hR 6 (by decide)
  have e5 : vs 7 = .int .i64 0 := hR 7 (by decide)
  clear hR
  simp only [putsL, Nat.zero_add, Nat.reduceAdd, List.take_succ_cons, List.take_zero, Act.put, List.setIfInBounds_toArray, List.set_cons_zero, List.set_cons_succ]
  rw [e5]
  clear e5
  obtain ⟨A14, k4, c4, e4, h4⟩ := r4
  rw [e4]
  clear e4
  have HN4 := Lib.hid h4; clear h4
  replace HB := Lib.hid (bthen HB.out hb HB.out.size)
  replace HW := Lib.hid (Rs.newW HW.out hb)
  replace HV := Lib.hid (HV.out.new hb)
  replace HC := Lib.hid (HC.out.keep hb)
  clear hb
  go_upto_region 4 with (fail)
  refine wp_region_each (kss := [[], [], [], [(0, 24), (1, 25), (2, 26)], [(3, 27)], [(4, 23)], [(4, 23)], [(5, 28)], [(6, 29)]]) [(2, .pointer (some ⟨g2, 0, none⟩))] [Nv (2) (8), EV (.agg #[.slice AW 3 cw, .slice AP 3 cp, .bool s0, .slice A0 k0 c0, .slice B0 m0 d0]), fun zz w' => ∃ g : Nat, zz = .slice (some ⟨g, 0, none⟩) 3 3 ∧ Blk w' g 3 #[.int .i64 4, .int .i64 4, .int .i64 4], EV (.tuple #[.bool true, .int .i64 0]), EV (.tuple #[.bool true, .int .i64 0]), EV (.bool true), EV (.int .i64 0), EV (.bool true), EV (.int .i64 0)] (by kernel_rfl) (by kernel_rfl) ⟨rfl, trivial⟩ ?_ ?_ ?_
  · exact ⟨fun _ _ _ h hb => Nv.new h hb, eI, fun _ _ _ ⟨g, h1, h2⟩ hb => ⟨g, h1, h2.keep hb⟩, eI, eI, eI, eI, eI, eI, trivial⟩
  · refine ⟨?_, ?_, ?_, ?_, ?_, ?_, ?_, ?_, ?_, trivial⟩
    · exact fun aa ww hb he hd => ob_plain rfl (gives_call1 _ _ _ rfl (by kernel_rfl) (nof_v (8) (by omega) _ rfl _))
    · exact fun aa ww hb he hd => ob_plain rfl (load_cov rfl he.1 (Blk.keep HC.out hb))
    · exact fun aa ww hb he hd => ob_plain rfl (gives_bs_i3 rfl)
    · exact fun aa ww hb he hd => ob_plain rfl (by obtain ⟨A7, k7, c7, e7, h7⟩ := hd.1; obtain ⟨g8, e8, h8⟩ := hd.2.2.1; exact gives_call3 _ _ _ _ _ rfl (by kernel_rfl) (by rw [show aa.eval (.tmp 24) = _ from e7, show aa.eval (.tmp 25) = _ from hd.2.1, show aa.eval (.tmp 26) = _ from e8]; exact (cvwithin_any A7 k7 c7 2 8 3 3 3 cw cp 3 60 AW AP (some ⟨g8, 0, none⟩) s0 A0 B0 k0 c0 m0 d0 W [4, 4, 4] _ (Rs.newW HW.out hb) (xs3 h8 (by omega) (by omega) (by omega)) (by omega) (by omega) (by omega) (fun _ _ => HT.out.bd (by omega) (by omega) (by omega)) h7 (fun _ _ => by rw [HT.out.d]; exact Nat.lt_of_lt_of_le (Nat.lt_of_lt_of_le (show _ < PB 1 by rw [PB]; decide) (PB_mono (by omega))) big60)).mono (fun _ _ ⟨v, h1, h2, h3⟩ => ⟨v, h1, win_tri h2 HT.out, h3⟩)))
    · exact fun _ _ _ he hd => ob_mv rfl rfl hd.1
    · exact fun aa ww hb he hd => ob_plain rfl (ext_c rfl hd.1 rfl)
    · exact fun aa ww hb he hd => ob_plain rfl (ext_c rfl hd.1 rfl)
    · exact fun aa ww hb he hd => ob_plain rfl (gives_assign _ rfl ⟨hd.1, Below.refl _ _⟩)
    · exact fun aa ww hb he hd => ob_plain rfl (gives_assign _ rfl ⟨hd.1, Below.refl _ _⟩)
  intro vs w5 hb hR
  have e6 : vs 7 = .bool true := hR 7 (by decide)
  have e7 : vs 8 = .int .i64 0 := hR 8 (by decide)
  clear hR
  simp only [putsL, Nat.zero_add, Nat.reduceAdd, List.take_succ_cons, List.take_zero, Act.put, List.setIfInBounds_toArray, List.set_cons_zero, List.set_cons_succ]
  rw [e6, e7]
  clear e6 e7
  replace HB := Lib.hid (bthen HB.out hb HB.out.size)
  replace HW := Lib.hid (Rs.newW HW.out hb)
  replace HV := Lib.hid (HV.out.new hb)
  replace HC := Lib.hid (HC.out.keep hb)
  replace HN4 := Lib.hid (HN4.out.new hb)
  clear hb
  go_upto_region 5 with (fail)
  refine wp_region_each (kss := [[], [], [], [(0, 31), (1, 32), (2, 33)], [(3, 34)], [(4, 30)], [(4, 30)], [(5, 35)], [(6, 36)]]) [(2, .pointer (some ⟨g2, 0, none⟩))] [Nv (2) (9), EV (.agg #[.slice AW 3 cw, .slice AP 3 cp, .bool s0, .slice A0 k0 c0, .slice B0 m0 d0]), fun zz w' => ∃ g : Nat, zz = .slice (some ⟨g, 0, none⟩) 3 3 ∧ Blk w' g 3 #[.int .i64 4, .int .i64 4, .int .i64 4], EV (.tuple #[.bool false, .int .i64 0]), EV (.tuple #[.bool false, .int .i64 0]), EV (.bool false), EV (.int .i64 0), EV (.bool false), EV (.int .i64 0)] (by kernel_rfl) (by kernel_rfl) ⟨rfl, trivial⟩ ?_ ?_ ?_
  · exact ⟨fun _ _ _ h hb => Nv.new h hb, eI, fun _ _ _ ⟨g, h1, h2⟩ hb => ⟨g, h1, h2.keep hb⟩, eI, eI, eI, eI, eI, eI, trivial⟩
  · refine ⟨?_, ?_, ?_, ?_, ?_, ?_, ?_, ?_, ?_, trivial⟩
    · exact fun aa ww hb he hd => ob_plain rfl (gives_call1 _ _ _ rfl (by kernel_rfl) (nof_v (9) (by omega) _ rfl _))
    · exact fun aa ww hb he hd => ob_plain rfl (load_cov rfl he.1 (Blk.keep HC.out hb))
    · exact fun aa ww hb he hd => ob_plain rfl (gives_bs_i3 rfl)
    · exact fun aa ww hb he hd => ob_plain rfl (by obtain ⟨A7, k7, c7, e7, h7⟩ := hd.1; obtain ⟨g8, e8, h8⟩ := hd.2.2.1; exact gives_call3 _ _ _ _ _ rfl (by kernel_rfl) (by rw [show aa.eval (.tmp 31) = _ from e7, show aa.eval (.tmp 32) = _ from hd.2.1, show aa.eval (.tmp 33) = _ from e8]; exact (cvwithin_any A7 k7 c7 2 9 3 3 3 cw cp 3 60 AW AP (some ⟨g8, 0, none⟩) s0 A0 B0 k0 c0 m0 d0 W [4, 4, 4] _ (Rs.newW HW.out hb) (xs3 h8 (by omega) (by omega) (by omega)) (by omega) (by omega) (by omega) (fun _ _ => HT.out.bd (by omega) (by omega) (by omega)) h7 (fun _ _ => by rw [HT.out.d]; exact Nat.lt_of_lt_of_le (Nat.lt_of_lt_of_le (show _ < PB 1 by rw [PB]; decide) (PB_mono (by omega))) big60)).mono (fun _ _ ⟨v, h1, h2, h3⟩ => ⟨v, h1, win_tri h2 HT.out, h3⟩)))
    · exact fun _ _ _ he hd => ob_mv rfl rfl hd.1
    · exact fun aa ww hb he hd => ob_plain rfl (ext_c rfl hd.1 rfl)
    · exact fun aa ww hb he hd => ob_plain rfl (ext_c rfl hd.1 rfl)
    · exact fun aa ww hb he hd => ob_plain rfl (gives_assign _ rfl ⟨hd.1, Below.refl _ _⟩)
    · exact fun aa ww hb he hd => ob_plain rfl (gives_assign _ rfl ⟨hd.1, Below.refl _ _⟩)
  intro vs w6 hb hR
  have e8 : vs 7 = .bool false := hR 7 (by decide)
  have e9 : vs 8 = .int .i64 0 := hR 8 (by decide)
  clear hR
  simp only [putsL, Nat.zero_add, Nat.reduceAdd, List.take_succ_cons, List.take_zero, Act.put, List.setIfInBounds_toArray, List.set_cons_zero, List.set_cons_succ]
  rw [e8, e9]
  clear e8 e9
  replace HB := Lib.hid (bthen HB.out hb HB.out.size)
  replace HW := Lib.hid (Rs.newW HW.out hb)
  replace HV := Lib.hid (HV.out.new hb)
  replace HC := Lib.hid (HC.out.keep hb)
  replace HN4 := Lib.hid (HN4.out.new hb)
  clear hb
  go_upto_region 6 with (fail)
  refine wp_region_each (kss := [[], [(0, 37)], [(1, 38)], [(2, 39)], [(2, 39), (3, 40)], [(2, 39), (4, 41)], [(5, 42)], [(6, 43)], [(6, 43), (7, 44)], [(6, 43), (8, 45)], [(9, 46)], [(10, 47)], [(10, 47), (11, 48)], [(10, 47), (12, 49)], [(13, 50)], [(14, 51)], [(14, 51), (15, 52)], [(14, 51)], [(14, 51), (16, 53), (17, 54)], [(14, 51), (18, 55)], [(14, 51), (19, 56)], [(20, 57)], [(21, 58)], [(21, 58)], [(21, 58), (22, 59), (23, 60)], [(21, 58), (24, 61)], [(21, 58), (25, 62)], [(26, 63)], [(27, 64)], [(27, 64), (28, 65)], [(29, 66)], [(30, 67)], [(30, 67), (31, 68)], [(30, 67), (32, 69)], [(33, 70)]]) [(3, .int .i64 0), (5, .int .i64 0), (7, .int .i64 0), (9, .int .i64 0), (2, .pointer (some ⟨g2, 0, none⟩)), (4, .slice A14 k4 c4), (6, .bool true), (8, .bool false)] [EV (.int .i64 0), EV (.bool true), EV (.bool true), EV (.int .i64 0), EV (.bool true), EV (.bool true), EV (.bool true), EV (.int .i64 0), EV (.bool true), EV (.bool true), EV (.bool true), EV (.int .i64 0), EV (.bool true), EV (.bool true), EV (.bool true), EV (.pointer (some ⟨g2, 2, none⟩)), Rw (60) (3 / 2), Rv (2) (((3 : Int) : Rat) / ((2 : Int) : Rat)), EV (.int .i64 (rcq (3 / 2) (((3 : Int) : Rat) / ((2 : Int) : Rat)))), EV (.bool true), EV (.bool true), EV (.bool true), Nv (600) (4), Nv (2) (4), EV (.int .i64 (cmpN 4 4)), EV (.bool true), EV (.bool true), EV (.bool true), EV (.bool true), EV (.bool true), EV (.bool true), EV (.bool false), EV (.bool true), EV (.bool true), EV (.bool true)] (by kernel_rfl) (by kernel_rfl) ⟨rfl, rfl, rfl, rfl, rfl, rfl, rfl, rfl, trivial⟩ ?_ ?_ ?_
  · exact ⟨eI, eI, eI, eI, eI, eI, eI, eI, eI, eI, eI, eI, eI, eI, eI, eI, fun _ _ _ h hb => h.new hb, fun _ _ _ h hb => h.new hb, eI, eI, eI, eI, fun _ _ _ h hb => Nv.new h hb, fun _ _ _ h hb => Nv.new h hb, eI, eI, eI, eI, eI, eI, eI, eI, eI, eI, eI, trivial⟩
  · refine ⟨?_, ?_, ?_, ?_, ?_, ?_, ?_, ?_, ?_, ?_, ?_, ?_, ?_, ?_, ?_, ?_, ?_, ?_, ?_, ?_, ?_, ?_, ?_, ?_, ?_, ?_, ?_, ?_, ?_, ?_, ?_, ?_, ?_, ?_, ?_, trivial⟩
    · exact fun _ _ _ he hd => ob_mv rfl rfl he.1
    · exact fun aa ww hb he hd => ob_plain rfl (gives_eq_int 0 0 .i64 _ _ _ _ rfl hd.1 rfl ⟨congrArg Value.bool (by decide), Below.refl _ _⟩)
    · exact fun _ _ _ he hd => ob_mv rfl rfl hd.1
    · exact fun aa ww hb he hd => ob_on 39 rfl (by kernel_rfl) hd.1 (gives_move _ rfl ⟨he.2.1, Below.refl _ _⟩)
    · exact fun aa ww hb he hd => ob_on 39 rfl (by kernel_rfl) hd.1 (gives_eq_int 0 0 .i64 _ _ _ _ rfl hd.2.1 rfl ⟨congrArg Value.bool (by decide), Below.refl _ _⟩)
    · exact fun aa ww hb he hd => ob_plain rfl (gives_pick true _ _ _ rfl hd.1 ⟨hd.2.1, Below.refl _ _⟩)
    · exact fun _ _ _ he hd => ob_mv rfl rfl hd.1
    · exact fun aa ww hb he hd => ob_on 43 rfl (by kernel_rfl) hd.1 (gives_move _ rfl ⟨he.2.2.1, Below.refl _ _⟩)
    · exact fun aa ww hb he hd => ob_on 43 rfl (by kernel_rfl) hd.1 (gives_eq_int 0 0 .i64 _ _ _ _ rfl hd.2.1 rfl ⟨congrArg Value.bool (by decide), Below.refl _ _⟩)
    · exact fun aa ww hb he hd => ob_plain rfl (gives_pick true _ _ _ rfl hd.1 ⟨hd.2.1, Below.refl _ _⟩)
    · exact fun _ _ _ he hd => ob_mv rfl rfl hd.1
    · exact fun aa ww hb he hd => ob_on 47 rfl (by kernel_rfl) hd.1 (gives_move _ rfl ⟨he.2.2.2.1, Below.refl _ _⟩)
    · exact fun aa ww hb he hd => ob_on 47 rfl (by kernel_rfl) hd.1 (gives_eq_int 0 0 .i64 _ _ _ _ rfl hd.2.1 rfl ⟨congrArg Value.bool (by decide), Below.refl _ _⟩)
    · exact fun aa ww hb he hd => ob_plain rfl (gives_pick true _ _ _ rfl hd.1 ⟨hd.2.1, Below.refl _ _⟩)
    · exact fun _ _ _ he hd => ob_mv rfl rfl hd.1
    · exact fun aa ww hb he hd => ob_on 51 rfl (by kernel_rfl) hd.1 (fld_cov (k := 2) rfl (by decide) he.2.2.2.2.1)
    · exact fun aa ww hb he hd => ob_on 51 rfl (by kernel_rfl) hd.1 (load_cvv rfl hd.2.1 (Blk.keep HC.out hb) (Rw.new HV.out hb))
    · exact fun aa ww hb he hd => ob_on 51 rfl (by kernel_rfl) hd.1 (gives_call2 _ _ _ _ rfl (by kernel_rfl) (of29_any 3 2 (by omega) (by omega) (by omega) _))
    · exact fun aa ww hb he hd => ob_on 51 rfl (by kernel_rfl) hd.1 (gives_call2 _ _ _ _ rfl (by kernel_rfl) (cmp_v (hd.2.1) (hd.2.2.1.rw) (by omega)))
    · exact fun aa ww hb he hd => ob_on 51 rfl (by kernel_rfl) hd.1 (gives_eq_int (rcq (3 / 2) (((3 : Int) : Rat) / ((2 : Int) : Rat))) 0 .i64 _ _ _ _ rfl hd.2.1 rfl ⟨congrArg Value.bool (by rw [rcq_eq (by decide +kernel)]; rfl), Below.refl _ _⟩)
    · exact fun aa ww hb he hd => ob_plain rfl (gives_pick true _ _ _ rfl hd.1 ⟨hd.2.1, Below.refl _ _⟩)
    · exact fun _ _ _ he hd => ob_mv rfl rfl hd.1
    · exact fun aa ww hb he hd => ob_on 58 rfl (by kernel_rfl) hd.1 (gives_move _ rfl ⟨⟨_, _, _, he.2.2.2.2.2.1, HN4.out.new hb⟩, Below.refl _ _⟩)
    · exact fun aa ww hb he hd => ob_on 58 rfl (by kernel_rfl) hd.1 (gives_call1 _ _ _ rfl (by kernel_rfl) (nof_v (4) (by omega) _ rfl _))
    · exact fun aa ww hb he hd => ob_on 58 rfl (by kernel_rfl) hd.1 (gives_call2 _ _ _ _ rfl (by kernel_rfl) (cmp_nv hd.2.1 hd.2.2.1))
    · exact fun aa ww hb he hd => ob_on 58 rfl (by kernel_rfl) hd.1 (gives_eq_int (cmpN 4 4) 0 .i64 _ _ _ _ rfl hd.2.1 rfl ⟨congrArg Value.bool (by decide), Below.refl _ _⟩)
    · exact fun aa ww hb he hd => ob_plain rfl (gives_pick true _ _ _ rfl hd.1 ⟨hd.2.1, Below.refl _ _⟩)
    · exact fun _ _ _ he hd => ob_mv rfl rfl hd.1
    · exact fun aa ww hb he hd => ob_on 64 rfl (by kernel_rfl) hd.1 (gives_move _ rfl ⟨he.2.2.2.2.2.2.1, Below.refl _ _⟩)
    · exact fun aa ww hb he hd => ob_plain rfl (gives_pick true _ _ _ rfl hd.1 ⟨hd.2.1, Below.refl _ _⟩)
    · exact fun _ _ _ he hd => ob_mv rfl rfl hd.1
    · exact fun aa ww hb he hd => ob_on 67 rfl (by kernel_rfl) hd.1 (gives_move _ rfl ⟨he.2.2.2.2.2.2.2.1, Below.refl _ _⟩)
    · exact fun aa ww hb he hd => ob_on 67 rfl (by kernel_rfl) hd.1 (gives_not false _ _ rfl hd.2.1 ⟨rfl, Below.refl _ _⟩)
    · exact fun aa ww hb he hd => ob_plain rfl (gives_pick true _ _ _ rfl hd.1 ⟨hd.2.1, Below.refl _ _⟩)
    · exact fun aa ww hb he hd => ob_plain rfl (gives_assign _ rfl ⟨hd.1, Below.refl _ _⟩)
  intro vs w7 hb hR
  have e0 : vs 34 = .bool true := hR 34 (by decide)
  clear hR
  simp only [putsL, Nat.zero_add, Nat.reduceAdd, List.take_succ_cons, List.take_zero, Act.put, List.setIfInBounds_toArray, List.set_cons_zero, List.set_cons_succ]
  rw [e0]
  clear e0
  replace HB := Lib.hid (bthen HB.out hb HB.out.size)
  replace HW := Lib.hid (Rs.newW HW.out hb)
  replace HV := Lib.hid (HV.out.new hb)
  replace HC := Lib.hid (HC.out.keep hb)
  replace HN4 := Lib.hid (HN4.out.new hb)
  clear hb
  go_wp2_with fail
  go_ret
  exact ⟨rfl, HB.out⟩
end Go.Proofs.Ytpnklmgfdihjfaa
namespace Go.Proofs.Ytpnklmgfdihjfaa
open Go.RowKit
set_option linter.unusedVariables false
set_option linter.unusedSimpArgs false

end Go.Proofs.Ytpnklmgfdihjfaa
namespace Go.Proofs.Ytpnklmgfdihjfaa
open Go.RowKit
set_option linter.unusedVariables false
set_option linter.unusedSimpArgs false

section
variable {n : Int} {len ce : Nat} {AE : Option Addr} {es : List Nat} {s : Nat} {AW : Option Addr} {mW cw : Nat} {AP : Option Addr} {nP cp : Nat} {s0 : Bool} {A0 : Option Addr} {k0 c0 : Nat} {B0 : Option Addr} {m0 d0 : Nat} {W P : Nat → Rat} {x : Rat} {b g3 g4 g5 g7 g8 g9 : Nat} {w0 w w' : World} {B B' : Bool}
end
end Go.Proofs.Ytpnklmgfdihjfaa
namespace Go.Proofs.Ytpnklmgfdihjfaa
open Go.RowKit
set_option linter.unusedVariables false
set_option linter.unusedSimpArgs false

end Go.Proofs.Ytpnklmgfdihjfaa
namespace Go.Proofs.Ytpnklmgfdihjfaa
open Go.RowKit
set_option linter.unusedVariables false
set_option linter.unusedSimpArgs false

/-- What made answers. -/
def MadeR (a bn : Nat) (xs ys : List Int) (dn : Nat) (vN : Int) (v : Value) (w : World) : Prop := ∃ (A2 : Option Addr) (c2 : Nat) (D2 : Option Addr) (d2 : Nat) (s2 : Bool) (A5 : Option Addr) (k5 c5 : Nat) (B5 : Option Addr) (m5 d5 : Nat) (A1 : Option Addr) (c1 : Nat) (D1 : Option Addr) (d1 : Nat),
  v = .tuple #[.agg #[.slice A2 a c2, .slice D2 bn d2, .bool s2, .slice A5 k5 c5, .slice B5 m5 d5], .slice A1 a c1, .slice D1 bn d1, .int .i64 (dn : Int)] ∧ Rs w w.heap.size A2 a (PW w 2 (fun j => ((inth xs j : Int) : Rat) / ((dn : Int) : Rat))) ∧ Rs w w.heap.size D2 bn (PW w 2 (fun j => ((inth ys j : Int) : Rat) / ((dn : Int) : Rat))) ∧ Rw 2 (((vN : Int) : Rat) / ((dn : Int) : Rat)) (.agg #[.bool s2, .slice A5 k5 c5, .slice B5 m5 d5]) w ∧ Xs w w.heap.size A1 a xs ∧ Xs w w.heap.size D1 bn ys
set_option maxRecDepth 100000 in
set_option maxHeartbeats 8000000 in
theorem made_any (D a bn ca cb : Nat) (AX AY : Option Addr) (xs ys : List Int) (vN : Int) (w : World) (hX : Ks .i8 128 w w.heap.size AX a xs) (hY : Ks .i8 128 w w.heap.size AY bn ys) (hD : D ≤ 255) (hv : -128 ≤ vN ∧ vN < 128) (hln : a ≤ 1100000 ∧ bn ≤ 1100000) :
    Calls Try.prog 14 #[.agg #[.int .u8 (D : Int), .slice AX a ca, .slice AY bn cb, .int .i8 vN]] w (RV w (MadeR a bn xs ys (D % 6 + 1) vN)) := by
  have HX0 := Lib.hid hX; have HY0 := Lib.hid hY; have HVn := Lib.hid hv; have HLn := Lib.hid hln; clear hX hY hv hln
  obtain ⟨dn, hdn⟩ : ∃ dn, dn = D % 6 + 1 := ⟨_, rfl⟩
  have e2 : (D : Int) % 6 + 1 = (dn : Int) := by omega
  have HDn := Lib.hid (show 1 ≤ dn ∧ dn ≤ 6 by omega)
  rw [← hdn]
  have HDe := Lib.hid hdn; clear hdn
  have e3 : ((D : Int) % 6) ≤ 5 := by omega
  have e4 : 0 ≤ ((D : Int) % 6) := by omega
  go_enter Try.func14, Try.ntmps14
  go_upto_region 1 with (fail)
  have hbw := bthen (al w (.cells #[.int .u8 (D : Int), .slice AX a ca, .slice AY bn cb, .int .i8 vN] 43)) (al _ (.cells #[.slice none 0 0, .slice none 0 0, .bool false, .slice none 0 0, .slice none 0 0] 33)) (by simp)
  have HG := Lib.hid ((Blk.new w 43 #[.int .u8 (D : Int), .slice AX a ca, .slice AY bn cb, .int .i8 vN]).keep (al _ (.cells #[.slice none 0 0, .slice none 0 0, .bool false, .slice none 0 0, .slice none 0 0] 33)))
  have H2 := Lib.hid (Blk.new (w.alloc (.cells #[.int .u8 (D : Int), .slice AX a ca, .slice AY bn cb, .int .i8 vN] 43)) 33 #[.slice none 0 0, .slice none 0 0, .bool false, .slice none 0 0, .slice none 0 0])
  rw [show (w.alloc (.cells #[.int .u8 (D : Int), .slice AX a ca, .slice AY bn cb, .int .i8 vN] 43)).heap.size = w.heap.size + 1 from by simp] at H2
  have HB := Lib.hid hbw
  clear hbw
  generalize (w.alloc (.cells #[.int .u8 (D : Int), .slice AX a ca, .slice AY bn cb, .int .i8 vN] 43)).alloc (.cells #[.slice none 0 0, .slice none 0 0, .bool false, .slice none 0 0, .slice none 0 0] 33) = w1 at *
  obtain ⟨g1, hg1⟩ : ∃ g1, g1 = w.heap.size := ⟨_, rfl⟩
  obtain ⟨g2, hg2⟩ : ∃ g2, g2 = w.heap.size + 1 := ⟨_, rfl⟩
  rw [← hg2] at H2 ⊢
  rw [← hg1] at HG ⊢
  have HGg1 := Lib.hid (show w.heap.size ≤ g1 ∧ w.heap.size ≤ g2 from by omega)
  clear hg1 hg2
  have HL0 := Lib.hid (show g1 < w1.heap.size ∧ g2 < w1.heap.size ∧ w.heap.size ≤ w1.heap.size from ⟨HG.out.lt, H2.out.lt, HB.out.size⟩)
  have x0 := Blk.at0 HG.out (Below.refl _ _)
  go_upto_region 2 with (fail)
  clear x0
  first | rw [e2] | (rw [show RowKit.wrap64 ((D : Int) % 6 + 1) = (dn : Int) from by unfold RowKit.wrap64; omega]) | skip
  clear e2 e3 e4
  go_upto_region 3 with (fail)
  have hbw := al w1 (.cells #[.slice none 0 0, .slice none 0 0, .bool false, .slice none 0 0, .slice none 0 0] 33)
  have HU := Lib.hid (Blk.new w1 33 #[.slice none 0 0, .slice none 0 0, .bool false, .slice none 0 0, .slice none 0 0])
  replace HB := Lib.hid (bthen HB.out hbw HB.out.size)
  replace HG := Lib.hid (HG.out.keep hbw)
  replace H2 := Lib.hid (H2.out.keep hbw)
  clear hbw
  generalize w1.alloc (.cells #[.slice none 0 0, .slice none 0 0, .bool false, .slice none 0 0, .slice none 0 0] 33) = w2 at *
  obtain ⟨g7, hg7⟩ : ∃ g7, g7 = w1.heap.size := ⟨_, rfl⟩
  rw [← hg7] at HU ⊢
  have HGg7 := Lib.hid (show w1.heap.size ≤ g7 from by omega)
  clear hg7
  obtain ⟨b0, hb0⟩ : ∃ b0, b0 = w2.heap.size := ⟨_, rfl⟩
  have hst : MdS w b0 g1 g2 g7 #[.int .u8 (D : Int), .slice AX a ca, .slice AY bn cb, .int .i8 vN] (.slice none 0 0) (.slice none 0 0) (.slice none 0 0) 0 [] (.slice none 0 0) 0 (fun j => ((inth xs j : Int) : Rat) / ((dn : Int) : Rat)) (.slice none 0 0) 0 [] (.slice none 0 0) 0 (fun j => ((inth ys j : Int) : Rat) / ((dn : Int) : Rat)) w2 := ⟨HG.out, H2.out, HU.out, OwnC.nil _ _ _ _, OR.nil _ _ _, OwnC.nil _ _ _ _, OR.nil _ _ _, ⟨.inl rfl, .inl rfl⟩, ⟨.inl rfl, .inl rfl⟩, HB.out, by have h1 := HG.out.lt; have h2 := H2.out.lt; have h3 := HU.out.lt; have := HL0.out; have := HGg7.out; omega, by omega⟩
  have HI := Lib.hid hst
  clear hst HG H2 HU HB hb0 HL0
  have x1 := Blk.at1 HI.out.gb (Below.refl _ _)
  go_wp2_with fail
  clear x1
  go_loopg [22, 8] a (fun g iv ov wr => ∃ (i c1 c2 : Nat) (A1 A2 : Option Addr), iv = .int .i64 i ∧ ov = .slice A1 i c1 ∧ i + g = a ∧ Hid (MdS w b0 g1 g2 g7 #[.int .u8 (D : Int), .slice AX a ca, .slice AY bn cb, .int .i8 vN] (.slice A2 i c2) (.slice none 0 0) (.slice A1 i c1) i (I64 (xs.take i)) (.slice A2 i c2) i (fun j => ((inth xs j : Int) : Rat) / ((dn : Int) : Rat)) (.slice none 0 0) 0 [] (.slice none 0 0) 0 (fun j => ((inth ys j : Int) : Rat) / ((dn : Int) : Rat)) wr))
  case atStart => exact ⟨0, 0, 0, none, none, rfl, rfl, by omega, HI⟩
  case round =>
    obtain ⟨i, c1, c2, A1, A2, rfl, rfl, hin, HJ⟩ := hrel
    clear HI
    by_cases hi : i < a
    · have i1 : ((i : Int) < (a : Int)) := by omega
      have i6 : (i : Int) ≤ 1100000 := by have := HLn.out; omega
      obtain ⟨adX, hAd, -, hcX⟩ := (HX0.out.below HJ.out.hb).at_ hi
      have hxb := (HX0.out).lt hi
      obtain ⟨xi, hxi⟩ : ∃ xi, xi = inth xs i := ⟨_, rfl⟩
      rw [← hxi] at hcX hxb
      have HXi := Lib.hid hxi; have HXb := Lib.hid hxb; clear hxi hxb
      subst hAd
      go_upto_region 7 with (fail)
      clear hcX
      refine wp_region_joins (kss := [[], [], [(1, 27)], [(2, 28)]]) [(8, .slice A1 i c1), (11, .int .i8 xi)] [EV (.slice A1 i c1), EV (.int .i8 xi), EV (.int .i64 xi), fun zz w' => ∃ g0 : Nat, zz = .slice (some ⟨g0, 0, none⟩) 1 1 ∧ Blk w' g0 3 #[.int .i64 xi]] 4 (by kernel_rfl) ⟨rfl, rfl, trivial⟩ [false, false, false, false] ?_ ?_ ?_
      · exact ⟨eI, eI, eI, fun _ _ _ ⟨g0, h1, h2⟩ hb => ⟨g0, h1, h2.keep hb⟩, trivial⟩
      · refine ⟨?_, ?_, ?_, ?_, trivial⟩
        · exact fun _ _ _ he hd => ob_mv rfl rfl he.1
        · exact fun _ _ _ he hd => ob_mv rfl rfl he.2.1
        · exact fun aa ww hb he hd => ob_plain rfl (conv_i8n HXb.out rfl hd.1)
        · exact fun aa ww hb he hd => ob_plain rfl (gives_bs_int rfl hd.1)
      intro vs w3 hb hR
      have e26 : vs 0 = .slice A1 i c1 := hR 0 (by decide)
      have r29 := hR 3 (by decide)
      clear hR
      simp only [putsL, Nat.zero_add, Nat.reduceAdd, List.take_succ_cons, List.take_zero, Act.put, List.setIfInBounds_toArray, List.set_cons_zero, List.set_cons_succ]
      rw [e26]
      clear e26
      obtain ⟨g0, e29, hz⟩ := r29
      rw [e29]
      clear e29
      replace HJ := Lib.hid (MdS.below HJ.out hb)
      clear hb
      show wpOps _ _ _ [4, 5] _ _
      refine wpOps_next rfl rfl (wp_app_int9 _ _ rfl b0 (.slice A1 i c1) i _ rfl HJ.out.w1 g0 xi rfl hz (by omega) HJ.out.sz ?_)
      intro v' w4 ho hgr hor kp
      obtain ⟨A8, c8, rfl⟩ := own_form ho.own
      show wpOps _ _ _ _ (Act.put _ (some 30) _) _
      simp only [Act.put, List.setIfInBounds_toArray, List.set_cons_zero, List.set_cons_succ]
      replace HJ := Lib.hid (HJ.out.pushW ho hgr hor kp)
      clear ho hgr hor kp hz
      refine wpOps_next rfl rfl (wp_assign 8 (.tmp 30) rfl rfl (.slice A8 (i + 1) c8) rfl ?_)
      simp only [Act.put, List.setIfInBounds_toArray, List.set_cons_zero, List.set_cons_succ]
      unfold wpOps
      go_upto_region 8 with (fail)
      refine wp_region_join (kss := [[], [(0, 31)], [], [(2, 33)], [], [(3, 34), (4, 35)], [(5, 36)]]) [(7, .pointer (some ⟨g7, 0, none⟩)), (11, .int .i8 xi), (6, .int .i64 ((dn : Int)))] [EV (.pointer (some ⟨g7, 0, none⟩)), EV (.slice A2 i c2), EV (.int .i8 xi), EV (.int .i64 xi), EV (.int .i64 ((dn : Int))), Rv (2) (((xi : Int) : Rat) / ((dn : Int) : Rat)), OneN (2) (((xi : Int) : Rat) / ((dn : Int) : Rat))] 7 [] (by kernel_rfl) (by kernel_rfl) ⟨rfl, rfl, rfl, trivial⟩ [false, false, false, false, false, false, false] ?_ ?_ ?_ ?_
      · exact fun i hi => absurd hi (by simp)
      · exact ⟨eI, eI, eI, eI, eI, fun _ _ _ h hb => h.new hb, fun _ _ _ h hb => h.new hb, trivial⟩
      · refine ⟨?_, ?_, ?_, ?_, ?_, ?_, ?_, trivial⟩
        · exact fun aa ww hb he hd => ob_plain rfl (fld_cov (k := 0) rfl (by decide) he.1)
        · exact fun aa ww hb he hd => ob_plain rfl (load_c28 rfl hd.1 (Blk.at0 HJ.out.cu hb))
        · exact fun _ _ _ he hd => ob_mv rfl rfl he.2.1
        · exact fun aa ww hb he hd => ob_plain rfl (conv_i8l HXb.out rfl hd.1)
        · exact fun _ _ _ he hd => ob_mv rfl rfl he.2.2.1
        · exact fun aa ww hb he hd => ob_plain rfl (gives_call2 _ _ _ _ rfl (by kernel_rfl) (by rw [show aa.eval (.tmp 34) = _ from hd.1, show aa.eval (.tmp 35) = _ from hd.2.1]; exact of29_any xi (dn : Int) (by have := HXb.out; omega) (by have := HDn.out; omega) (by have := HDn.out; omega) _))
        · exact fun aa ww hb he hd => ob_plain rfl (gives_one_n rfl hd.1)
      intro vs w5 hb hR _
      have r37 : OneN (2) (((xi : Int) : Rat) / ((dn : Int) : Rat)) (vs 6) w5 := hR 6 (by decide)
      have e32 : vs 1 = .slice A2 i c2 := hR 1 (by decide)
      clear hR
      simp only [putsL, Nat.zero_add, Nat.reduceAdd, List.take_succ_cons, List.take_zero, Act.put, List.setIfInBounds_toArray, List.set_cons_zero, List.set_cons_succ]
      rw [e32]
      clear e32
      obtain ⟨A7, e37, hr1⟩ := r37
      rw [e37]
      clear e37
      replace HJ := Lib.hid (MdS.below HJ.out hb)
      clear hb
      show wpAny _ _ _ _ 3 _ _ _
      refine wpAny_next (i := 7) (by kernel_rfl) rfl rfl (wp_push_rat9 _ _ rfl b0 (.slice A2 i c2) i _ rfl HJ.out.w2 w5.heap.size A7 1 _ rfl hr1 (by omega) HJ.out.sz ?_)
      intro v' w6 ho hgr hor kp
      have hO := ho (PN w6 2 (fun j => ((inth xs j : Int) : Rat) / ((dn : Int) : Rat))) (fun l u hl hv => PN.keep hv kp) (fun u hv => by have h := PN.keep (f := fun _ => ((xi : Int) : Rat) / ((dn : Int) : Rat)) (j := 0) hv kp; show Rv 2 (((inth xs i : Int) : Rat) / ((dn : Int) : Rat)) u w6; rw [← HXi.out]; exact h)
      obtain ⟨A9, c9, rfl⟩ := hO.form
      show wpAny _ _ _ _ _ _ (Act.put _ (some 38) _) _
      simp only [Act.put, List.setIfInBounds_toArray, List.set_cons_zero, List.set_cons_succ]
      replace HJ := Lib.hid (HJ.out.pushX hO hgr hor kp)
      clear ho hO hgr hor kp hr1
      refine wpAny_next (i := 8) (by kernel_rfl) rfl rfl (wp_of_gives (fld_cov (k := 0) rfl (by decide) rfl) ?_)
      rintro _ w7 ⟨rfl, hb⟩
      replace HJ := Lib.hid (MdS.below HJ.out hb)
      clear hb
      show wpAny _ _ _ _ _ _ (Act.put _ (some 39) _) _
      simp only [Act.put, List.setIfInBounds_toArray, List.set_cons_zero, List.set_cons_succ]
      refine wpAny_next (i := 9) (by kernel_rfl) rfl rfl (store_c28 rfl rfl rfl rfl (Blk.at0 HJ.out.cu (Below.refl _ _)) (HJ.out.cu.frozen 0) ?_)
      replace HJ := Lib.hid (HJ.out.set0 (x := .slice A9 (i + 1) c9) (by intro z; simp))
      generalize w7.setCell ⟨g7, 0, none⟩ (.slice A9 (i + 1) c9) = w8 at *
      refine wpAny_end (by kernel_rfl) (calm_normal ?_) _
      go_wp2_with fail
      go_roundg (gk - 1)
      case measure => omega
      case rel => exact ⟨i + 1, c8, c9, A8, A9, by go_num, rfl, by omega, by rw [I64_take (by have := HX0.out.2.1.1; omega), HXi.out.symm]; exact HJ⟩
    · obtain rfl : a = i := by omega
      have HI := Lib.hid (show MdS w b0 g1 g2 g7 #[.int .u8 (D : Int), .slice AX a ca, .slice AY bn cb, .int .i8 vN] (.slice A2 a c2) (.slice none 0 0) (.slice A1 a c1) a (I64 (xs.take a)) (.slice A2 a c2) a (fun j => ((inth xs j : Int) : Rat) / ((dn : Int) : Rat)) (.slice none 0 0) 0 (I64 (ys.take 0)) (.slice none 0 0) 0 (fun j => ((inth ys j : Int) : Rat) / ((dn : Int) : Rat)) wr from HJ.out)
      clear HJ
      have x2 := Blk.at2 HI.out.gb (Below.refl _ _)
      go_wp2_with fail
      clear x2
      go_loopg [44, 9] bn (fun g iv ov wr => ∃ (i d1 d2 : Nat) (D1 D2 : Option Addr), iv = .int .i64 i ∧ ov = .slice D1 i d1 ∧ i + g = bn ∧ Hid (MdS w b0 g1 g2 g7 #[.int .u8 (D : Int), .slice AX a ca, .slice AY bn cb, .int .i8 vN] (.slice A2 a c2) (.slice D2 i d2) (.slice A1 a c1) a (I64 (xs.take a)) (.slice A2 a c2) a (fun j => ((inth xs j : Int) : Rat) / ((dn : Int) : Rat)) (.slice D1 i d1) i (I64 (ys.take i)) (.slice D2 i d2) i (fun j => ((inth ys j : Int) : Rat) / ((dn : Int) : Rat)) wr))
      case atStart => exact ⟨0, 0, 0, none, none, rfl, rfl, by omega, HI⟩
      case round =>
        obtain ⟨i, d1, d2, D1, D2, rfl, rfl, hin, HJ⟩ := hrel
        clear HI
        by_cases hi : i < bn
        · have i1 : ((i : Int) < (bn : Int)) := by omega
          have i6 : (i : Int) ≤ 1100000 := by have := HLn.out; omega
          obtain ⟨adX, hAd, -, hcX⟩ := (HY0.out.below HJ.out.hb).at_ hi
          have hxb := (HY0.out).lt hi
          obtain ⟨xi, hxi⟩ : ∃ xi, xi = inth ys i := ⟨_, rfl⟩
          rw [← hxi] at hcX hxb
          have HXi := Lib.hid hxi; have HXb := Lib.hid hxb; clear hxi hxb
          subst hAd
          go_upto_region 13 with (fail)
          clear hcX
          refine wp_region_joins (kss := [[], [], [(1, 49)], [(2, 50)]]) [(9, .slice D1 i d1), (13, .int .i8 xi)] [EV (.slice D1 i d1), EV (.int .i8 xi), EV (.int .i64 xi), fun zz w' => ∃ g0 : Nat, zz = .slice (some ⟨g0, 0, none⟩) 1 1 ∧ Blk w' g0 3 #[.int .i64 xi]] 4 (by kernel_rfl) ⟨rfl, rfl, trivial⟩ [false, false, false, false] ?_ ?_ ?_
          · exact ⟨eI, eI, eI, fun _ _ _ ⟨g0, h1, h2⟩ hb => ⟨g0, h1, h2.keep hb⟩, trivial⟩
          · refine ⟨?_, ?_, ?_, ?_, trivial⟩
            · exact fun _ _ _ he hd => ob_mv rfl rfl he.1
            · exact fun _ _ _ he hd => ob_mv rfl rfl he.2.1
            · exact fun aa ww hb he hd => ob_plain rfl (conv_i8n HXb.out rfl hd.1)
            · exact fun aa ww hb he hd => ob_plain rfl (gives_bs_int rfl hd.1)
          intro vs w3 hb hR
          have e48 : vs 0 = .slice D1 i d1 := hR 0 (by decide)
          have r51 := hR 3 (by decide)
          clear hR
          simp only [putsL, Nat.zero_add, Nat.reduceAdd, List.take_succ_cons, List.take_zero, Act.put, List.setIfInBounds_toArray, List.set_cons_zero, List.set_cons_succ]
          rw [e48]
          clear e48
          obtain ⟨g0, e51, hz⟩ := r51
          rw [e51]
          clear e51
          replace HJ := Lib.hid (MdS.below HJ.out hb)
          clear hb
          show wpOps _ _ _ [4, 5] _ _
          refine wpOps_next rfl rfl (wp_app_int9 _ _ rfl b0 (.slice D1 i d1) i _ rfl HJ.out.p1 g0 xi rfl hz (by omega) HJ.out.sz ?_)
          intro v' w4 ho hgr hor kp
          obtain ⟨A8, c8, rfl⟩ := own_form ho.own
          show wpOps _ _ _ _ (Act.put _ (some 52) _) _
          simp only [Act.put, List.setIfInBounds_toArray, List.set_cons_zero, List.set_cons_succ]
          replace HJ := Lib.hid (HJ.out.pushP ho hgr hor kp)
          clear ho hgr hor kp hz
          refine wpOps_next rfl rfl (wp_assign 9 (.tmp 52) rfl rfl (.slice A8 (i + 1) c8) rfl ?_)
          simp only [Act.put, List.setIfInBounds_toArray, List.set_cons_zero, List.set_cons_succ]
          unfold wpOps
          go_upto_region 14 with (fail)
          refine wp_region_join (kss := [[], [(0, 53)], [], [(2, 55)], [], [(3, 56), (4, 57)], [(5, 58)]]) [(7, .pointer (some ⟨g7, 0, none⟩)), (13, .int .i8 xi), (6, .int .i64 ((dn : Int)))] [EV (.pointer (some ⟨g7, 1, none⟩)), EV (.slice D2 i d2), EV (.int .i8 xi), EV (.int .i64 xi), EV (.int .i64 ((dn : Int))), Rv (2) (((xi : Int) : Rat) / ((dn : Int) : Rat)), OneN (2) (((xi : Int) : Rat) / ((dn : Int) : Rat))] 7 [] (by kernel_rfl) (by kernel_rfl) ⟨rfl, rfl, rfl, trivial⟩ [false, false, false, false, false, false, false] ?_ ?_ ?_ ?_
          · exact fun i hi => absurd hi (by simp)
          · exact ⟨eI, eI, eI, eI, eI, fun _ _ _ h hb => h.new hb, fun _ _ _ h hb => h.new hb, trivial⟩
          · refine ⟨?_, ?_, ?_, ?_, ?_, ?_, ?_, trivial⟩
            · exact fun aa ww hb he hd => ob_plain rfl (fld_cov (k := 1) rfl (by decide) he.1)
            · exact fun aa ww hb he hd => ob_plain rfl (load_c28 rfl hd.1 (Blk.at1 HJ.out.cu hb))
            · exact fun _ _ _ he hd => ob_mv rfl rfl he.2.1
            · exact fun aa ww hb he hd => ob_plain rfl (conv_i8l HXb.out rfl hd.1)
            · exact fun _ _ _ he hd => ob_mv rfl rfl he.2.2.1
            · exact fun aa ww hb he hd => ob_plain rfl (gives_call2 _ _ _ _ rfl (by kernel_rfl) (by rw [show aa.eval (.tmp 56) = _ from hd.1, show aa.eval (.tmp 57) = _ from hd.2.1]; exact of29_any xi (dn : Int) (by have := HXb.out; omega) (by have := HDn.out; omega) (by have := HDn.out; omega) _))
            · exact fun aa ww hb he hd => ob_plain rfl (gives_one_n rfl hd.1)
          intro vs w5 hb hR _
          have r59 : OneN (2) (((xi : Int) : Rat) / ((dn : Int) : Rat)) (vs 6) w5 := hR 6 (by decide)
          have e54 : vs 1 = .slice D2 i d2 := hR 1 (by decide)
          clear hR
          simp only [putsL, Nat.zero_add, Nat.reduceAdd, List.take_succ_cons, List.take_zero, Act.put, List.setIfInBounds_toArray, List.set_cons_zero, List.set_cons_succ]
          rw [e54]
          clear e54
          obtain ⟨A7, e59, hr1⟩ := r59
          rw [e59]
          clear e59
          replace HJ := Lib.hid (MdS.below HJ.out hb)
          clear hb
          show wpAny _ _ _ _ 3 _ _ _
          refine wpAny_next (i := 7) (by kernel_rfl) rfl rfl (wp_push_rat9 _ _ rfl b0 (.slice D2 i d2) i _ rfl HJ.out.p2 w5.heap.size A7 1 _ rfl hr1 (by omega) HJ.out.sz ?_)
          intro v' w6 ho hgr hor kp
          have hO := ho (PN w6 2 (fun j => ((inth ys j : Int) : Rat) / ((dn : Int) : Rat))) (fun l u hl hv => PN.keep hv kp) (fun u hv => by have h := PN.keep (f := fun _ => ((xi : Int) : Rat) / ((dn : Int) : Rat)) (j := 0) hv kp; show Rv 2 (((inth ys i : Int) : Rat) / ((dn : Int) : Rat)) u w6; rw [← HXi.out]; exact h)
          obtain ⟨A9, c9, rfl⟩ := hO.form
          show wpAny _ _ _ _ _ _ (Act.put _ (some 60) _) _
          simp only [Act.put, List.setIfInBounds_toArray, List.set_cons_zero, List.set_cons_succ]
          replace HJ := Lib.hid (HJ.out.pushY hO hgr hor kp)
          clear ho hO hgr hor kp hr1
          refine wpAny_next (i := 8) (by kernel_rfl) rfl rfl (wp_of_gives (fld_cov (k := 1) rfl (by decide) rfl) ?_)
          rintro _ w7 ⟨rfl, hb⟩
          replace HJ := Lib.hid (MdS.below HJ.out hb)
          clear hb
          show wpAny _ _ _ _ _ _ (Act.put _ (some 61) _) _
          simp only [Act.put, List.setIfInBounds_toArray, List.set_cons_zero, List.set_cons_succ]
          refine wpAny_next (i := 9) (by kernel_rfl) rfl rfl (store_c28 rfl rfl rfl rfl (Blk.at1 HJ.out.cu (Below.refl _ _)) (HJ.out.cu.frozen 1) ?_)
          replace HJ := Lib.hid (HJ.out.set1 (x := .slice A9 (i + 1) c9) (by intro z; simp))
          generalize w7.setCell ⟨g7, 1, none⟩ (.slice A9 (i + 1) c9) = w8 at *
          refine wpAny_end (by kernel_rfl) (calm_normal ?_) _
          go_wp2_with fail
          go_roundg (gk - 1)
          case measure => omega
          case rel => exact ⟨i + 1, c8, c9, A8, A9, by go_num, rfl, by omega, by rw [I64_take (by have := HY0.out.2.1.1; omega), HXi.out.symm]; exact HJ⟩
        · obtain rfl : bn = i := by omega
          go_upto_region 16 with (fail)
          refine wp_region_joins (kss := [[], [(0, 63)], [(1, 64)], [], [(2, 65), (3, 66)], []]) [(1, .pointer (some ⟨g1, 0, none⟩)), (6, .int .i64 ((dn : Int))), (7, .pointer (some ⟨g7, 0, none⟩))] [EV (.pointer (some ⟨g1, 3, none⟩)), EV (.int .i8 vN), EV (.int .i64 vN), EV (.int .i64 ((dn : Int))), Rv (2) (((vN : Int) : Rat) / ((dn : Int) : Rat)), EV (.pointer (some ⟨g7, 2, none⟩))] 6 (by kernel_rfl) ⟨rfl, rfl, rfl, trivial⟩ [false, false, false, false, false, false] ?_ ?_ ?_
          · exact ⟨eI, eI, eI, eI, fun _ _ _ h hb => h.new hb, eI, trivial⟩
          · refine ⟨?_, ?_, ?_, ?_, ?_, ?_, trivial⟩
            · exact fun aa ww hb he hd => ob_plain rfl (fld_gus (k := 3) rfl (by decide) he.1)
            · exact fun aa ww hb he hd => ob_plain rfl (load_i8n rfl hd.1 (Blk.at3 HJ.out.gb hb))
            · exact fun aa ww hb he hd => ob_plain rfl (conv_i8l HVn.out rfl hd.1)
            · exact fun _ _ _ he hd => ob_mv rfl rfl he.2.1
            · exact fun aa ww hb he hd => ob_plain rfl (gives_call2 _ _ _ _ rfl (by kernel_rfl) (by rw [show aa.eval (.tmp 65) = _ from hd.1, show aa.eval (.tmp 66) = _ from hd.2.1]; exact of29_any vN (dn : Int) (by have := HVn.out; omega) (by have := HDn.out; omega) (by have := HDn.out; omega) _))
            · exact fun aa ww hb he hd => ob_plain rfl (fld_cov (k := 2) rfl (by decide) he.2.2.1)
          intro vs w3 hb hR
          have r67 : Rv (2) (((vN : Int) : Rat) / ((dn : Int) : Rat)) (vs 4) w3 := hR 4 (by decide)
          have e68 : vs 5 = .pointer (some ⟨g7, 2, none⟩) := hR 5 (by decide)
          clear hR
          simp only [putsL, Nat.zero_add, Nat.reduceAdd, List.take_succ_cons, List.take_zero, Act.put, List.setIfInBounds_toArray, List.set_cons_zero, List.set_cons_succ]
          rw [e68]
          clear e68
          have HV := Lib.hid r67
          obtain ⟨s2, A5, k5, c5, B5, m5, d5, e67, -⟩ := r67
          rw [e67] at HV ⊢
          clear e67
          replace HJ := Lib.hid (MdS.below HJ.out hb)
          clear hb
          show wpOps _ _ _ [6] _ _
          refine wpOps_next rfl rfl (store_cv2 rfl rfl rfl rfl HJ.out.cu (by simp) (by simp [Value.oneCell']) ?_)
          intro w4 kp hg hsz hC
          have hl := HJ.out.lo
          have HC := Lib.hid hC; have HVv := Lib.hid (HV.out.keepN kp)
          have HW1 := Lib.hid (HJ.out.w1.blk HJ.out.cu (by decide) hg); have HW2 := Lib.hid (HJ.out.w2.blk HJ.out.cu (by decide) hg (fun _ _ _ hv => PN.keep hv kp)); have HP1 := Lib.hid (HJ.out.p1.blk HJ.out.cu (by decide) hg); have HP2 := Lib.hid (HJ.out.p2.blk HJ.out.cu (by decide) hg (fun _ _ _ hv => PN.keep hv kp))
          have HRs := Lib.hid (HJ.out.rs.grown hg (fun e => by injection e with e; omega))
          have HBf := Lib.hid (HJ.out.hb.grown hg HJ.out.hb.size (fun k e => by cases e; omega))
          have HL2 := Lib.hid (show w.heap.size ≤ g2 from HGg1.out.2)
          clear kp hg hsz hC HJ HV hl
          unfold wpOps
          go_upto_region 17 with (fail)
          refine wp_region_joins (kss := [[], [], [], []]) [(7, .pointer (some ⟨g7, 0, none⟩)), (8, .slice A1 a c1), (9, .slice D1 bn d1), (6, .int .i64 ((dn : Int)))] [EV (.agg #[.slice A2 a c2, .slice D2 bn d2, .bool s2, .slice A5 k5 c5, .slice B5 m5 d5]), EV (.slice A1 a c1), EV (.slice D1 bn d1), EV (.int .i64 ((dn : Int)))] 4 (by kernel_rfl) ⟨rfl, rfl, rfl, rfl, trivial⟩ [false, false, false, false] ?_ ?_ ?_
          · exact ⟨eI, eI, eI, eI, trivial⟩
          · refine ⟨?_, ?_, ?_, ?_, trivial⟩
            · exact fun aa ww hb he hd => ob_plain rfl (load_cov rfl he.1 (Blk.keep HC.out hb))
            · exact fun _ _ _ he hd => ob_mv rfl rfl he.2.1
            · exact fun _ _ _ he hd => ob_mv rfl rfl he.2.2.1
            · exact fun _ _ _ he hd => ob_mv rfl rfl he.2.2.2.1
          intro vs w5 hb hR
          have e69 : vs 0 = .agg #[.slice A2 a c2, .slice D2 bn d2, .bool s2, .slice A5 k5 c5, .slice B5 m5 d5] := hR 0 (by decide)
          have e70 : vs 1 = .slice A1 a c1 := hR 1 (by decide)
          have e71 : vs 2 = .slice D1 bn d1 := hR 2 (by decide)
          have e72 : vs 3 = .int .i64 ((dn : Int)) := hR 3 (by decide)
          clear hR
          simp only [putsL, Nat.zero_add, Nat.reduceAdd, List.take_succ_cons, List.take_zero, Act.put, List.setIfInBounds_toArray, List.set_cons_zero, List.set_cons_succ]
          rw [e69, e70, e71, e72]
          clear e69 e70 e71 e72
          replace HC := Lib.hid (HC.out.keep hb)
          replace HVv := Lib.hid (HVv.out.new hb)
          replace HW1 := Lib.hid (HW1.out.below hb)
          replace HW2 := Lib.hid (HW2.out.newN hb)
          replace HP1 := Lib.hid (HP1.out.below hb)
          replace HP2 := Lib.hid (HP2.out.newN hb)
          replace HRs := Lib.hid (HRs.out.keep hb)
          replace HBf := Lib.hid (bthen HBf.out hb HBf.out.size)
          clear hb
          show wpOps _ _ _ [4, 5, 6, 7] _ _
          refine wpOps_next rfl rfl (store_cov rfl rfl rfl rfl HRs.out (by simp) (by simp [Value.oneCell']) ?_)
          intro w6 kp hg hsz hX
          have HXa := Lib.hid hX
          replace HVv := Lib.hid (HVv.out.keepN kp)
          replace HW1 := Lib.hid (HW1.out.blk HRs.out (by decide) hg); replace HW2 := Lib.hid (HW2.out.blk HRs.out (by decide) hg (fun _ _ _ hv => PN.keep hv kp)); replace HP1 := Lib.hid (HP1.out.blk HRs.out (by decide) hg); replace HP2 := Lib.hid (HP2.out.blk HRs.out (by decide) hg (fun _ _ _ hv => PN.keep hv kp))
          replace HBf := Lib.hid (HBf.out.grown hg HBf.out.size (fun k e => by cases e; exact HL2.out))
          clear kp hg hsz hX HRs HC
          refine wpOps_next rfl rfl (wp_assign 3 (.tmp 70) rfl rfl (.slice A1 a c1) rfl ?_)
          simp only [Act.put, List.setIfInBounds_toArray, List.set_cons_zero, List.set_cons_succ]
          refine wpOps_next rfl rfl (wp_assign 4 (.tmp 71) rfl rfl (.slice D1 bn d1) rfl ?_)
          simp only [Act.put, List.setIfInBounds_toArray, List.set_cons_zero, List.set_cons_succ]
          refine wpOps_next rfl rfl (wp_assign 5 (.tmp 72) rfl rfl (.int .i64 (dn : Int)) rfl ?_)
          simp only [Act.put, List.setIfInBounds_toArray, List.set_cons_zero, List.set_cons_succ]
          unfold wpOps
          go_wp2_with fail
          refine bodyPost_ret (v := .tuple #[.agg #[.slice A2 a c2, .slice D2 bn d2, .bool s2, .slice A5 k5 c5, .slice B5 m5 d5], .slice A1 a c1, .slice D1 bn d1, .int .i64 (dn : Int)]) (results_cell_tmp3 Try.results14 _ _ _ _ _ (0, 0) _ rfl HXa.out Try.underlying33 rfl rfl) rfl ?_
          have ex : xs.take a = xs := List.take_of_length_le (by have := HX0.out.2.1.1; omega)
          have ey : ys.take bn = ys := List.take_of_length_le (by have := HY0.out.2.1.1; omega)
          have o1 := HW1.out.own; have o2 := HP1.out.own
          rw [ex] at o1; rw [ey] at o2
          obtain ⟨A1a, c1a, q1, hx1⟩ := Xs.of_own o1 (fun x hx => by have := HX0.out.2.2 x hx; omega)
          obtain ⟨D1a, d1a, q2, hy1⟩ := Xs.of_own o2 (fun x hx => by have := HY0.out.2.2 x hx; omega)
          cases q1; cases q2
          exact ⟨_, rfl, ⟨A2, c2, D2, d2, s2, A5, k5, c5, B5, m5, d5, _, _, _, _, rfl, HW2.out.rs.toW, HP2.out.rs.toW, HVv.out.rw, hx1, hy1⟩, HBf.out⟩
end Go.Proofs.Ytpnklmgfdihjfaa
namespace Go.Proofs.Ytpnklmgfdihjfaa
open Go.RowKit
set_option linter.unusedVariables false
set_option linter.unusedSimpArgs false

end Go.Proofs.Ytpnklmgfdihjfaa
namespace Go.Proofs.Ytpnklmgfdihjfaa
open Go.RowKit
set_option linter.unusedVariables false
set_option linter.unusedSimpArgs false

end Go.Proofs.Ytpnklmgfdihjfaa
namespace Go.Proofs.Ytpnklmgfdihjfaa
open Go.RowKit

end Go.Proofs.Ytpnklmgfdihjfaa
namespace Go.Proofs.Ytpnklmgfdihjfaa
open Go.RowKit

end Go.Proofs.Ytpnklmgfdihjfaa
namespace Go.Proofs.Ytpnklmgfdihjfaa

end Go.Proofs.Ytpnklmgfdihjfaa
namespace Go.Proofs.Ytpnklmgfdihjfaa
open Go.RowKit

end Go.Proofs.Ytpnklmgfdihjfaa
namespace Go.Proofs.Ytpnklmgfdihjfaa
open Go.RowKit

def S3 (l : List (Int × Int × Int)) : List Value := l.flatMap fun t => [Value.int .i64 t.1, Value.int .i64 t.2.1, Value.int .i64 t.2.2]
section
variable {ops : Array Oper} {rest : List Oper} {o : Oper} {a : Act} {w : World} {Q : Exit → Act → World → Prop}
end
section
variable {w : World} {n : Nat} {es : List Nat} {A : Option Addr} {c : Nat} {A4 : Option Addr} {c4 gb : Nat} {v : Value} {l : List (Int × Int × Int)} {r : List Nat} {g : List Bool} {wr : World}
end
end Go.Proofs.Ytpnklmgfdihjfaa
namespace Go.Proofs.Ytpnklmgfdihjfaa
open Go.RowKit

end Go.Proofs.Ytpnklmgfdihjfaa
namespace Go.Proofs.Ytpnklmgfdihjfaa
open Go.RowKit

end Go.Proofs.Ytpnklmgfdihjfaa
namespace Go.Proofs.Ytpnklmgfdihjfaa
open Go.RowKit
set_option linter.unusedVariables false
set_option linter.unusedSimpArgs false

end Go.Proofs.Ytpnklmgfdihjfaa
namespace Go.Proofs.Ytpnklmgfdihjfaa
open Go.RowKit
set_option linter.unusedVariables false
set_option linter.unusedSimpArgs false

theorem add_nv9 {w : World} {a b N M : Nat} {u v : Value} (h : Nv a N u w) (h' : Nv b M v w) (hab : a + b ≤ 10000) : Calls Try.prog 21 #[u, v] w (RV w (Nv (a + b) (N + M))) := by
  obtain ⟨A, k, c, rfl, h⟩ := h
  obtain ⟨B, m, d, rfl, h'⟩ := h'
  refine (add_n h h' hab).mono ?_
  rintro e w2 ⟨A3, k3, c3, rfl, h3, -, hb⟩
  exact ⟨_, rfl, ⟨A3, k3, c3, rfl, h3⟩, hb⟩
theorem store_i9 {o : Oper} {a : Act} {w : World} {t u : Tmp} {p : Addr} {v0 : Value} {x : Int} {K : Act → World → Prop} {Q : Exit → Act → World → Prop} (ho : o.op = .store 3 (.tmp t) (.tmp u)) (hd : o.dst = none) (ht : a.eval (.tmp t) = .pointer (some p)) (hu : a.eval (.tmp u) = .int .i64 x)
    (hc : w.cell? p = some v0) (hf : w.frozen? p = false) (h : K a (w.setCell p (.int .i64 x))) : o.wp Try.prog a w K Q := by
  unfold Oper.wp execOp
  rw [ho]
  simp only [ht, hu]
  go_simp
  exact h
theorem idx_i9 {o : Oper} {a : Act} {w : World} {t u : Tmp} {g n c k : Nat} (hk : k < n) (ho : o.op = .indexAddr 45 (.tmp t) (.tmp u)) (h : tv a t = .slice (some ⟨g, 0, none⟩) n c) (h2 : tv a u = .int .i64 (k : Int)) : gives Try.prog o a.eval w (fun v w' => v = .pointer (some ⟨g, k, none⟩) ∧ Below w.heap.size w w') := by
  have e : Addr.add ⟨g, 0, none⟩ k = ⟨g, k, none⟩ := by unfold Addr.add; split <;> simp_all
  refine gives_val (.pointer (some ⟨g, k, none⟩)) ?_ ⟨rfl, Below.refl _ _⟩
  have i1 : (0 : Int) ≤ (k : Int) := by omega
  have i2 : (k : Int) < (n : Int) := by omega
  unfold execOp
  rw [ho]
  simp only [eval_tmp, h, h2]
  go_simp
theorem conv_u8n {o : Oper} {a : Act} {w : World} {t : Tmp} {k : Nat} (hk : k ≤ 255) (ho : o.op = .convert 5 3 (.tmp t)) (hx : tv a t = .int .u8 (k : Int)) : gives Try.prog o a.eval w (fun v w' => v = .int .i64 (k : Int) ∧ Below w.heap.size w w') := by
  have e : IntKind.i64.wrap (k : Int) = (k : Int) := IntWalk.i64_in _ (by omega)
  refine gives_val (.int .i64 (k : Int)) ?_ ⟨rfl, Below.refl _ _⟩
  unfold execOp; rw [ho]; simp only [eval_tmp, hx]
  go_simp
theorem rem_i9 {o : Oper} {a : Act} {w : World} {t u : Tmp} {x y m : Nat} {T T2 : TypeId} (hy : 0 < y) (hx : x ≤ 255) (hm : m = x % y) (ho : o.op = .binOp .rem T (.tmp t) (.tmp u) T2) (h : tv a t = .int .i64 (x : Int)) (h2 : tv a u = .int .i64 (y : Int)) : gives Try.prog o a.eval w (fun v w' => v = .int .i64 (m : Int) ∧ Below w.heap.size w w') := by
  have h0 : ¬ ((y : Int) = 0) := by omega
  have e4 : ((x : Int) % (y : Int)) = (m : Int) := by omega
  have e1 : (x : Int).tmod (y : Int) = (m : Int) := by rw [IntWalk.rem_in _ _ (by omega)]; exact e4
  have hlt : x % y ≤ x := Nat.mod_le _ _
  have e3 : IntKind.i64.wrap (m : Int) = (m : Int) := IntWalk.i64_in _ (by omega)
  clear hm hlt
  refine gives_val (.int .i64 (m : Int)) ?_ ⟨rfl, Below.refl _ _⟩
  unfold execOp; rw [ho]; simp only [eval_tmp, h, h2]
  go_simp
  all_goals omega
theorem add_i9 {o : Oper} {a : Act} {w : World} {t u : Tmp} {x y : Nat} {T T2 : TypeId} (hb : x + y ≤ 1000000) (ho : o.op = .binOp .add T (.tmp t) (.tmp u) T2) (h : tv a t = .int .i64 (x : Int)) (h2 : tv a u = .int .i64 (y : Int)) : gives Try.prog o a.eval w (fun v w' => v = .int .i64 ((x + y : Nat) : Int) ∧ Below w.heap.size w w') := by
  have e2 : IntKind.i64.wrap ((x : Int) + (y : Int)) = ((x + y : Nat) : Int) := by rw [IntWalk.i64_in _ (by omega)]; omega
  refine gives_val (.int .i64 ((x + y : Nat) : Int)) ?_ ⟨rfl, Below.refl _ _⟩
  unfold execOp; rw [ho]; simp only [eval_tmp, h, h2]
  go_simp
/-- An element of an own row of ints is set. -/
theorem own_int_set {w : World} {base n k : Nat} {v : Value} {zs : List Int} (h : w.ownsRow base 3 1 v n (I64 zs)) (hn : n = zs.length) (hk : k < n) (hb : ∀ x ∈ zs, -9223372036854775808 ≤ x ∧ x ≤ 9223372036854775807) : ∃ (g cap : Nat) (cs : Array Value), v = .slice (some ⟨g, 0, none⟩) n cap ∧ base ≤ g ∧ Blk w g 3 cs ∧ k < cs.size ∧ w.cell? ⟨g, k, none⟩ = some (.int .i64 (inth zs k)) ∧ (∀ x, cs[k]? ≠ some (.int .u32 x)) ∧
    ∀ (x : Int), -9223372036854775808 ≤ x ∧ x ≤ 9223372036854775807 → ∀ B, g < B → Xs (w.setCell ⟨g, k, none⟩ (.int .i64 x)) B (some ⟨g, 0, none⟩) n (zs.set k x) := by
  rcases h.2 with ⟨-, h0⟩ | ⟨g, cap, cur, rfl, h1, h2, h3, h4, h5, h6⟩
  · omega
  · rw [Nat.mul_one] at h5 h6
    have hB : Blk w g 3 cur := h2
    have hsz : k < cur.size := by omega
    have hg : cur[k]? = some (.int .i64 (inth zs k)) := by
      have e : (cur.toList.take n)[k]? = cur.toList[k]? := by rw [List.getElem?_take, if_pos hk]
      rw [← Array.getElem?_toList, ← e, h6]
      unfold I64 inth
      rw [List.getElem?_map, List.getElem?_eq_getElem (by omega)]
      simp [List.getD, show k < zs.length by omega]
    refine ⟨g, cap, cur, rfl, h1, hB, hsz, by rw [hB.cell]; exact hg, fun x hx => (by rw [hg] at hx; injection hx with hx; injection hx with hx; cases hx), fun x hx B hlt => ?_⟩
    have hS := hB.set_ k (.int .i64 x)
    refine ⟨⟨by rw [I64_length, List.length_set]; omega, fun _ => ⟨_, rfl, hlt, fun j u hu => ?_⟩⟩, ⟨by rw [List.length_set]; exact hn, by have : cap ≤ maxLen := h4; unfold maxLen at this; omega⟩, fun y hy => ?_⟩
    · have e : Addr.add ⟨g, 0, none⟩ j = ⟨g, j, none⟩ := by unfold Addr.add; split <;> simp_all
      rw [e, hS.cell]
      have hj : j < n := by
        have := (List.getElem?_eq_some_iff.1 hu).1
        rw [I64_length, List.length_set] at this; omega
      have e2 : (cur.setIfInBounds k (.int .i64 x))[j]? = ((cur.toList.take n).set k (.int .i64 x))[j]? := by
        rw [← Array.getElem?_toList, Array.toList_setIfInBounds, ← List.take_set, List.getElem?_take, if_pos hj]
      rw [e2, h6]
      rw [show I64 (zs.set k x) = (I64 zs).set k (.int .i64 x) from by unfold I64; rw [List.map_set]] at hu
      exact hu
    · rcases List.mem_or_eq_of_mem_set hy with h7 | h7
      · exact hb y h7
      · rw [h7]; exact hx
theorem inth_set9 {zs : List Int} {k j : Nat} {x : Int} (hk : k < zs.length) : inth (zs.set k x) j = if j = k then x else inth zs j := by
  unfold inth
  by_cases e : j = k
  · subst e; rw [if_pos rfl]; simp [List.getD, hk]
  · rw [if_neg e]; simp [List.getD, List.getElem?_set, Ne.symm e]
theorem prodP_mono {zs zs' : List Int} {W : Nat → Rat} {D : Nat} : ∀ {n : Nat}, (∀ i, i < n → inth zs i ≤ inth zs' i) → prodP zs W D n ≤ prodP zs' W D n
  | 0, _ => Nat.le_refl _
  | n + 1, h => Nat.mul_le_mul (prodP_mono fun i hi => h i (by omega)) (Nat.pow_le_pow_left (by have := h n (by omega); omega) _)
theorem prodP_lt {zs : List Int} {W : Nat → Rat} {D : Nat} : ∀ {n : Nat}, (∀ i, i < n → (inth zs i).toNat ^ expW (W i) D < PB 60) → prodP zs W D n < PB (60 * n + 1)
  | 0, _ => PB_one (by omega)
  | n + 1, h => by
    rw [show 60 * (n + 1) + 1 = (60 * n + 1) + 60 by omega]
    exact PB_mul (prodP_lt fun i hi => h i (by omega)) (h n (by omega))
theorem root_fits {P D r n : Nat} (h : IsRoot P D r) (hD : D ≤ 9) (hP : P < PB (60 * n + 1)) (hn : n ≤ 5) : r ^ D < bigP ∧ (r + 1) ^ D < bigP := by
  have hb : PB (60 * n + 2) ≤ bigP := by rw [bigP]; exact pb_le (by rw [bigE_eq]; omega)
  have h1 : r ^ D < PB (60 * n + 1) := Nat.lt_of_le_of_lt h.1 hP
  refine ⟨Nat.lt_of_lt_of_le h1 (Nat.le_trans (PB_mono (by omega)) hb), ?_⟩
  rcases Nat.eq_zero_or_pos r with h0 | h0
  · rw [h0, Nat.zero_add, Nat.one_pow]
    exact Nat.lt_of_lt_of_le (PB_one (b := 60 * n + 2) (by omega)) hb
  · have h2 : (r + 1) ^ D ≤ (2 * r) ^ D := Nat.pow_le_pow_left (by omega) D
    rw [Nat.mul_pow] at h2
    have h3 : 2 ^ D < PB 1 := Nat.lt_of_le_of_lt (Nat.pow_le_pow_right (by decide) hD) (by rw [PB]; decide)
    have h4 := PB_mul h3 h1
    exact Nat.lt_of_lt_of_le (Nat.lt_of_le_of_lt h2 h4) (Nat.le_trans (PB_mono (by omega)) hb)
set_option maxRecDepth 100000 in
set_option maxHeartbeats 16000000 in
theorem grows_any9 (D a bn ca cb l cz : Nat) (AX AY AZ : Option Addr) (xs ys zs : List Int) (vN : Int) (q : Nat) (w : World) (hD : D ≤ 255) (hX : Ks .i8 128 w w.heap.size AX a xs) (hY : Ks .i8 128 w w.heap.size AY bn ys) (hv : -128 ≤ vN ∧ vN < 128) (hab : a ≤ 1048576 ∧ bn ≤ 1048576) (hZ : Ks .i16 32768 w w.heap.size AZ l zs) (hq : q ≤ 255) :
    Calls Try.prog 5 #[.agg #[.int .u8 (D : Int), .slice AX a ca, .slice AY bn cb, .int .i8 vN], .slice AZ l cz, .int .u8 (q : Int)] w fun e w' => e = .returned (.bool true) ∧ Below w.heap.size w w' := by
  have HX0 := Lib.hid hX; have HY0 := Lib.hid hY; have HVn := Lib.hid hv; have HZ0 := Lib.hid hZ; have HAb := Lib.hid hab; have HQ := Lib.hid hq; clear hX hY hv hZ hab hq
  go_enter Try.func5, Try.ntmps5
  go_upto_region 1 with (fail)
  have hbw := al w (.cells #[.int .u8 (D : Int), .slice AX a ca, .slice AY bn cb, .int .i8 vN] 43)
  have HU := Lib.hid (Blk.new w 43 #[.int .u8 (D : Int), .slice AX a ca, .slice AY bn cb, .int .i8 vN])
  have HB := Lib.hid hbw
  clear hbw
  generalize w.alloc (.cells #[.int .u8 (D : Int), .slice AX a ca, .slice AY bn cb, .int .i8 vN] 43) = w1 at *
  obtain ⟨g3, hg3⟩ : ∃ g3, g3 = w.heap.size := ⟨_, rfl⟩
  rw [← hg3] at HU ⊢
  have HGg3 := Lib.hid (show w.heap.size ≤ g3 from by omega)
  clear hg3
  have y0 := Blk.at0 HU.out (Below.refl _ _); have y1 := Blk.at1 HU.out (Below.refl _ _); have y2 := Blk.at2 HU.out (Below.refl _ _); have y3 := Blk.at3 HU.out (Below.refl _ _)
  by_cases ha5 : (a : Int) > 5
  · skip
    go_wp2_with fail
    refine (awake29_any _).mono ?_
    rintro e w3 ⟨rfl, hb⟩
    go_wp2_with fail
    go_ret
    exact ⟨rfl, bthen HB.out hb HB.out.size⟩
  by_cases hla : l = a
  rotate_left
  · have tl : ((l : Int) != (a : Int)) = true := by simp; omega
    go_wp2_with fail
    refine (awake29_any _).mono ?_
    rintro e w3 ⟨rfl, hb⟩
    go_wp2_with fail
    go_ret
    exact ⟨rfl, bthen HB.out hb HB.out.size⟩
  obtain rfl : l = a := hla
  by_cases hl0 : l = 0
  · have tl : ((l : Int) == 0) = true := by simp; omega
    go_wp2_with fail
    refine (awake29_any _).mono ?_
    rintro e w3 ⟨rfl, hb⟩
    go_wp2_with fail
    go_ret
    exact ⟨rfl, bthen HB.out hb HB.out.size⟩
  have tl : ((l : Int) == 0) = false := by simp; omega
  go_wp2_with fail
  refine (made_any D l bn ca cb AX AY xs ys vN w1 (HX0.out.below HB.out |>.more HB.out.size) (HY0.out.below HB.out |>.more HB.out.size) hD HVn.out (by have := HAb.out; omega)).mono ?_
  rintro e w2 ⟨v, rfl, ⟨A2, c2, D2, d2, s2, A5, k5, c5, B5, m5, d5, A1, c1, D1, d1, rfl, hw1, -, -, hx1, -⟩, hb⟩
  obtain ⟨dn, hdn⟩ : ∃ dn, dn = D % 6 + 1 := ⟨_, rfl⟩
  rw [← hdn] at hw1 ⊢
  have HDn := Lib.hid (show 0 < dn ∧ dn ≤ 6 by omega)
  clear hdn
  have HW1 := Lib.hid (show Rs w2 w2.heap.size A2 l (PW w2 2 (fun i => fr (inth xs i) dn)) from hw1); have HX1 := Lib.hid hx1; clear hw1 hx1
  replace HB := Lib.hid (bthen HB.out hb HB.out.size)
  replace HU := Lib.hid (HU.out.keep hb)
  clear hb
  clear y0 y1 y2 y3 tl
  go_upto_region 4 with (fail)
  clear HU
  have hbw := al w2 (.cells #[.slice A2 l c2, .slice D2 bn d2, .bool s2, .slice A5 k5 c5, .slice B5 m5 d5] 33)
  have HC := Lib.hid (Blk.new w2 33 #[.slice A2 l c2, .slice D2 bn d2, .bool s2, .slice A5 k5 c5, .slice B5 m5 d5])
  replace HB := Lib.hid (bthen HB.out hbw HB.out.size)
  replace HW1 := Lib.hid (Rs.newW HW1.out hbw)
  replace HX1 := Lib.hid (HX1.out.new hbw)
  clear hbw
  generalize w2.alloc (.cells #[.slice A2 l c2, .slice D2 bn d2, .bool s2, .slice A5 k5 c5, .slice B5 m5 d5] 33) = w3 at *
  obtain ⟨g7, hg7⟩ : ∃ g7, g7 = w2.heap.size := ⟨_, rfl⟩
  rw [← hg7] at HC ⊢
  have HGg7 := Lib.hid (show w2.heap.size ≤ g7 from by omega)
  clear hg7
  obtain ⟨b0, hb0⟩ : ∃ b0, b0 = w3.heap.size := ⟨_, rfl⟩
  have hst : LpS w b0 g7 g7 33 #[.slice A2 l c2, .slice D2 bn d2, .bool s2, .slice A5 k5 c5, .slice B5 m5 d5] #[.slice A2 l c2, .slice D2 bn d2, .bool s2, .slice A5 k5 c5, .slice B5 m5 d5] l A1 A2 xs (fun i => fr (inth xs i) dn) (.slice none 0 0) 0 (I64 (zs.take 0)) w3 := ⟨HC.out, HC.out, by rw [hb0]; exact HX1.out, by rw [hb0]; exact HW1.out, OwnC.nil _ _ _ _, HB.out, by have h1 := HC.out.lt; have h3 := HB.out.size; omega, by omega⟩
  have HI := Lib.hid hst
  clear hst hb0
  go_wp2_with fail
  go_loopg [48, 11] l (fun g iv lv wr => ∃ (i cl : Nat) (Al : Option Addr), iv = .int .i64 i ∧ lv = .slice Al i cl ∧ i + g = l ∧ Hid ((LpS w b0 g7 g7 33 #[.slice A2 l c2, .slice D2 bn d2, .bool s2, .slice A5 k5 c5, .slice B5 m5 d5] #[.slice A2 l c2, .slice D2 bn d2, .bool s2, .slice A5 k5 c5, .slice B5 m5 d5] l A1 A2 xs (fun i => fr (inth xs i) dn) (.slice Al i cl) i (I64 (zs.take i)) wr) ∧ ∀ j, j < i → (0 ≤ inth zs j ∧ inth zs j ≤ 4096) ∧ (0 ≤ inth xs j ∧ inth xs j ≤ 20)))
  case atStart => exact ⟨0, 0, none, rfl, rfl, by omega, Lib.hid ⟨HI.out, fun j hj => absurd hj (by omega)⟩⟩
  case round =>
    obtain ⟨i, cl, Al, rfl, rfl, hil, HJ⟩ := hrel
    clear HI HC HW1 HX1 HB
    have HI := Lib.hid HJ.out.1; have HP := Lib.hid HJ.out.2; clear HJ
    by_cases hi : i < l
    · have i1 : ((i : Int) < (l : Int)) := by omega
      obtain ⟨adZ, hAz, hbZ, hcZ⟩ := (HZ0.out.below HI.out.hb).at_ hi
      have hzb := HZ0.out.lt hi
      obtain ⟨zi, hzi⟩ : ∃ zi, zi = inth zs i := ⟨_, rfl⟩
      rw [← hzi] at hcZ hzb
      have HZi2 := Lib.hid hzi; have HZi := Lib.hid hzi; have HZb := Lib.hid hzb; clear hzi hzb
      have hbk : (Addr.add adZ i).block < wr.heap.size := by rw [block_of_add]; exact Nat.lt_of_lt_of_le hbZ HI.out.hb.size
      subst hAz
      obtain ⟨adX, hAx, -, hcX⟩ := HI.out.x1.at_ hi
      obtain ⟨xi, hxi⟩ : ∃ xi, xi = inth xs i := ⟨_, rfl⟩
      rw [← hxi] at hcX
      have HXi := Lib.hid hxi; clear hxi
      subst hAx
      by_cases c1 : zi < 0
      · skip
        have HB := Lib.hid HI.out.hb
        go_wp2_with fail
        refine (awake29_any _).mono ?_
        rintro e w9 ⟨rfl, hb⟩
        go_wp2_with fail
        go_ret
        exact ⟨rfl, bthen HB.out hb HB.out.size⟩
      by_cases c2 : zi > 4096
      · skip
        have HB := Lib.hid HI.out.hb
        go_wp2_with fail
        refine (awake29_any _).mono ?_
        rintro e w9 ⟨rfl, hb⟩
        go_wp2_with fail
        go_ret
        exact ⟨rfl, bthen HB.out hb HB.out.size⟩
      by_cases c3 : xi < 0
      · skip
        have HB := Lib.hid HI.out.hb
        go_wp2_with fail
        refine (awake29_any _).mono ?_
        rintro e w9 ⟨rfl, hb⟩
        go_wp2_with fail
        go_ret
        exact ⟨rfl, bthen HB.out hb HB.out.size⟩
      by_cases c4 : xi > 20
      · skip
        have HB := Lib.hid HI.out.hb
        go_wp2_with fail
        refine (awake29_any _).mono ?_
        rintro e w9 ⟨rfl, hb⟩
        go_wp2_with fail
        go_ret
        exact ⟨rfl, bthen HB.out hb HB.out.size⟩
      go_upto_region 10 with (fail)
      clear hcX
      refine wp_region_joins (kss := [[], [], [], [(1, 79), (2, 80)], [(3, 81)], [(4, 82)], [(5, 83)]]) [(11, .slice Al i cl), (1, .slice (some adZ) l cz), (12, .int .i64 ((i : Int)))] [EV (.slice Al i cl), EV (.slice (some adZ) l cz), EV (.int .i64 ((i : Int))), EV (.pointer (some (Addr.add adZ i))), EV (.int .i16 zi), EV (.int .i64 zi), fun zz w' => ∃ g0 : Nat, zz = .slice (some ⟨g0, 0, none⟩) 1 1 ∧ Blk w' g0 3 #[.int .i64 zi]] 7 (by kernel_rfl) ⟨rfl, rfl, rfl, trivial⟩ [false, false, false, false, false, false, false] ?_ ?_ ?_
      · exact ⟨eI, eI, eI, eI, eI, eI, fun _ _ _ ⟨g0, h1, h2⟩ hb => ⟨g0, h1, h2.keep hb⟩, trivial⟩
      · refine ⟨?_, ?_, ?_, ?_, ?_, ?_, ?_, trivial⟩
        · exact fun _ _ _ he hd => ob_mv rfl rfl he.1
        · exact fun _ _ _ he hd => ob_mv rfl rfl he.2.1
        · exact fun _ _ _ he hd => ob_mv rfl rfl he.2.2.1
        · exact fun aa ww hb he hd => ob_plain rfl (idx_i16 hi rfl hd.1 hd.2.1)
        · exact fun aa ww hb he hd => ob_plain rfl (load_i16 rfl hd.1 ((hb.cell (p := Addr.add adZ i) hbk).trans hcZ))
        · exact fun aa ww hb he hd => ob_plain rfl (conv_i16 HZb.out rfl hd.1)
        · exact fun aa ww hb he hd => ob_plain rfl (gives_bs_int rfl hd.1)
      intro vs w6 hb hR
      have e78 : vs 0 = .slice Al i cl := hR 0 (by decide)
      have r84 := hR 6 (by decide)
      clear hR
      simp only [putsL, Nat.zero_add, Nat.reduceAdd, List.take_succ_cons, List.take_zero, Act.put, List.setIfInBounds_toArray, List.set_cons_zero, List.set_cons_succ]
      rw [e78]
      clear e78
      obtain ⟨g0, e84, hz⟩ := r84
      rw [e84]
      clear e84 hcZ hbk
      replace HI := Lib.hid (HI.out.below hb)
      clear hb
      show wpOps _ _ _ [7, 8] _ _
      refine wpOps_next rfl rfl (wp_app_int9 _ _ rfl b0 (.slice Al i cl) i _ rfl HI.out.l g0 zi rfl hz (by omega) HI.out.sz ?_)
      intro v' w7 ho hgr hor kp
      obtain ⟨A8, c8, rfl⟩ := own_form ho.own
      show wpOps _ _ _ _ (Act.put _ (some 85) _) _
      simp only [Act.put, List.setIfInBounds_toArray, List.set_cons_zero, List.set_cons_succ]
      replace HI := Lib.hid (HI.out.push ho hgr kp)
      clear ho hgr hor kp hz
      refine wpOps_next rfl rfl (wp_assign 11 (.tmp 85) rfl rfl (.slice A8 (i + 1) c8) rfl ?_)
      simp only [Act.put, List.setIfInBounds_toArray, List.set_cons_zero, List.set_cons_succ]
      unfold wpOps
      go_wp2_with fail
      go_roundg (gk - 1)
      case measure => omega
      case rel => exact ⟨i + 1, c8, A8, by go_num, rfl, by omega, Lib.hid ⟨by rw [I64_take (by have := HZ0.out.2.1.1; omega), ← HZi.out]; exact HI.out, fun j hj => by
        by_cases e : j = i
        · subst e; rw [← HZi2.out, ← HXi.out]; omega
        · exact HP.out j (by omega)⟩⟩
    · obtain rfl : l = i := by omega
      have hzl := HZ0.out.2.1.1
      have hcong := HI.out
      rw [show zs.take l = zs from List.take_of_length_le (by omega)] at hcong
      replace HI := Lib.hid hcong; clear hcong
      have HZr := Lib.hid (show ∀ x ∈ zs, -9223372036854775808 ≤ x ∧ x ≤ 9223372036854775807 from fun x hx => by have := HZ0.out.2.2 x hx; omega)
      obtain ⟨w5, hw5⟩ : ∃ w5, w5 = wr := ⟨_, rfl⟩
      subst hw5
      have HBd := Lib.hid (bd_ok (xs := xs) (zs := zs) HDn.out.1 HDn.out.2 (n := l) (fun i hi => (HP.out i hi).2) (fun i hi => by have := (HP.out i hi).1; omega))
      have HOk := Lib.hid (show ∀ j, j < l → 0 ≤ inth zs j ∧ 0 ≤ fr (inth xs j) dn from fun j hj => ⟨(HP.out j hj).1.1, (fr_nn HDn.out.1).2 (HP.out j hj).2.1⟩)
      go_upto_region 12 with (fail)
      refine wp_region_seq (kss := [[], [], [(0, 88), (1, 89)], [(2, 90)], [(3, 87)], [(3, 87)], [(4, 91)], [(5, 92)]]) [(7, .pointer (some ⟨g7, 0, none⟩)), (11, .slice Al l cl)] [EV (.agg #[.slice A2 l c2, .slice D2 bn d2, .bool s2, .slice A5 k5 c5, .slice B5 m5 d5]), EV (.slice Al l cl), BnP (dlcm (fun i => fr (inth xs i) dn) l) (prodP zs (fun i => fr (inth xs i) dn) (dlcm (fun i => fr (inth xs i) dn) l) l), BnP (dlcm (fun i => fr (inth xs i) dn) l) (prodP zs (fun i => fr (inth xs i) dn) (dlcm (fun i => fr (inth xs i) dn) l) l), BnN (dlcm (fun i => fr (inth xs i) dn) l) (prodP zs (fun i => fr (inth xs i) dn) (dlcm (fun i => fr (inth xs i) dn) l) l), EV (.int .i64 0), BnN (dlcm (fun i => fr (inth xs i) dn) l) (prodP zs (fun i => fr (inth xs i) dn) (dlcm (fun i => fr (inth xs i) dn) l) l), EV (.int .i64 0)] (by kernel_rfl) ⟨rfl, rfl, trivial⟩ ?_ ?_ ?_
      · exact ⟨eI, eI, fun _ _ _ h hb => h.new hb, fun _ _ _ h hb => h.new hb, fun _ _ _ h hb => h.new hb, eI, fun _ _ _ h hb => h.new hb, eI, trivial⟩
      · refine ⟨?_, ?_, ?_, ?_, ?_, ?_, ?_, ?_, trivial⟩
        · exact fun aa ww hb he hd => ob_plain rfl (load_cov rfl he.1 (Blk.keep HI.out.cu hb))
        · exact fun _ _ _ he hd => ob_mv rfl rfl he.2.1
        · exact fun aa ww hb he hd => ob_plain rfl (gives_call2 _ _ _ _ rfl (by kernel_rfl) (by rw [show aa.eval (.tmp 88) = _ from hd.1, show aa.eval (.tmp 89) = _ from hd.2.1]; exact (cvbound_any l l bn c2 d2 cl 2 A2 D2 Al s2 A5 B5 k5 c5 m5 d5 (fun i => fr (inth xs i) dn) zs _ (Rs.moreB (LpS.below HI.out hb).w1 (LpS.below HI.out hb).sz) (by obtain ⟨Al2, cl2, q1, hxl⟩ := Xs.of_own (LpS.below HI.out hb).l.own HZr.out; cases q1; exact hxl) (by omega) (by omega) (by omega) (fun _ _ => HBd.out)).mono (fun _ _ ⟨v, h1, h2, h3⟩ => ⟨v, h1, BndR.good h2 rfl HOk.out, h3⟩)))
        · exact fun _ _ _ he hd => ob_mv rfl rfl hd.1
        · exact fun aa ww hb he hd => ob_plain rfl (ext_bn rfl hd.1)
        · exact fun aa ww hb he hd => ob_plain rfl (ext_bn1 rfl hd.1)
        · exact fun aa ww hb he hd => ob_plain rfl (gives_assign _ rfl ⟨hd.1, Below.refl _ _⟩)
        · exact fun aa ww hb he hd => ob_plain rfl (gives_assign _ rfl ⟨hd.1, Below.refl _ _⟩)
      intro vs w6 hb hR
      have r13 := hR 6 (by decide)
      have e14 : vs 7 = .int .i64 0 := hR 7 (by decide)
      clear hR
      simp only [putsL, Nat.zero_add, Nat.reduceAdd, List.take_succ_cons, List.take_zero, Act.put, List.setIfInBounds_toArray, List.set_cons_zero, List.set_cons_succ]
      rw [e14]
      clear e14
      replace HI := Lib.hid (LpS.below HI.out hb)
      clear hb
      obtain ⟨Ar, kr, cr, r, e13, hr1, hr2⟩ := r13
      rw [e13]
      clear e13
      have HR := Lib.hid hr1; have HRt := Lib.hid hr2; clear hr1 hr2
      have HFit := Lib.hid (root_fits HRt.out HBd.out.1 (prodP_lt fun i hi => (HBd.out.2 i hi).2.2) (by omega))
      go_upto_region 13 with (fail)
      refine wp_region_seq (kss := [[], [], [], [(0, 94), (1, 95), (2, 96)], [(3, 97)], [(4, 93)], [(4, 93)], [(5, 98)], [(6, 99)]]) [(13, .slice Ar kr cr), (7, .pointer (some ⟨g7, 0, none⟩)), (11, .slice Al l cl)] [Nv (600) (r), EV (.agg #[.slice A2 l c2, .slice D2 bn d2, .bool s2, .slice A5 k5 c5, .slice B5 m5 d5]), EV (.slice Al l cl), EV (.tuple #[.bool true, .int .i64 0]), EV (.tuple #[.bool true, .int .i64 0]), EV (.bool true), EV (.int .i64 0), EV (.bool true), EV (.int .i64 0)] (by kernel_rfl) ⟨rfl, rfl, rfl, trivial⟩ ?_ ?_ ?_
      · exact ⟨fun _ _ _ h hb => Nv.new h hb, eI, eI, eI, eI, eI, eI, eI, eI, trivial⟩
      · refine ⟨?_, ?_, ?_, ?_, ?_, ?_, ?_, ?_, ?_, trivial⟩
        · exact fun aa ww hb he hd => ob_plain rfl (gives_move _ rfl ⟨⟨_, _, _, he.1, HR.out.new hb⟩, Below.refl _ _⟩)
        · exact fun aa ww hb he hd => ob_plain rfl (load_cov rfl he.2.1 (Blk.keep HI.out.cu hb))
        · exact fun _ _ _ he hd => ob_mv rfl rfl he.2.2.1
        · exact fun aa ww hb he hd => ob_plain rfl (by obtain ⟨A7, k7, c7, e7, h7⟩ := hd.1; exact gives_call3 _ _ _ _ _ rfl (by kernel_rfl) (by rw [show aa.eval (.tmp 94) = _ from e7, show aa.eval (.tmp 95) = _ from hd.2.1, show aa.eval (.tmp 96) = _ from hd.2.2.1]; exact (cvwithin_any A7 k7 c7 _ (r) l l bn c2 d2 cl 2 A2 D2 Al s2 A5 B5 k5 c5 m5 d5 (fun i => fr (inth xs i) dn) zs _ (Rs.moreB (LpS.below HI.out hb).w1 (LpS.below HI.out hb).sz) (by obtain ⟨Al2, cl2, q1, hxl⟩ := Xs.of_own (LpS.below HI.out hb).l.own HZr.out; cases q1; exact hxl) (by omega) (by omega) (by omega) (fun _ _ => HBd.out) h7 (fun _ _ => HFit.out.1)).mono (fun _ _ ⟨v, h1, h2, h3⟩ => ⟨v, h1, (WinR.good h2 rfl HOk.out).trans (by rw [decide_eq_true HRt.out.1]), h3⟩)))
        · exact fun _ _ _ he hd => ob_mv rfl rfl hd.1
        · exact fun aa ww hb he hd => ob_plain rfl (ext_c rfl hd.1 rfl)
        · exact fun aa ww hb he hd => ob_plain rfl (ext_c rfl hd.1 rfl)
        · exact fun aa ww hb he hd => ob_plain rfl (gives_assign _ rfl ⟨hd.1, Below.refl _ _⟩)
        · exact fun aa ww hb he hd => ob_plain rfl (gives_assign _ rfl ⟨hd.1, Below.refl _ _⟩)
      intro vs w7 hb hR
      have e15 : vs 7 = .bool true := hR 7 (by decide)
      have e16 : vs 8 = .int .i64 0 := hR 8 (by decide)
      clear hR
      simp only [putsL, Nat.zero_add, Nat.reduceAdd, List.take_succ_cons, List.take_zero, Act.put, List.setIfInBounds_toArray, List.set_cons_zero, List.set_cons_succ]
      rw [e15, e16]
      clear e15 e16
      replace HI := Lib.hid (LpS.below HI.out hb)
      replace HR := Lib.hid (HR.out.new hb)
      clear hb
      go_upto_region 14 with (fail)
      refine wp_region_each (kss := [[], [], [(0, 101), (1, 102)], [], [], [(2, 103), (3, 104), (4, 105)], [(5, 106)], [(6, 100)], [(6, 100)], [(7, 107)], [(8, 108)]]) [(13, .slice Ar kr cr), (7, .pointer (some ⟨g7, 0, none⟩)), (11, .slice Al l cl)] [Nv (600) (r), Nv (2) (1), Nv (600 + 2) (r + 1), EV (.agg #[.slice A2 l c2, .slice D2 bn d2, .bool s2, .slice A5 k5 c5, .slice B5 m5 d5]), EV (.slice Al l cl), EV (.tuple #[.bool false, .int .i64 0]), EV (.tuple #[.bool false, .int .i64 0]), EV (.bool false), EV (.int .i64 0), EV (.bool false), EV (.int .i64 0)] (by kernel_rfl) (by kernel_rfl) ⟨rfl, rfl, rfl, trivial⟩ ?_ ?_ ?_
      · exact ⟨fun _ _ _ h hb => Nv.new h hb, fun _ _ _ h hb => Nv.new h hb, fun _ _ _ h hb => Nv.new h hb, eI, eI, eI, eI, eI, eI, eI, eI, trivial⟩
      · refine ⟨?_, ?_, ?_, ?_, ?_, ?_, ?_, ?_, ?_, ?_, ?_, trivial⟩
        · exact fun aa ww hb he hd => ob_plain rfl (gives_move _ rfl ⟨⟨_, _, _, he.1, HR.out.new hb⟩, Below.refl _ _⟩)
        · exact fun aa ww hb he hd => ob_plain rfl (gives_call1 _ _ _ rfl (by kernel_rfl) (nof_v (1) (by omega) _ rfl _))
        · exact fun aa ww hb he hd => ob_plain rfl (gives_call2 _ _ _ _ rfl (by kernel_rfl) (add_nv9 hd.1 hd.2.1 (by omega)))
        · exact fun aa ww hb he hd => ob_plain rfl (load_cov rfl he.2.1 (Blk.keep HI.out.cu hb))
        · exact fun _ _ _ he hd => ob_mv rfl rfl he.2.2.1
        · exact fun aa ww hb he hd => ob_plain rfl (by obtain ⟨A7, k7, c7, e7, h7⟩ := hd.1; exact gives_call3 _ _ _ _ _ rfl (by kernel_rfl) (by rw [show aa.eval (.tmp 103) = _ from e7, show aa.eval (.tmp 104) = _ from hd.2.1, show aa.eval (.tmp 105) = _ from hd.2.2.1]; exact (cvwithin_any A7 k7 c7 _ (r + 1) l l bn c2 d2 cl 2 A2 D2 Al s2 A5 B5 k5 c5 m5 d5 (fun i => fr (inth xs i) dn) zs _ (Rs.moreB (LpS.below HI.out hb).w1 (LpS.below HI.out hb).sz) (by obtain ⟨Al2, cl2, q1, hxl⟩ := Xs.of_own (LpS.below HI.out hb).l.own HZr.out; cases q1; exact hxl) (by omega) (by omega) (by omega) (fun _ _ => HBd.out) h7 (fun _ _ => HFit.out.2)).mono (fun _ _ ⟨v, h1, h2, h3⟩ => ⟨v, h1, (WinR.good h2 rfl HOk.out).trans (by rw [decide_eq_false (Nat.not_le.2 HRt.out.2)]), h3⟩)))
        · exact fun _ _ _ he hd => ob_mv rfl rfl hd.1
        · exact fun aa ww hb he hd => ob_plain rfl (ext_c rfl hd.1 rfl)
        · exact fun aa ww hb he hd => ob_plain rfl (ext_c rfl hd.1 rfl)
        · exact fun aa ww hb he hd => ob_plain rfl (gives_assign _ rfl ⟨hd.1, Below.refl _ _⟩)
        · exact fun aa ww hb he hd => ob_plain rfl (gives_assign _ rfl ⟨hd.1, Below.refl _ _⟩)
      intro vs w8 hb hR
      have e17 : vs 9 = .bool false := hR 9 (by decide)
      have e18 : vs 10 = .int .i64 0 := hR 10 (by decide)
      clear hR
      simp only [putsL, Nat.zero_add, Nat.reduceAdd, List.take_succ_cons, List.take_zero, Act.put, List.setIfInBounds_toArray, List.set_cons_zero, List.set_cons_succ]
      rw [e17, e18]
      clear e17 e18
      replace HI := Lib.hid (LpS.below HI.out hb)
      replace HR := Lib.hid (HR.out.new hb)
      clear hb
      obtain ⟨ix, hix⟩ : ∃ ix, ix = q % l := ⟨_, rfl⟩
      have hixl : ix < l := by rw [hix]; exact Nat.mod_lt _ (by omega)
      obtain ⟨gl, capl, cs, q1, hbg, hbl, hks, hcl, hcu, hset⟩ := own_int_set HI.out.l.own hzl hixl HZr.out
      cases q1
      obtain ⟨zk, hzk⟩ : ∃ zk : Nat, inth zs ix = (zk : Int) := ⟨(inth zs ix).toNat, by have := (HP.out ix hixl).1.1; omega⟩
      have hz4 : zk ≤ 4096 := by have := (HP.out ix hixl).1.2; omega
      rw [hzk] at hcl
      have hq255 := HQ.out
      have HIx := Lib.hid (And.intro hix (And.intro hixl hzk)); have HSet := Lib.hid hset; have HBl := Lib.hid hbl; have HBg := Lib.hid hbg; have HCu := Lib.hid hcu
      clear hset hbl hbg hcu hix hzk
      go_upto_region 15 with (fail)
      refine wp_region_joins (kss := [[], [], [(1, 110)], [], [(3, 112)], [(2, 111), (4, 113)], [(0, 109), (5, 114)], [(6, 115)], [], [(8, 117)], [(7, 116), (9, 118)], [(0, 109), (5, 114)]]) [(11, .slice (some ⟨gl, 0, none⟩) l cl), (2, .int .u8 ((q : Int)))] [EV (.slice (some ⟨gl, 0, none⟩) l cl), EV (.int .u8 ((q : Int))), EV (.int .i64 ((q : Int))), EV (.slice (some ⟨gl, 0, none⟩) l cl), EV (.int .i64 ((l : Int))), EV (.int .i64 ((ix : Int))), EV (.pointer (some ⟨gl, ix, none⟩)), EV (.int .i64 ((zk : Int))), EV (.int .u8 ((q : Int))), EV (.int .i64 ((q : Int))), EV (.int .i64 (((zk + q : Nat) : Int))), EV (.pointer (some ⟨gl, ix, none⟩))] 12 (by kernel_rfl) ⟨rfl, rfl, trivial⟩ [false, false, false, false, false, false, false, false, false, false, false, false] ?_ ?_ ?_
      · exact ⟨eI, eI, eI, eI, eI, eI, eI, eI, eI, eI, eI, eI, trivial⟩
      · refine ⟨?_, ?_, ?_, ?_, ?_, ?_, ?_, ?_, ?_, ?_, ?_, ?_, trivial⟩
        · exact fun _ _ _ he hd => ob_mv rfl rfl he.1
        · exact fun _ _ _ he hd => ob_mv rfl rfl he.2.1
        · exact fun aa ww hb he hd => ob_plain rfl (conv_u8n hq255 rfl hd.1)
        · exact fun _ _ _ he hd => ob_mv rfl rfl he.1
        · exact fun aa ww hb he hd => ob_plain rfl (len_c Try.underlying45 rfl hd.1)
        · exact fun aa ww hb he hd => ob_plain rfl (rem_i9 (by omega) hq255 HIx.out.1 rfl hd.1 hd.2.1)
        · exact fun aa ww hb he hd => ob_plain rfl (idx_i9 hixl rfl hd.1 hd.2.1)
        · exact fun aa ww hb he hd => ob_plain rfl (load_c3 rfl hd.1 ((hb.cell (p := ⟨gl, ix, none⟩) HBl.out.lt).trans hcl))
        · exact fun _ _ _ he hd => ob_mv rfl rfl he.2.1
        · exact fun aa ww hb he hd => ob_plain rfl (conv_u8n hq255 rfl hd.1)
        · exact fun aa ww hb he hd => ob_plain rfl (add_i9 (by omega) rfl hd.1 hd.2.1)
        · exact fun aa ww hb he hd => ob_plain rfl (idx_i9 hixl rfl hd.1 hd.2.1)
      intro vs w9 hb hR
      have e119 : vs 10 = .int .i64 (((zk + q : Nat) : Int)) := hR 10 (by decide)
      have e120 : vs 11 = .pointer (some ⟨gl, ix, none⟩) := hR 11 (by decide)
      clear hR
      simp only [putsL, Nat.zero_add, Nat.reduceAdd, List.take_succ_cons, List.take_zero, Act.put, List.setIfInBounds_toArray, List.set_cons_zero, List.set_cons_succ]
      rw [e119, e120]
      clear e119 e120
      have hlo := HI.out.lo
      have hown9 := (LpS.below HI.out hb).l.own
      obtain ⟨gl2, capl2, cs2, q2, hbg2, hbl2, hks2, hcl2, hcu2, hset2⟩ := own_int_set hown9 hzl hixl HZr.out
      cases q2
      replace HI := Lib.hid (LpS.below HI.out hb)
      replace HR := Lib.hid (HR.out.new hb)
      clear hb
      show wpOps _ _ _ [12] _ _
      refine wpOps_next rfl rfl (store_i9 rfl rfl rfl rfl hcl2 (hbl2.frozen _) ?_)
      have gr := only_setCell (World.grownBy.refl w9 (some gl)) (p := ⟨gl, ix, none⟩) (.inl rfl) (.int .i64 ((zk + q : Nat) : Int))
      have kp := KeepsN.blk hbl2 (i := ix) hks2 (fun x hx => hcu2 x hx) (.int .i64 ((zk + q : Nat) : Int))
      have HC := Lib.hid (HI.out.cu.grown gr (fun e => by injection e with e; omega)); have HW1 := Lib.hid (Rs.grownB HI.out.w1 gr HI.out.sz (fun k e => by cases e; exact hbg2) kp); have HLx := Lib.hid (hset2 ((zk + q : Nat) : Int) (by omega) w9.heap.size hbl2.lt)
      replace HR := Lib.hid (HR.out.keepN kp)
      have HB := Lib.hid (HI.out.hb.grown gr HI.out.hb.size (fun k e => by cases e; omega))
      have HSz := Lib.hid (show b0 ≤ (w9.setCell ⟨gl, ix, none⟩ (.int .i64 ((zk + q : Nat) : Int))).heap.size ∧ w9.heap.size ≤ (w9.setCell ⟨gl, ix, none⟩ (.int .i64 ((zk + q : Nat) : Int))).heap.size from ⟨Nat.le_trans HI.out.sz gr.size, gr.size⟩)
      clear gr kp hset2 hcu2 hcl2 hbl2 hbg2 hks2 HI hcl HSet HBl HBg HCu hlo
      generalize w9.setCell ⟨gl, ix, none⟩ (.int .i64 ((zk + q : Nat) : Int)) = wA at *
      unfold wpOps
      replace HW1 := Lib.hid (Rs.moreB HW1.out HSz.out.1); replace HLx := Lib.hid (HLx.out.more HSz.out.2)
      obtain ⟨zs', hzs⟩ : ∃ zs', zs' = zs.set ix ((zk + q : Nat) : Int) := ⟨_, rfl⟩
      rw [← hzs] at HLx
      have HZz := Lib.hid (show ∀ j, j < l → inth zs j ≤ inth zs' j ∧ inth zs' j ≤ 5000 from fun j hj => by
        rw [hzs, inth_set9 (by omega)]
        have h1 := (HP.out j hj).1
        split
        · rename_i e; subst e; rw [HIx.out.2.2] at h1 ⊢; have := HQ.out; omega
        · omega)
      clear hzs
      have HBd2 := Lib.hid (bd_ok (xs := xs) (zs := zs') HDn.out.1 HDn.out.2 (n := l) (fun i hi => (HP.out i hi).2) (fun i hi => by have := (HZz.out i hi).2; omega))
      have HOk2 := Lib.hid (show ∀ j, j < l → 0 ≤ inth zs' j ∧ 0 ≤ fr (inth xs j) dn from fun j hj => ⟨by have := (HP.out j hj).1.1; have := (HZz.out j hj).1; omega, (fr_nn HDn.out.1).2 (HP.out j hj).2.1⟩)
      go_upto_region 16 with (fail)
      refine wp_region_seq (kss := [[], [], [(0, 122), (1, 123)], [(2, 124)], [(3, 121)], [(3, 121)], [(4, 125)], [(5, 126)]]) [(7, .pointer (some ⟨g7, 0, none⟩)), (11, .slice (some ⟨gl, 0, none⟩) l cl)] [EV (.agg #[.slice A2 l c2, .slice D2 bn d2, .bool s2, .slice A5 k5 c5, .slice B5 m5 d5]), EV (.slice (some ⟨gl, 0, none⟩) l cl), BnP (dlcm (fun i => fr (inth xs i) dn) l) (prodP zs' (fun i => fr (inth xs i) dn) (dlcm (fun i => fr (inth xs i) dn) l) l), BnP (dlcm (fun i => fr (inth xs i) dn) l) (prodP zs' (fun i => fr (inth xs i) dn) (dlcm (fun i => fr (inth xs i) dn) l) l), BnN (dlcm (fun i => fr (inth xs i) dn) l) (prodP zs' (fun i => fr (inth xs i) dn) (dlcm (fun i => fr (inth xs i) dn) l) l), EV (.int .i64 0), BnN (dlcm (fun i => fr (inth xs i) dn) l) (prodP zs' (fun i => fr (inth xs i) dn) (dlcm (fun i => fr (inth xs i) dn) l) l), EV (.int .i64 0)] (by kernel_rfl) ⟨rfl, rfl, trivial⟩ ?_ ?_ ?_
      · exact ⟨eI, eI, fun _ _ _ h hb => h.new hb, fun _ _ _ h hb => h.new hb, fun _ _ _ h hb => h.new hb, eI, fun _ _ _ h hb => h.new hb, eI, trivial⟩
      · refine ⟨?_, ?_, ?_, ?_, ?_, ?_, ?_, ?_, trivial⟩
        · exact fun aa ww hb he hd => ob_plain rfl (load_cov rfl he.1 (Blk.keep HC.out hb))
        · exact fun _ _ _ he hd => ob_mv rfl rfl he.2.1
        · exact fun aa ww hb he hd => ob_plain rfl (gives_call2 _ _ _ _ rfl (by kernel_rfl) (by rw [show aa.eval (.tmp 122) = _ from hd.1, show aa.eval (.tmp 123) = _ from hd.2.1]; exact (cvbound_any l l bn c2 d2 cl 2 A2 D2 (some ⟨gl, 0, none⟩) s2 A5 B5 k5 c5 m5 d5 (fun i => fr (inth xs i) dn) zs' _ (Rs.newW HW1.out hb) (HLx.out.new hb) (by omega) (by omega) (by omega) (fun _ _ => HBd2.out)).mono (fun _ _ ⟨v, h1, h2, h3⟩ => ⟨v, h1, BndR.good h2 rfl HOk2.out, h3⟩)))
        · exact fun _ _ _ he hd => ob_mv rfl rfl hd.1
        · exact fun aa ww hb he hd => ob_plain rfl (ext_bn rfl hd.1)
        · exact fun aa ww hb he hd => ob_plain rfl (ext_bn1 rfl hd.1)
        · exact fun aa ww hb he hd => ob_plain rfl (gives_assign _ rfl ⟨hd.1, Below.refl _ _⟩)
        · exact fun aa ww hb he hd => ob_plain rfl (gives_assign _ rfl ⟨hd.1, Below.refl _ _⟩)
      intro vs wB hb hR
      have r19 := hR 6 (by decide)
      have e20 : vs 7 = .int .i64 0 := hR 7 (by decide)
      clear hR
      simp only [putsL, Nat.zero_add, Nat.reduceAdd, List.take_succ_cons, List.take_zero, Act.put, List.setIfInBounds_toArray, List.set_cons_zero, List.set_cons_succ]
      rw [e20]
      clear e20
      replace HC := Lib.hid (HC.out.keep hb)
      replace HW1 := Lib.hid (Rs.newW HW1.out hb)
      replace HLx := Lib.hid (HLx.out.new hb)
      replace HB := Lib.hid (bthen HB.out hb HB.out.size)
      replace HR := Lib.hid (HR.out.new hb)
      clear hb
      obtain ⟨As, ks, cs9, r', e19, hs1, hs2⟩ := r19
      rw [e19]
      clear e19
      have HS := Lib.hid hs1
      have HLe := Lib.hid (show r ≤ r' from IsRoot.mono HRt.out hs2 (Nat.pos_of_ne_zero (dlcm_ne _ _)) (prodP_mono fun i hi => (HZz.out i hi).1))
      clear hs1 hs2
      go_wp2_with fail
      refine (cmp_n HR.out HS.out).mono ?_
      rintro e wC ⟨rfl, hb⟩
      replace HC := Lib.hid (HC.out.keep hb)
      replace HW1 := Lib.hid (Rs.newW HW1.out hb)
      replace HLx := Lib.hid (HLx.out.new hb)
      replace HB := Lib.hid (bthen HB.out hb HB.out.size)
      replace HR := Lib.hid (HR.out.new hb)
      replace HS := Lib.hid (HS.out.new hb)
      clear hb
      have t0 := cmp_le1 HLe.out
      go_wp2_with fail
      refine (awake29_any _).mono ?_
      rintro e wD ⟨rfl, hb⟩
      go_wp2_with fail
      go_ret
      exact ⟨rfl, bthen HB.out hb HB.out.size⟩
theorem coverGrows_walk (D a bn ca cb : Nat) (AX AY : Option Addr) (xs ys : List Int) (vN : Int) (AZ : Option Addr) (l cz : Nat) (zs : List Int) (x : Int) (w : World) (hD : D ≤ 255) (hX : Ks .i8 128 w w.heap.size AX a xs) (hY : Ks .i8 128 w w.heap.size AY bn ys) (hv : -128 ≤ vN ∧ vN < 128) (ha : a ≤ 1048576) (hb : bn ≤ 1048576) (hZ : Ks .i16 32768 w w.heap.size AZ l zs) (wx : 0 ≤ x ∧ x ≤ 255) :
    Calls Try.prog 5 #[.agg #[.int .u8 (D : Int), .slice AX a ca, .slice AY bn cb, .int .i8 vN], .slice AZ l cz, .int .u8 x] w fun e w' => e = .returned (.bool true) ∧ Below w.heap.size w w' := by
  obtain ⟨q, rfl⟩ : ∃ q : Nat, x = (q : Int) := ⟨x.toNat, by omega⟩
  exact grows_any9 D a bn ca cb l cz AX AY AZ xs ys zs vN q w hD hX hY hv ⟨ha, hb⟩ hZ (by omega)
end Go.Proofs.Ytpnklmgfdihjfaa
