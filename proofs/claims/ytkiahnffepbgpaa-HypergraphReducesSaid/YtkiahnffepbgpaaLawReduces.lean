/-
  The walk of law26.HypergraphReduces. Printed by gen/reduces.py.
-/
import Derived.Test.YtkiahnffepbgpaaAwk26
import Derived.Test.YtkiahnffepbgpaaRAcy
import Derived.Test.YtkiahnffepbgpaaRegG
import Derived.BigRegion
import Derived.Deep.RegionLaw
import Derived.IntWalk
namespace Go.Proofs.Ytkiahnffepbgpaa
open Go.RowKit
set_option linter.unusedSimpArgs false
set_option linter.unusedVariables false

def RdM (w5 : World) (m : Nat) (A7 : Option Addr) (c7 gb : Nat) (r : List Nat) (g : List Bool) (wr : World) : Prop :=
  wr.ownsRow w5.heap.size 36 1 (.slice A7 m c7) m (U32 r) ∧ Blk wr gb 4 (brow g) ∧ Below w5.heap.size w5 wr ∧ w5.heap.size ≤ gb ∧ r.length = m ∧ g.length = m
section
variable {w5 : World} {m : Nat} {A7 : Option Addr} {c7 gb : Nat} {r : List Nat} {g : List Bool} {wr : World}
theorem RdM.alloc (h : RdM w5 m A7 c7 gb r g wr) (o : Obj) : RdM w5 m A7 c7 gb r g (wr.alloc o) :=
  ⟨h.1.alloc o, h.2.1.alloc o, h.2.2.1.alloc h.2.2.1.size o, h.2.2.2⟩
theorem RdM.drew (h : RdM w5 m A7 c7 gb r g wr) : RdM w5 m A7 c7 gb r g wr.drew := ⟨h.1, h.2.1, h.2.2.1.drew, h.2.2.2⟩
theorem RdM.drewN (h : RdM w5 m A7 c7 gb r g wr) (k : Nat) : RdM w5 m A7 c7 gb r g (wr.drewN k) := ⟨own_drewN h.1 k, h.2.1.drewN k, below_drewN h.2.2.1 k, h.2.2.2⟩
theorem RdM.row {g4 : Nat} (h : RdM w5 m (some ⟨g4, 0, none⟩) c7 gb r g wr) (e x : Nat) (h4 : w5.heap.size ≤ g4) (hne : g4 ≠ gb) : RdM w5 m (some ⟨g4, 0, none⟩) c7 gb (r.set e x) g (wr.setCell ⟨g4, e, none⟩ (.int .u32 (x : Int))) := by
  obtain ⟨h1, h2⟩ := World.ownsRow.stored h.1 e (.int .u32 (x : Int))
  rw [U32_set] at h1
  exact ⟨h1, h.2.1.far (p := ⟨g4, e, none⟩) (Ne.symm hne) _, h.2.2.1.setCell (p := ⟨g4, e, none⟩) h4 _, h.2.2.2.1, by rw [List.length_set]; exact h.2.2.2.2.1, h.2.2.2.2.2⟩
theorem RdM.gone (h : RdM w5 m A7 c7 gb r g wr) (e : Nat) : RdM w5 m A7 c7 gb r (g.set e true) (wr.setCell ⟨gb, e, none⟩ (.bool true)) := by
  have hb := h.2.1.set_ e (.bool true)
  rw [brow_set] at hb
  exact ⟨own_far h.1 h.2.1 (by decide) e _, hb, h.2.2.1.setCell (p := ⟨gb, e, none⟩) h.2.2.2.1 _, h.2.2.2.1, h.2.2.2.2.1, by rw [List.length_set]; exact h.2.2.2.2.2⟩
end
theorem S3_get {l : List (Int × Int × Int)} {k : Nat} (h : k < l.length) : (S3 l)[3 * k]? = some (.int .i64 (l.getD k (0, 0, 0)).1) ∧ (S3 l)[3 * k + 1]? = some (.int .i64 (l.getD k (0, 0, 0)).2.1) ∧ (S3 l)[3 * k + 2]? = some (.int .i64 (l.getD k (0, 0, 0)).2.2) := by
  induction l generalizing k with
  | nil => simp at h
  | cons t l ih =>
    cases k with
    | zero => simp [S3]
    | succ k =>
      have := ih (k := k) (by simpa using h)
      simp only [S3, List.flatMap_cons, List.getD_cons_succ] at this ⊢
      have e : ∀ j, ([Value.int .i64 t.1, Value.int .i64 t.2.1, Value.int .i64 t.2.2] ++ List.flatMap (fun t => [Value.int .i64 t.1, Value.int .i64 t.2.1, Value.int .i64 t.2.2]) l)[3 * (k + 1) + j]? = (List.flatMap (fun t : Int × Int × Int => [Value.int .i64 t.1, Value.int .i64 t.2.1, Value.int .i64 t.2.2]) l)[3 * k + j]? := by
        intro j
        rw [List.getElem?_append_right (by simp; omega)]
        congr 1
        simp; omega
      exact ⟨(e 0).trans this.1, (e 1).trans this.2.1, (e 2).trans this.2.2⟩
theorem Run.lt {n : Nat} {r0 : List Nat} {g0 : List Bool} {l : List (Int × Int × Int)} {r : List Nat} {g : List Bool} (h0 : ∀ y ∈ r0, y < 2 ^ n) (h : Run n r0 g0 l r g) : ∀ y ∈ r, y < 2 ^ n := by
  induction h with
  | nil => exact h0
  | abs _ _ ih => exact set_lt ih (pow2_pos n)
  | iso _ _ hi ih => exact set_lt ih (Nat.lt_of_le_of_lt Nat.and_le_left (ih _ (nth_mem hi.2.1)))
theorem Run.len {n : Nat} {r0 : List Nat} {g0 : List Bool} (hl : g0.length = r0.length) (hn : n ≤ 32) (h0 : ∀ y ∈ r0, y < 2 ^ n) {l : List (Int × Int × Int)} {r : List Nat} {g : List Bool} (h : Run n r0 g0 l r g) : l.length + meas n r g ≤ meas n r0 g0 := by
  induction h with
  | nil => simp
  | @abs l r g e f h1 ha ih =>
    have h2 := meas_abs (n := n) (by rw [h1.lengths.1, h1.lengths.2, hl]) ha
    simp only [List.length_append, List.length_singleton]
    omega
  | @iso l r g e v h1 ha hi ih =>
    have h2 := meas_iso (n := n) (g := g) hn (fun x hx => Nat.lt_of_lt_of_le (h1.lt h0 x hx) (two_pow_le (show n ≤ 32 by omega))) hi
    simp only [List.length_append, List.length_singleton]
    omega
theorem ac_one {a b : Bool} {P : Prop} (h : a = true ↔ P) (h2 : b = true ↔ P) : a = b := by rw [Bool.eq_iff_iff, h, h2]

set_option maxRecDepth 100000 in
set_option maxHeartbeats 8000000 in
theorem reduces_main (n : Nat) (A : Option Addr) (es : List Nat) (len c : Nat) (w : World) (hr : Es w w.heap.size A len es) (hl : len ≤ 12) (hcc : checkCode n es = 0) :
    Calls Try.prog 3 #[.agg #[.int .i64 n, .slice A len c]] w fun e w' => e = .returned (.bool true) ∧ Below w.heap.size w w' := by
  obtain ⟨_, hn32, hl64, hes⟩ := checkCode_zero hcc
  have hlen := hr.len
  subst hlen
  have HES := Lib.hid (show ∀ e ∈ es, e < 2 ^ n by simpa using hes); clear hes
  have HR := Lib.hid hr; clear hr
  have HCC := Lib.hid hcc; clear hcc
  have HG := Lib.hid (GB.made w 24 (.int .i64 n) (.slice A es.length c))
  have HW := Lib.hid (al w (.cells #[.int .i64 n, .slice A es.length c] 24))
  go_enter Try.func3, Try.ntmps3
  go_wp2_with fail
  refine (of_any n A es.length c _).mono ?_
  rintro e w1 ⟨rfl, hb⟩
  replace HG := Lib.hid (HG.out.new hb)
  have HB := Lib.hid (bthen HW.out hb (by simp)); clear hb HW
  have g0 := HG.out.c0; have g1 := HG.out.c1; have gl := HG.out.lt
  go_wp2_with fail
  refine (rcheck_any n A es es.length c _ (HR.out.new HB.out)).mono ?_
  rintro e w2 ⟨rfl, hb⟩
  rw [HCC.out]
  replace HG := Lib.hid (HG.out.new hb)
  replace HB := Lib.hid (bthen HB.out hb HB.out.size); clear hb g0 g1 gl
  have g0 := HG.out.c0; have g1 := HG.out.c1; have gl := HG.out.lt
  go_wp2_with fail
  refine (reduce_ok n A es es.length c _ (HR.out.new HB.out) HCC.out).mono ?_
  rintro e w3 ⟨l, r, g, A6, c6, A4, c4, hrun, ha, hi, rfl, hown, hE, hb⟩
  have HRUN := Lib.hid (And.intro hrun (And.intro ha hi)); clear hrun ha hi
  have HS := Lib.hid (own_lower (base' := 0) hown (Nat.zero_le _)); clear hown
  have HE := Lib.hid hE; clear hE
  replace HG := Lib.hid (HG.out.new hb)
  replace HB := Lib.hid (bthen HB.out hb HB.out.size); clear hb g0 g1 gl
  have g0 := HG.out.c0; have g1 := HG.out.c1; have gl := HG.out.lt
  go_wp2_with fail
  refine (of_any n A es.length c _).mono ?_
  rintro e w4 ⟨rfl, hb⟩
  replace HG := Lib.hid (HG.out.new hb)
  replace HS := Lib.hid (own_below HS.out hb)
  replace HE := Lib.hid (HE.out.new hb)
  replace HB := Lib.hid (bthen HB.out hb HB.out.size); clear hb g0 g1 gl
  have g0 := HG.out.c0; have g1 := HG.out.c1; have gl := HG.out.lt
  go_wp2_with fail
  refine (rreduce_any n A es es.length c _ (HR.out.new HB.out) HCC.out).mono ?_
  rintro e wn ⟨l', r', g', B6, d6, B4, d4, hrun, ha, hi, rfl, hown, hE, hb⟩
  obtain ⟨rfl, rfl, rfl⟩ := HRUN.out.1.final HRUN.out.2 hrun ⟨ha, hi⟩
  clear hrun ha hi
  have HT := Lib.hid (own_lower (base' := 0) hown (Nat.zero_le _)); clear hown
  have HF := Lib.hid hE; clear hE
  replace HG := Lib.hid (HG.out.new hb)
  replace HS := Lib.hid (own_below HS.out hb)
  replace HE := Lib.hid (HE.out.new hb)
  replace HB := Lib.hid (bthen HB.out hb HB.out.size); clear hb g0 g1 gl
  obtain ⟨ab, hab⟩ : ∃ b : Bool, (b = true ↔ Acyc n es) := by
    by_cases h : Acyc n es
    · exact ⟨true, by simp [h]⟩
    · exact ⟨false, by simp [h]⟩
  have HAB := Lib.hid hab; clear hab
  have EQ : Hid (∀ W, Below wn.heap.size wn W → Calls Try.prog 14 #[.slice A4 es.length c4, .slice B4 es.length d4] W fun e w' => e = .returned (.bool true) ∧ Below W.heap.size W w') := Lib.hid fun W hW => (equal_u32 A4 B4 r r _ _ _ _ W (HE.out.new hW) (HF.out.new hW)).mono (by rintro e w9 ⟨rfl, h9⟩; exact ⟨by simp, h9⟩)
  have AC : Hid (∀ W, Below wn.heap.size wn W → Calls Try.prog 15 #[.agg #[.int .i64 n, .slice A es.length c]] W fun e w' => e = .returned (.bool ab) ∧ Below W.heap.size W w') := Lib.hid fun W hW => (acyclic_ok n A es es.length c W (HR.out.new (bthen HB.out hW HB.out.size)) HCC.out).mono (by rintro e w9 ⟨b, hb0, rfl, h9⟩; exact ⟨by rw [ac_one hb0 HAB.out], h9⟩)
  have RAC : Hid (∀ W, Below wn.heap.size wn W → Calls Try.prog 16 #[.agg #[.int .i64 n, .slice A es.length c]] W fun e w' => e = .returned (.bool ab) ∧ Below W.heap.size W w') := Lib.hid fun W hW => (racyclic_ok n A es es.length c W (HR.out.new (bthen HB.out hW HB.out.size)) HCC.out).mono (by rintro e w9 ⟨b, hb0, rfl, h9⟩; exact ⟨by rw [ac_one hb0 HAB.out], h9⟩)
  go_upto_region 5 with (fail)
  refine wp_region_each (kss := [[], [], [(0, 35), (1, 36)], [(2, 37)], [(3, 38)], [(4, 39)], [(4, 39), (5, 40)], [(4, 39)], [(4, 39), (7, 42)], [(4, 39), (6, 41), (8, 43)], [(4, 39), (9, 44)], [(10, 45)], [(11, 46)], [(11, 46), (12, 47)], [(11, 46)], [(11, 46), (14, 49)], [(11, 46), (15, 50)], [(11, 46), (13, 48), (16, 51)], [(11, 46), (17, 52)]]) [(4, .slice A4 (es.length) c4), (6, .slice B4 (es.length) d4), (3, .slice A6 (l.length) c6), (5, .slice B6 (l.length) d6), (1, .pointer (some ⟨w.heap.size, 0, none⟩))] [fun zz _ => zz = .slice A4 (es.length) c4, fun zz _ => zz = .slice B4 (es.length) d4, fun zz _ => zz = .bool true, fun zz _ => zz = .bool false, fun zz _ => zz = .bool false, fun zz _ => zz = .slice A6 (l.length) c6, fun zz _ => zz = .int .i64 (l.length), fun zz _ => zz = .slice B6 (l.length) d6, fun zz _ => zz = .int .i64 (l.length), fun zz _ => zz = .bool false, fun zz _ => zz = .bool false, fun zz _ => zz = .bool false, fun zz _ => zz = .agg #[.int .i64 ((n : Int)), .slice A (es.length) c], fun zz _ => zz = .bool ab, fun zz _ => zz = .agg #[.int .i64 ((n : Int)), .slice A (es.length) c], fun zz _ => zz = .agg #[.int .i64 ((n : Int)), .slice A (es.length) c], fun zz _ => zz = .bool ab, fun zz _ => zz = .bool false, fun zz _ => zz = .bool false] (by kernel_rfl) (by kernel_rfl) ⟨rfl, rfl, rfl, rfl, rfl, trivial⟩ ?_ ?_ ?_
  · exact ⟨fun _ _ _ h _ => h, fun _ _ _ h _ => h, fun _ _ _ h _ => h, fun _ _ _ h _ => h, fun _ _ _ h _ => h, fun _ _ _ h _ => h, fun _ _ _ h _ => h, fun _ _ _ h _ => h, fun _ _ _ h _ => h, fun _ _ _ h _ => h, fun _ _ _ h _ => h, fun _ _ _ h _ => h, fun _ _ _ h _ => h, fun _ _ _ h _ => h, fun _ _ _ h _ => h, fun _ _ _ h _ => h, fun _ _ _ h _ => h, fun _ _ _ h _ => h, fun _ _ _ h _ => h, trivial⟩
  · refine ⟨?_, ?_, ?_, ?_, ?_, ?_, ?_, ?_, ?_, ?_, ?_, ?_, ?_, ?_, ?_, ?_, ?_, ?_, ?_, trivial⟩
    · exact fun aa ww hb he hd => ob_plain rfl (gives_move _ rfl ⟨he.1, Below.refl _ _⟩)
    · exact fun aa ww hb he hd => ob_plain rfl (gives_move _ rfl ⟨he.2.1, Below.refl _ _⟩)
    · exact fun aa ww hb he hd => ob_plain rfl (gives_call2 _ _ _ _ rfl (by kernel_rfl) (by rw [show aa.eval (.tmp 35) = .slice A4 (es.length) c4 from hd.1, show aa.eval (.tmp 36) = .slice B4 (es.length) d4 from hd.2.1]; exact rv_one (EQ.out _ hb)))
    · exact fun aa ww hb he hd => ob_plain rfl (gives_not true _ _ rfl hd.1 ⟨rfl, Below.refl _ _⟩)
    · exact fun aa ww hb he hd => ob_plain rfl (gives_move _ rfl ⟨hd.1, Below.refl _ _⟩)
    · exact fun aa ww hb he hd => ob_on 39 rfl (by kernel_rfl) hd.1 (gives_move _ rfl ⟨he.2.2.1, Below.refl _ _⟩)
    · exact fun aa ww hb he hd => ob_on 39 rfl (by kernel_rfl) hd.1 (len_c Try.underlying29 rfl hd.2.1)
    · exact fun aa ww hb he hd => ob_on 39 rfl (by kernel_rfl) hd.1 (gives_move _ rfl ⟨he.2.2.2.1, Below.refl _ _⟩)
    · exact fun aa ww hb he hd => ob_on 39 rfl (by kernel_rfl) hd.1 (len_c Try.underlying32 rfl hd.2.1)
    · exact fun aa ww hb he hd => ob_on 39 rfl (by kernel_rfl) hd.1 (gives_ne_int (l.length) (l.length) .i64 _ _ _ _ rfl hd.2.1 hd.2.2.1 ⟨congrArg Value.bool (by simp), Below.refl _ _⟩)
    · exact fun aa ww hb he hd => ob_plain rfl (gives_pick false _ _ _ rfl hd.1 ⟨hd.2.1, Below.refl _ _⟩)
    · exact fun aa ww hb he hd => ob_plain rfl (gives_move _ rfl ⟨hd.1, Below.refl _ _⟩)
    · exact fun aa ww hb he hd => ob_on 46 rfl (by kernel_rfl) hd.1 (load_gr rfl rfl he.2.2.2.2.1 (GB.new HG.out hb))
    · exact fun aa ww hb he hd => ob_on 46 rfl (by kernel_rfl) hd.1 (gives_call1 _ _ _ rfl (by kernel_rfl) (by rw [show aa.eval (.tmp 47) = .agg #[.int .i64 ((n : Int)), .slice A (es.length) c] from hd.2.1]; exact rv_one (AC.out _ hb)))
    · exact fun aa ww hb he hd => ob_on 46 rfl (by kernel_rfl) hd.1 (load_gr rfl rfl he.2.2.2.2.1 (GB.new HG.out hb))
    · exact fun aa ww hb he hd => ob_on 46 rfl (by kernel_rfl) hd.1 (gives_call1 _ _ _ rfl (by kernel_rfl) (by rw [show aa.eval (.tmp 49) = .agg #[.int .i64 ((n : Int)), .slice A (es.length) c] from hd.2.1]; exact rv_one (of_any n A es.length c _)))
    · exact fun aa ww hb he hd => ob_on 46 rfl (by kernel_rfl) hd.1 (gives_call1 _ _ _ rfl (by kernel_rfl) (by rw [show aa.eval (.tmp 50) = .agg #[.int .i64 ((n : Int)), .slice A (es.length) c] from hd.2.1]; exact rv_one (RAC.out _ hb)))
    · exact fun aa ww hb he hd => ob_on 46 rfl (by kernel_rfl) hd.1 (gives_ne_bool ab ab _ _ _ _ rfl Try.underlying4 hd.2.1 hd.2.2.1 ⟨congrArg Value.bool (by simp), Below.refl _ _⟩)
    · exact fun aa ww hb he hd => ob_plain rfl (gives_pick false _ _ _ rfl hd.1 ⟨hd.2.1, Below.refl _ _⟩)
  intro vs w5 hb hR
  have e53 : vs 18 = .bool false := hR 18 (by decide)
  clear hR
  simp only [putsL, Nat.zero_add, Nat.reduceAdd, List.take_succ_cons, List.take_zero, Act.put, List.setIfInBounds_toArray, List.set_cons_zero, List.set_cons_succ]
  rw [e53]
  clear e53
  replace HG := Lib.hid (HG.out.new hb)
  replace HS := Lib.hid (own_below HS.out hb)
  replace HT := Lib.hid (own_below HT.out hb)
  replace HE := Lib.hid (HE.out.new hb)
  replace HB := Lib.hid (bthen HB.out hb HB.out.size)
  clear hb EQ AC RAC HF
  have g0 := HG.out.c0; have g1 := HG.out.c1; have gl := HG.out.lt
  have HRW := Lib.hid (HR.out.new HB.out)
  obtain ⟨i, hi, hz, hs1, hby⟩ := info_parts info_u32
  have hmk := mk_bool es.length (by omega)
  go_wp2_with (at_builtin; refine wpList_append_any _ rfl _ _ 22 rfl w5.heap.size 36 i _ 1 4 Try.underlying22 hi hz hs1 hby rfl (by omega) (.slice (some ⟨w5.heap.size, 0, none⟩) 0 0) 0 [] rfl (own_empty w5 36) w5.heap.size A es.length c (U32 es) rfl (HRW.out.1.alloc (Nat.le_refl _) _) (one_U32 es) (by simp only [maxLen]; omega) (by omega) (by simp) ?_; intro v' w6 hown' hgr hor; rw [Nat.zero_add, List.nil_append] at hown'; obtain ⟨A7, c7, rfl⟩ := own_form hown'; have HO7 := Lib.hid hown'; have HB7 := Lib.hid (show Below w5.heap.size w5 w6 from Below.appended (al _ _) (own_empty w5 36) hgr (by simp) (Nat.le_refl _)); clear hown' hgr hor)
  clear hmk hi hz hs1 hby g0 g1 gl
  have hlm : l.length ≤ 2112 := by
    have h1 := HRUN.out.1.len (by simp) (by omega) HES.out
    have h2 := meas_le (n := n) (r := es) (g := List.replicate es.length false)
    rw [List.length_replicate] at h2
    have h3 : es.length * n ≤ 64 * 32 := Nat.mul_le_mul (by omega) (by omega)
    omega
  have hz6 : w5.heap.size ≤ w6.heap.size := HB7.out.size
  have HM0 := Lib.hid (show RdM w5 es.length A7 c7 w6.heap.size es (List.replicate es.length false) (w6.alloc (.cells (brow (List.replicate es.length false)) 4)) from ⟨HO7.out.alloc _, Blk.new _ _ _, HB7.out.alloc hz6 _, hz6, rfl, by simp⟩)
  go_loopw [63] (fun i wr => ∃ k : Nat, k ≤ l.length ∧ i = .int .i64 k ∧ Hid (∃ r' g', Run n es (List.replicate es.length false) (l.take k) r' g' ∧ RdM w5 es.length A7 c7 w6.heap.size r' g' wr)) (fun i _ => l.length - (intOf i).toNat)
  case atStart => exact ⟨0, Nat.zero_le _, rfl, Lib.hid ⟨_, _, .nil, HM0.out⟩⟩
  case round =>
    obtain ⟨k, hk, rfl, HI⟩ := hrel
    obtain ⟨r1, g1, hrun1, hM⟩ := HI.out
    have HRUN1 := Lib.hid hrun1; have HM := Lib.hid hM; clear hrun1 hM HI
    by_cases hlt : k < l.length
    · obtain ⟨gs, cs, hv, hbs, hgs⟩ := HS.out.form (by omega)
      injection hv with hv1 _ hv2
      subst hv1; subst hv2
      obtain ⟨gt, ct, hv, hbt, hgt⟩ := HT.out.form (by omega)
      injection hv with hv1 _ hv2
      subst hv1; subst hv2
      have HSr := Lib.hid (HM.out.2.2.1 |> fun h => own_below HS.out h)
      have HTr := Lib.hid (HM.out.2.2.1 |> fun h => own_below HT.out h)
      obtain ⟨s0, s1, s2⟩ := S3_get hlt
      generalize ht : l.getD k (0, 0, 0) = t at *
      obtain ⟨t0, t1, t2⟩ := t
      have HTE := Lib.hid ht; clear ht
      simp only at s0 s1 s2
      have i1 : (0 : Int) ≤ (k : Int) := by omega
      have i2 : (k : Int) < (l.length : Int) := by omega
      have x0 : wr.cell? ⟨gs, k * 3, none⟩ = some (.int .i64 t0) := by rw [Nat.mul_comm]; exact (HSr.out.cellAt (3 * k) (by omega)).trans s0
      have x1 : wr.cell? ⟨gs, k * 3 + 1, none⟩ = some (.int .i64 t1) := by rw [Nat.mul_comm]; exact (HSr.out.cellAt (3 * k + 1) (by omega)).trans s1
      have x2 : wr.cell? ⟨gs, k * 3 + 2, none⟩ = some (.int .i64 t2) := by rw [Nat.mul_comm]; exact (HSr.out.cellAt (3 * k + 2) (by omega)).trans s2
      have y0 : wr.cell? ⟨gt, k * 3, none⟩ = some (.int .i64 t0) := by rw [Nat.mul_comm]; exact (HTr.out.cellAt (3 * k) (by omega)).trans s0
      have y1 : wr.cell? ⟨gt, k * 3 + 1, none⟩ = some (.int .i64 t1) := by rw [Nat.mul_comm]; exact (HTr.out.cellAt (3 * k + 1) (by omega)).trans s1
      have y2 : wr.cell? ⟨gt, k * 3 + 2, none⟩ = some (.int .i64 t2) := by rw [Nat.mul_comm]; exact (HTr.out.cellAt (3 * k + 2) (by omega)).trans s2
      clear s0 s1 s2
      go_wp2_with fail
      obtain ⟨wq, hwq⟩ : ∃ wq : World, wq = wr.alloc (.cells #[.int .i64 t0, .int .i64 t1, .int .i64 t2] 41) := ⟨_, rfl⟩
      rw [← hwq]
      have HMq := Lib.hid (show RdM w5 es.length A7 c7 w6.heap.size r1 g1 wq by rw [hwq]; exact HM.out.alloc _)
      have HQ := Lib.hid (show Blk wq wr.heap.size 41 (stepC t0 t1 t2) by rw [hwq]; exact Blk.new _ _ _)
      have z0 : wq.cell? ⟨gt, k * 3, none⟩ = some (.int .i64 t0) := by rw [hwq, (al wr _).cell (p := ⟨gt, k * 3, none⟩) (by have := HM.out.2.2.1.size; show gt < wr.heap.size; omega)]; exact y0
      have z1 : wq.cell? ⟨gt, k * 3 + 1, none⟩ = some (.int .i64 t1) := by rw [hwq, (al wr _).cell (p := ⟨gt, k * 3 + 1, none⟩) (by have := HM.out.2.2.1.size; show gt < wr.heap.size; omega)]; exact y1
      have z2 : wq.cell? ⟨gt, k * 3 + 2, none⟩ = some (.int .i64 t2) := by rw [hwq, (al wr _).cell (p := ⟨gt, k * 3 + 2, none⟩) (by have := HM.out.2.2.1.size; show gt < wr.heap.size; omega)]; exact y2
      clear hwq x0 x1 x2 y0 y1 y2
      have k0 : wq.cell? ⟨wr.heap.size, 0, none⟩ = some (.int .i64 t0) := (HQ.out.cell 0).trans rfl
      have k1 : wq.cell? ⟨wr.heap.size, 1, none⟩ = some (.int .i64 t1) := (HQ.out.cell 1).trans rfl
      have k2 : wq.cell? ⟨wr.heap.size, 2, none⟩ = some (.int .i64 t2) := (HQ.out.cell 2).trans rfl
      go_quiet (fail)
      obtain ⟨r', g', r2, g2, hr1, hst, hr2⟩ := HRUN.out.1.succ k hlt
      obtain ⟨_, rfl, rfl⟩ := hr1.same HRUN1.out rfl
      rw [HTE.out] at hst
      have HR2 := Lib.hid hr2; clear hr1 hr2
      have hMd := HMq.out.drewN nq
      have hQd := HQ.out.drewN nq
      obtain ⟨wa, hwa⟩ : ∃ wa : World, wa = wq.drewN nq := ⟨_, rfl⟩
      rw [← hwa] at hMd hQd ⊢
      clear hwa z0 z1 z2 k0 k1 k2
      replace HMq := Lib.hid hMd; replace HQ := Lib.hid hQd; clear hMd hQd
      have k0 : wa.cell? ⟨wr.heap.size, 0, none⟩ = some (.int .i64 t0) := (HQ.out.cell 0).trans rfl
      have k1 : wa.cell? ⟨wr.heap.size, 1, none⟩ = some (.int .i64 t1) := (HQ.out.cell 1).trans rfl
      have k2 : wa.cell? ⟨wr.heap.size, 2, none⟩ = some (.int .i64 t2) := (HQ.out.cell 2).trans rfl
      have hrl := HMq.out.2.2.2.2.1; have hgl := HMq.out.2.2.2.2.2
      have hbd : ∀ x ∈ r', x < 2 ^ 32 := fun x hx => Nat.lt_of_lt_of_le (HRUN1.out.lt HES.out x hx) (two_pow_le (show n ≤ 32 by omega))
      have HBD := Lib.hid hbd; clear hbd
      clear nq; rcases hst with ⟨e, f, he, ha, rfl, rfl⟩ | ⟨e, v, he, ha, hi, rfl, rfl⟩
      · injection he with e0 e12
        injection e12 with e1 e2
        subst e0 e1 e2
        obtain ⟨hel, hfl, habs, -⟩ := ha
        obtain ⟨a1, a2, a3, a4⟩ := absorbs_parts habs
        obtain ⟨g4, cap, hv, hb4, hg4⟩ := HMq.out.1.form (by omega)
        injection hv with hv1 _ hv2
        subst hv1; subst hv2
        have ce : wa.cell? ⟨g4, e, none⟩ = some (.int .u32 (nth r' e : Int)) := by
          rw [HMq.out.1.cellAt e (by omega)]; simp [U32, nth, List.getD, hel]
        have cf : wa.cell? ⟨g4, f, none⟩ = some (.int .u32 (nth r' f : Int)) := by
          rw [HMq.out.1.cellAt f (by omega)]; simp [U32, nth, List.getD, hfl]
        have de : wa.cell? ⟨w6.heap.size, e, none⟩ = some (.bool false) := by rw [HMq.out.2.1.cell, brow_get (by omega), show bnth g' e = false from a2]
        have df : wa.cell? ⟨w6.heap.size, f, none⟩ = some (.bool false) := by rw [HMq.out.2.1.cell, brow_get (by omega), show bnth g' f = false from a3]
        have fe := HMq.out.1.frozenAt e
        have fd := HMq.out.2.1.frozen e
        have hne : g4 ≠ w6.heap.size := by
          have h := own_blk_ne HMq.out.1 HMq.out.2.1 (by decide)
          simp only [Value.ownBlock] at h
          intro h2; exact h (by rw [h2])
        have hn5 : w6.heap.size ≠ wr.heap.size := by have := HM.out.2.1.lt; omega
        have hn6 : g4 ≠ wr.heap.size := by
          have h := own_blk_ne HMq.out.1 HQ.out (by decide)
          simp only [Value.ownBlock] at h
          intro h2; exact h (by rw [h2])
        have hand : bits .andNot .u32 (nth r' e : Int) (nth r' f : Int) = 0 := by rw [bits_andNot _ _ (HBD.out _ (nth_mem hel)) (HBD.out _ (nth_mem hfl)), a4]; rfl
        have j1 : (0 : Int) ≤ (e : Int) := by omega
        have j2 : (e : Int) < (es.length : Int) := by omega
        have j3 : (0 : Int) ≤ (f : Int) := by omega
        have j4 : (f : Int) < (es.length : Int) := by omega
        clear a1 a2 a3 a4 habs
        go_wp2_with fail
        go_quiet (fail)
        go_wp2_with fail
        go_region
        have hMz := ((HMq.out.drewN (nq + 1)).gone e).row e 0 hb4 hne
        have HMz := Lib.hid hMz; clear hMz
        go_wp2_with fail
        exact ⟨⟨k + 1, by omega, by go_num, Lib.hid ⟨_, _, HR2.out, HMz.out⟩⟩, by simp [intOf]; omega⟩
      · injection he with e0 e12
        injection e12 with e1 e2
        subst e0 e1 e2
        have HIS := Lib.hid hi
        obtain ⟨hvn, hel, hbit, hocc, -⟩ := hi
        clear ha
        have HGZ := Lib.hid (HRUN1.out.gone_zero (fun e he => by
          exfalso
          have h0 : bget (List.replicate es.length false) e = false := by
            unfold bget; rw [List.getD_eq_getElem?_getD, List.getElem?_replicate]; split <;> rfl
          rw [h0] at he; cases he))
        obtain ⟨g4, cap, hv, hb4, hg4⟩ := HMq.out.1.form (by omega)
        injection hv with hv1 _ hv2
        subst hv1; subst hv2
        have hne : g4 ≠ w6.heap.size := by
          have h := own_blk_ne HMq.out.1 HMq.out.2.1 (by decide)
          simp only [Value.ownBlock] at h
          intro h2; exact h (by rw [h2])
        have hn6 : g4 ≠ wr.heap.size := by
          have h := own_blk_ne HMq.out.1 HQ.out (by decide)
          simp only [Value.ownBlock] at h
          intro h2; exact h (by rw [h2])
        have HBIT := Lib.hid hbit; have HOCC := Lib.hid hocc; clear hbit hocc
        have hgw6 : w6.heap.size ≠ wr.heap.size := by have := HM.out.2.1.lt; omega
        clear HSr HTr HM
        generalize hgx : wr.heap.size = gx at *
        have HGX := Lib.hid hgx; clear hgx
        go_wp2_with fail
        go_loopw [11, 113] (fun q i wx => ∃ j : Nat, j ≤ es.length ∧ i = .int .i64 j ∧ q = .int .i64 ((r'.take j).countP (fun e => e.testBit v) : Nat) ∧ Hid (RdM w5 es.length (some ⟨g4, 0, none⟩) c7 w6.heap.size r' g2 wx ∧ Blk wx gx 41 (stepC e (-1) v))) (fun _ i _ => es.length - (intOf i).toNat)
        case atStart => exact ⟨0, Nat.zero_le _, rfl, rfl, Lib.hid ⟨HMq.out, HQ.out⟩⟩
        case round =>
          obtain ⟨j, hj, rfl, rfl, HJ⟩ := hrel
          have hcl : (r'.take j).countP (fun e => e.testBit v) ≤ j := Nat.le_trans List.countP_le_length (List.length_take_le _ _)
          generalize hq : (r'.take j).countP (fun e => e.testBit v) = q at *
          have HQQ := Lib.hid hq; clear hq
          clear k0 k1 k2
          have k0 : wr.cell? ⟨gx, 0, none⟩ = some (.int .i64 e) := (HJ.out.2.cell 0).trans rfl
          have k1 : wr.cell? ⟨gx, 1, none⟩ = some (.int .i64 (-1)) := (HJ.out.2.cell 1).trans rfl
          have k2 : wr.cell? ⟨gx, 2, none⟩ = some (.int .i64 v) := (HJ.out.2.cell 2).trans rfl
          by_cases hjl : j < es.length
          · have hjr : j < r'.length := by omega
            have hek := HBD.out _ (nth_mem hjr)
            have HEK := Lib.hid hek; clear hek
            have HSK := Lib.hid (show (r'.take (j + 1)).countP (fun e => e.testBit v) = (r'.take j).countP (fun e => e.testBit v) + if (nth r' j).testBit v then 1 else 0 by
              rw [List.take_succ_eq_append_getElem hjr, List.countP_append, nth_eq hjr]; simp [List.countP_cons])
            have cj : wr.cell? ⟨g4, j, none⟩ = some (.int .u32 (nth r' j : Int)) := by
              rw [HJ.out.1.1.cellAt j (by omega)]; simp [U32, nth, List.getD, hjr]
            have dj : wr.cell? ⟨w6.heap.size, j, none⟩ = some (.bool (bnth g2 j)) := by rw [HJ.out.1.2.1.cell, brow_get (by omega)]
            have j1 : (0 : Int) ≤ (j : Int) := by omega
            have j2 : (j : Int) < (es.length : Int) := by omega
            have j3 : (0 : Int) ≤ (v : Int) := by omega
            cases hg1 : bnth g2 j with
            | true =>
              rw [hg1] at dj
              have HB1 := Lib.hid (show (nth r' j).testBit v = false by rw [HGZ.out j hg1]; simp)
              clear hg1
              go_wp2_with fail
              go_quiet (fail)
              go_wp2_with fail
              refine ⟨⟨j + 1, by omega, by go_num, ?_, Lib.hid ⟨HJ.out.1.drewN _, HJ.out.2.drewN _⟩⟩, by simp [intOf]; omega⟩
              rw [HSK.out, HB1.out, HQQ.out]; simp
            | false =>
              rw [hg1] at dj
              clear hg1
              cases hb : (nth r' j).testBit v with
              | true =>
                have ht : (bits .and .u32 ((nth r' j : Int) / 2 ^ v) 1 == 1) = true := by rw [bit_test _ _ HEK.out]; exact hb
                have HB1 := Lib.hid hb; clear hb
                go_wp2_with fail
                go_quiet (fail)
                go_wp2_with fail
                refine ⟨⟨j + 1, by omega, by go_num, ?_, Lib.hid ⟨HJ.out.1.drewN _, HJ.out.2.drewN _⟩⟩, by simp [intOf]; omega⟩
                rw [HSK.out, HB1.out, HQQ.out]; simp
              | false =>
                have ht : (bits .and .u32 ((nth r' j : Int) / 2 ^ v) 1 == 1) = false := by rw [bit_test _ _ HEK.out]; exact hb
                have HB1 := Lib.hid hb; clear hb
                go_wp2_with fail
                go_quiet (fail)
                go_wp2_with fail
                refine ⟨⟨j + 1, by omega, by go_num, ?_, Lib.hid ⟨HJ.out.1.drewN _, HJ.out.2.drewN _⟩⟩, by simp [intOf]; omega⟩
                rw [HSK.out, HB1.out, HQQ.out]; simp
          · have hq1 : q = 1 := by
              have h1 := HQQ.out
              rw [List.take_of_length_le (by omega)] at h1
              have h2 := HOCC.out
              unfold occ at h2
              omega
            have hq2 : ((q : Int) != 1) = false := by rw [hq1]; rfl
            clear hq1
            have cj : wr.cell? ⟨g4, e, none⟩ = some (.int .u32 (nth r' e : Int)) := by
              rw [HJ.out.1.1.cellAt e (by omega)]; simp [U32, nth, List.getD, hel]
            have fe := HJ.out.1.1.frozenAt e
            have hek := HBD.out _ (nth_mem hel)
            have HEK := Lib.hid hek; clear hek
            have ht : (bits .and .u32 ((nth r' e : Int) / 2 ^ v) 1 != 1) = false := by
              have h := bit_test (nth r' e) v HEK.out
              rw [HBIT.out] at h
              rw [bne, h]; rfl
            have j1 : (0 : Int) ≤ (e : Int) := by omega
            have j2 : (e : Int) < (es.length : Int) := by omega
            have j3 : (0 : Int) ≤ (v : Int) := by omega
            go_wp2_with fail
            go_quiet (fail)
            go_wp2_with fail
            go_region
            rw [shl_mod v (by omega), bits_andNot _ _ HEK.out (pow2_lt32 (by omega))]
            have HMz := Lib.hid ((HJ.out.1.drewN (nq + 1)).row e (andn (nth r' e) (2 ^ v)) hb4 hne)
            go_wp2_with fail
            exact ⟨⟨k + 1, by omega, by go_num, Lib.hid ⟨_, _, HR2.out, HMz.out⟩⟩, by simp [intOf]; omega⟩
    · obtain rfl : k = l.length := by omega
      rw [List.take_length] at HRUN1
      obtain ⟨_, rfl, rfl⟩ := HRUN1.out.same HRUN.out.1 rfl
      have HNE := Lib.hid (show Es wr wr.heap.size A7 es.length r1 from ⟨Reads.of_own HM.out.1, ⟨HM.out.2.2.2.2.1.symm, by omega⟩, fun x hx => Nat.lt_of_lt_of_le (HRUN1.out.lt HES.out x hx) (Nat.le_trans (two_pow_le (show n ≤ 32 by omega)) (by decide))⟩)
      have HLE := Lib.hid (HE.out.new HM.out.2.2.1)
      have HBW := Lib.hid (bthen HB.out HM.out.2.2.1 HB.out.size)
      go_wp2_with fail
      refine (awake26_any _).mono ?_
      rintro e w8 ⟨rfl, hb⟩
      replace HNE := Lib.hid (HNE.out.new hb)
      replace HLE := Lib.hid (HLE.out.new hb)
      replace HBW := Lib.hid (bthen HBW.out hb HBW.out.size); clear hb
      go_wp2_with fail
      refine (equal_u32 A7 A4 r1 r1 _ _ _ _ _ HNE.out HLE.out).mono ?_
      rintro e w9 ⟨rfl, hb⟩
      rw [show (r1 == r1) = true by simp]
      replace HBW := Lib.hid (bthen HBW.out hb HBW.out.size); clear hb
      go_wp2_with fail
      go_ret
      exact ⟨rfl, HBW.out⟩

set_option maxRecDepth 100000 in
set_option maxHeartbeats 4000000 in
theorem hypergraphReduces_walk (n : Int) (A : Option Addr) (es : List Nat) (len c : Nat) (w : World) (hr : Es w w.heap.size A len es) (hn : -9223372036854775808 ≤ n ∧ n ≤ 9223372036854775807) (_ : len ≤ c) :
    Calls Try.prog 3 #[.agg #[.int .i64 n, .slice A len c]] w fun e w' => e = .returned (.bool true) ∧ Below w.heap.size w w' := by
  by_cases hl : len ≤ 12
  · by_cases hcc : checkCode n es = 0
    · obtain ⟨h0, _, _, _⟩ := checkCode_zero hcc
      obtain ⟨n, rfl⟩ := Int.eq_ofNat_of_zero_le h0
      exact reduces_main n A es len c w hr hl hcc
    · have hle := hr.le
      have HR := Lib.hid hr; clear hr
      have HG := Lib.hid (GB.made w 24 (.int .i64 n) (.slice A len c))
      have HW := Lib.hid (al w (.cells #[.int .i64 n, .slice A len c] 24))
      have hcc' : ((checkCode n es : Int) != 0) = true := by simpa using hcc
      go_enter Try.func3, Try.ntmps3
      go_wp2_with fail
      refine (of_any n A len c _).mono ?_
      rintro e w1 ⟨rfl, hb⟩
      have HB := Lib.hid (bthen HW.out hb (by simp)); clear hb
      go_wp2_with fail
      refine (rcheck_any n A es len c _ (HR.out.new HB.out)).mono ?_
      rintro e w2 ⟨rfl, hb⟩
      replace HB := Lib.hid (bthen HB.out hb HB.out.size); clear hb
      go_wp2_with fail
      refine (awake26_any _).mono ?_
      rintro e w3 ⟨rfl, hb⟩
      replace HB := Lib.hid (bthen HB.out hb HB.out.size); clear hb
      go_wp2_with fail
      go_ret
      exact ⟨rfl, HB.out⟩
  · have hle := hr.le
    have HW := Lib.hid (al w (.cells #[.int .i64 n, .slice A len c] 24))
    go_enter Try.func3, Try.ntmps3
    go_wp2_with fail
    refine (awake26_any _).mono ?_
    rintro e w3 ⟨rfl, hb⟩
    have HB := Lib.hid (bthen HW.out hb HW.out.size); clear hb
    go_wp2_with fail
    go_ret
    exact ⟨rfl, HB.out⟩
end Go.Proofs.Ytkiahnffepbgpaa
