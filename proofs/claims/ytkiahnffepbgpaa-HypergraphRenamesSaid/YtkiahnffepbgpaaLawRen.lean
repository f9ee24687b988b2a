/-
  The walk of law26.HypergraphRenames.
-/
import Derived.Test.YtkiahnffepbgpaaAwk26
import Derived.Test.YtkiahnffepbgpaaRnmP
import Derived.Test.YtkiahnffepbgpaaFew
import Derived.Test.YtkiahnffepbgpaaDist
import Derived.BigRegion
import Derived.Deep.RegionLaw
import Derived.IntWalk
namespace Go.Proofs.Ytkiahnffepbgpaa
open Go.RowKit
set_option linter.unusedSimpArgs false
set_option linter.unusedVariables false

/-- A slice of bytes that reads as a list of numbers. -/
def Us (w : World) (B : Nat) (A : Option Addr) (len : Nat) (bs : List Nat) : Prop :=
  Reads w B 1 A len (bs.map fun (b : Nat) => Value.int .u8 (b : Int)) ∧ (len = bs.length ∧ len ≤ 9223372036854775807) ∧ ∀ b ∈ bs, b < 256
theorem Us.at_ {w : World} {B n k : Nat} {A : Option Addr} {bs : List Nat} (h : Us w B A n bs) (hk : k < n) : ∃ ad, A = some ad ∧ ad.block < B ∧ w.cell? (ad.add k) = some (.int .u8 (nth bs k : Int)) := by
  obtain ⟨ad, u, e, hb, hx, hc⟩ := h.1.at_ hk
  simp only [List.getElem?_map, Option.map_eq_some_iff] at hx
  obtain ⟨b, hb2, rfl⟩ := hx
  refine ⟨ad, e, hb, ?_⟩
  rw [hc]; simp [nth, List.getD, hb2]
theorem Us.new {w w' : World} {n : Nat} {A : Option Addr} {bs : List Nat} (h : Us w w.heap.size A n bs) (hb : Below w.heap.size w w') : Us w' w'.heap.size A n bs := ⟨(h.1.below hb).more hb.size, h.2⟩
theorem Us.lt {w : World} {B n k : Nat} {A : Option Addr} {bs : List Nat} (h : Us w B A n bs) (hk : k < n) : nth bs k < 256 := h.2.2 _ (nth_mem (by have := h.2.1.1; omega))
/-- What stands in the loops of the law. -/
structure RnSt (w : World) (n : Nat) (A : Option Addr) (len c gx gp : Nat) (A' : Option Addr) (c' : Nat) (p : List Int) (xs : List Nat) (wr : World) : Prop where
  b3 : GB wr w.heap.size 24 (.int .i64 (n : Int)) (.slice A len c)
  bx : GB wr gx 24 (.int .i64 (n : Int)) (.slice A' len c')
  bp : Blk wr gp 3 (irow p)
  ow : wr.ownsRow (w.heap.size + 1) 36 1 (.slice A' len c') len (U32 xs)
  bl : Below w.heap.size w wr
  sz : (w.heap.size + 1 ≤ gx ∧ w.heap.size + 1 ≤ gp) ∧ w.heap.size + 1 ≤ wr.heap.size
theorem keepG2 {w1 w' : World} {g : Nat} {t : TypeId} {x y : Value} (h : GB w1 g t x y) (hb : Below w1.heap.size w1 w') : (w'.cell? ⟨g, 0, none⟩ = some x ∧ w'.cell? ⟨g, 1, none⟩ = some y) ∧ Below w1.heap.size w1 w' := ⟨⟨(h.new hb).c0, (h.new hb).c1⟩, hb⟩
theorem two_set {B : Nat} {a w : World} (h : Below B a w) {g : Nat} (hg : B ≤ g) (x y : Value) : Below B a ((w.setCell ⟨g, 0, none⟩ x).setCell ⟨g, 1, none⟩ y) :=
  (h.setCell (p := ⟨g, 0, none⟩) hg x).setCell (p := ⟨g, 1, none⟩) hg y
theorem RnSt.drewN {w : World} {n : Nat} {A : Option Addr} {len c gx gp : Nat} {A' : Option Addr} {c' : Nat} {p : List Int} {xs : List Nat} {wr : World} (h : RnSt w n A len c gx gp A' c' p xs wr) (k : Nat) : RnSt w n A len c gx gp A' c' p xs (wr.drewN k) :=
  ⟨h.b3.drewN k, h.bx.drewN k, h.bp.drewN k, own_drewN h.ow k, below_drewN h.bl k, h.sz⟩
theorem RnSt.swapP {w : World} {n : Nat} {A : Option Addr} {len c gx gp : Nat} {A' : Option Addr} {c' : Nat} {p : List Int} {xs : List Nat} {wr : World} (h : RnSt w n A len c gx gp A' c' p xs wr) (k m : Nat) :
    RnSt w n A len c gx gp A' c' (swapI p k m) xs ((wr.setCell ⟨gp, k, none⟩ (.int .i64 (inth p m))).setCell ⟨gp, m, none⟩ (.int .i64 (inth p k))) := by
  have hx : gx ≠ gp := Blk.ne_ (t := 24) h.bx.blk h.bp (by decide)
  have h3 : w.heap.size ≠ gp := by have := h.sz; omega
  have b1 := h.bp.set_ k (.int .i64 (inth p m))
  rw [irow_set] at b1
  have b2 := b1.set_ m (.int .i64 (inth p k))
  rw [irow_set] at b2
  exact ⟨GB.far (GB.far h.b3 (p := ⟨gp, k, none⟩) h3 _) (p := ⟨gp, m, none⟩) h3 _, GB.far (GB.far h.bx (p := ⟨gp, k, none⟩) hx _) (p := ⟨gp, m, none⟩) hx _, b2, own_far (own_far h.ow h.bp (by decide) k _) b1 (by decide) m _, (h.bl.setCell (p := ⟨gp, k, none⟩) (by have := h.sz; show w.heap.size ≤ gp; omega) _).setCell (p := ⟨gp, m, none⟩) (by have := h.sz; show w.heap.size ≤ gp; omega) _, h.sz.1, by simp [World.setCell]; exact h.sz.2⟩
theorem RnSt.swapX {w : World} {n : Nat} {A : Option Addr} {len c gx gp g4 : Nat} {c' : Nat} {p : List Int} {xs : List Nat} {wr : World} (h : RnSt w n A len c gx gp (some ⟨g4, 0, none⟩) c' p xs wr) (h4 : w.heap.size + 1 ≤ g4) (k x : Nat) :
    RnSt w n A len c gx gp (some ⟨g4, 0, none⟩) c' p (xs.set k x) (wr.setCell ⟨g4, k, none⟩ (.int .u32 (x : Int))) := by
  obtain ⟨h1, h2⟩ := World.ownsRow.stored h.ow k (.int .u32 (x : Int))
  rw [show (U32 xs).set k (.int .u32 (x : Int)) = U32 (xs.set k x) by simp [U32, List.map_set]] at h1
  have n1 : g4 ≠ gx := by
    have := own_blk_ne h.ow h.bx.blk (by decide)
    simp only [Value.ownBlock] at this
    intro e; exact this (by rw [e])
  have n2 : g4 ≠ gp := by
    have := own_blk_ne h.ow h.bp (by decide)
    simp only [Value.ownBlock] at this
    intro e; exact this (by rw [e])
  exact ⟨GB.far h.b3 (p := ⟨g4, k, none⟩) (by show w.heap.size ≠ g4; omega) _, GB.far h.bx (p := ⟨g4, k, none⟩) (Ne.symm n1) _, h.bp.far (p := ⟨g4, k, none⟩) (Ne.symm n2) _, h1, h.bl.setCell (p := ⟨g4, k, none⟩) (by show w.heap.size ≤ g4; omega) _, h.sz.1, by simp [World.setCell]; exact h.sz.2⟩
theorem step_app_u32' {ops : Array Oper} {o : Oper} {a : Act} {w : World} {K : Act → World → Prop} {Q : Exit → Act → World → Prop} {E : Prop} (hgd : o.guard = none) (s x : Operand) (ho : o.op = .call { callee := .builtin .append, args := #[s, x], argTypes := #[22, 22] })
    (base : Nat) (v : Value) (L : List Nat) (hs : a.eval s = v) (hown : w.ownsRow base 36 1 v L.length (U32 L)) (g y : Nat) (hx : a.eval x = .slice (some ⟨g, 0, none⟩) 1 1) (hb : Blk w g 36 #[.int .u32 (y : Int)])
    (hk : L.length ≤ 1000000) (hbase : base ≤ w.heap.size)
    (h : ∀ v' w', w'.ownsRow base 36 1 v' (L ++ [y]).length (U32 (L ++ [y])) → w.grownBy w' v.ownBlock → (v'.ownBlock = v.ownBlock ∨ v'.ownBlock = some w.heap.size) → K (a.put o.dst v') w') :
    if Region.wanted o (yielded ops a.tmps) = true then Oper.wp Try.prog o a w K Q else E := by
  obtain ⟨i, hi, hz, hs1, hby⟩ := info_parts info_u32
  have hr : Reads w w.heap.size 1 (some ⟨g, 0, none⟩) 1 [.int .u32 (y : Int)] := ⟨rfl, fun _ => ⟨_, rfl, hb.lt, fun j u hu => by
    have e : (Addr.add ⟨g, 0, none⟩ j) = ⟨g, j, none⟩ := by unfold Addr.add; split <;> simp_all
    rw [e, hb.cell]; simpa using hu⟩⟩
  refine step_append_any w hgd s x 22 ho base 36 i _ 1 4 Try.underlying22 hi hz hs1 hby rfl (by omega) v L.length (U32 L) hs hown w.heap.size _ 1 1 _ hx hr (by simp; rfl) (by simp only [maxLen]; omega) (by omega) hbase ?_
  intro v' w' h1 h2 h3
  exact h v' w' (by rw [List.length_append]; simpa [U32] using h1) h2 h3
set_option maxRecDepth 100000 in
set_option maxHeartbeats 8000000 in
theorem renames_main (n : Nat) (A : Option Addr) (es : List Nat) (len c : Nat) (Ap : Option Addr) (bs : List Nat) (np cp ins : Nat) (w : World) (hr : Es w w.heap.size A len es) (hf : fewB n es = true) (hp : Us w w.heap.size Ap np bs) (hnp : np ≤ 20) (hin : ins < 4294967296) :
    Calls Try.prog 4 #[.agg #[.int .i64 n, .slice A len c], .slice Ap np cp, .int .u32 ins] w fun e w' => e = .returned (.bool true) ∧ Below w.heap.size w w' := by
  obtain ⟨_, hn6, hl8, hcc⟩ := of_decide_eq_true hf
  obtain ⟨_, _, _, hes⟩ := checkCode_zero hcc
  have hes' : ∀ e ∈ es, e < 2 ^ n := by simpa using hes
  have hn : n ≤ 6 := by omega
  have hlen8 : len ≤ 8 := by have := hr.len; omega
  have HES := Lib.hid hes'; have HLE := Lib.hid hr.len
  have HR := Lib.hid hr; have HF := Lib.hid hf; have HP := Lib.hid hp; have HC := Lib.hid hcc
  clear hr hf hp hcc hes hes' hl8 hn6
  have HG := Lib.hid (GB.made w 24 (.int .i64 n) (.slice A len c))
  have HW := Lib.hid (al w (.cells #[.int .i64 n, .slice A len c] 24))
  have hmk := mk_int n (by omega)
  go_enter Try.func4, Try.ntmps4
  go_wp2_with fail
  refine (few_any n A es len c _ (HR.out.new HW.out)).mono ?_
  rintro e w1 ⟨rfl, hb⟩
  rw [HF.out]
  replace HG := Lib.hid (HG.out.new hb)
  have HB := Lib.hid (bthen HW.out hb (by simp))
  have hz1 : w.heap.size + 1 ≤ w1.heap.size := by have := hb.size; simp at this; omega
  clear hb
  have g0 := HG.out.c0; have g1 := HG.out.c1; have glt := HG.out.lt
  go_upto_region 5 with (fail)
  clear hmk g0 g1 glt
  have HGP := Lib.hid (Blk.new w1 3 (irow (List.replicate n 0)))
  have HG1 := Lib.hid (HG.out.alloc (.cells (irow (List.replicate n 0)) 3))
  have HB1 := Lib.hid (HB.out.alloc (by omega) (.cells (irow (List.replicate n 0)) 3))
  have hz2 : w.heap.size + 1 ≤ (w1.alloc (.cells (irow (List.replicate n 0)) 3)).heap.size := by simp; omega
  generalize w1.alloc (.cells (irow (List.replicate n 0)) 3) = W1 at *
  generalize hgp : w1.heap.size = gp at *
  have HGPE := Lib.hid hgp; clear hgp HG HB
  go_loopw [35] (fun iv wr => ∃ (k : Nat) (L : List Int), iv = .int .i64 k ∧ k ≤ n ∧ Hid ((L.length = n ∧ ∀ j, j < k → inth L j = j) ∧ GB wr w.heap.size 24 (.int .i64 (n : Int)) (.slice A len c) ∧ Blk wr gp 3 (irow L) ∧ Below w.heap.size w wr ∧ w.heap.size + 1 ≤ wr.heap.size)) (fun iv _ => n - (intOf iv).toNat)
  case atStart => exact ⟨0, _, rfl, Nat.zero_le _, Lib.hid ⟨⟨by simp, fun j h => by omega⟩, HG1.out, HGP.out, HB1.out, hz2⟩⟩
  case round =>
    obtain ⟨k, L, rfl, hk, HI⟩ := hrel
    by_cases hkn : k < n
    · have hLl := HI.out.1.1
      have x1 : wr.cell? ⟨gp, k, none⟩ = some (.int .i64 (inth L k)) := by rw [HI.out.2.2.1.cell, irow_get (by omega)]
      have x2 := HI.out.2.2.1.frozen k
      have x3 := HI.out.2.2.1.lt
      clear hLl
      go_wp2_with fail
      refine ⟨⟨k + 1, L.set k (k : Int), by go_num, by omega, Lib.hid ⟨⟨by rw [List.length_set]; exact HI.out.1.1, fun j hj => ?_⟩, GB.far HI.out.2.1 (by show w.heap.size ≠ gp; omega) _, ?_, HI.out.2.2.2.1.setCell (p := ⟨gp, k, none⟩) (by show w.heap.size ≤ gp; omega) _, by simp; omega⟩⟩, by simp [intOf]; omega⟩
      · rw [inth_set (by rw [HI.out.1.1]; exact hkn)]
        split
        · rename_i h; rw [h]
        · exact HI.out.1.2 j (by omega)
      · have := HI.out.2.2.1.set_ k (.int .i64 (k : Int))
        rwa [irow_set] at this
    · obtain rfl : n = k := by omega
      have HPM := Lib.hid (show PermOk n L from ⟨HI.out.1.1, fun i hi => by rw [HI.out.1.2 i hi]; omega, fun i j hi hj he => by rw [HI.out.1.2 i hi, HI.out.1.2 j hj] at he; omega⟩)
      have g0 := HI.out.2.1.c0; have g1 := HI.out.2.1.c1; have glt := HI.out.2.1.lt
      go_upto_region 9 with (fail)
      have HEW := Lib.hid (HR.out.new HI.out.2.2.2.1)
      have hws := HI.out.2.2.2.2
      have HLn := Lib.hid HI.out.1.1
      have HB5 := Lib.hid HI.out.2.2.2.1
      have HG5 := Lib.hid HI.out.2.1
      have HP5 := Lib.hid HI.out.2.2.1
      clear HI
      obtain ⟨ii, hii, hzz, hs1, hby⟩ := info_parts info_u32
      go_cut [9] (fun p9 wx => ∃ gx A' c', p9 = .pointer (some ⟨gx, 0, none⟩) ∧ Hid (RnSt w n A len c gx gp A' c' L es wx))
      case first =>
        go_region_held3 (fun w' => (w'.cell? ⟨w.heap.size, 0, none⟩ = some (.int .i64 n) ∧ w'.cell? ⟨w.heap.size, 1, none⟩ = some (.slice A len c)) ∧ Below wr.heap.size wr w')
          ((refine keepG2 HG5.out ?_; repeat' (first | exact Below.refl _ _ | exact Hid.out HBA | refine Below.drew ?_ | refine Below.alloc ?_ (by first | exact hs7 | exact Nat.le_refl _ | (simp; done) | (simp; omega) | omega) _ | refine Below.setCell (p := ⟨_, _, none⟩) ?_ (by first | exact Nat.le_refl _ | exact Nat.le_succ _ | omega) _)))
          (first
            | ((refine step_append_any _ rfl _ _ 22 rfl (wr.heap.size) 36 ii _ 1 4 Try.underlying22 hii hzz hs1 hby rfl (by omega) (.slice (some ⟨wr.heap.size, 0, none⟩) 0 0) 0 [] rfl (own_empty wr.drew 36) wr.heap.size A len c (U32 es) rfl (HEW.out.1.alloc (w := wr.drew) (Nat.le_refl _) _) (one_U32 es) (by simp only [maxLen]; omega) (by omega) (by first | exact Nat.le_refl _ | (simp; done) | (simp; omega)) ?_; intro v' w7 hown' hgr hor; rw [Nat.zero_add, List.nil_append] at hown'; obtain ⟨A7, c7, rfl⟩ := own_form hown'; have HO7 := Lib.hid hown'; have HBA := Lib.hid (show Below wr.heap.size wr w7 from Below.appended ((Below.drew (Below.refl _ _)).alloc (Nat.le_refl _) _) (own_empty wr.drew 36) hgr (by first | (simp; done) | (simp; omega)) (by first | exact Nat.le_refl _ | exact Nat.le_succ _ | omega)); have hs7 := HBA.out.size; clear hown' hgr hor))
            | ((refine step_append_any _ rfl _ _ 22 rfl (wr.heap.size) 36 ii _ 1 4 Try.underlying22 hii hzz hs1 hby rfl (by omega) (.slice (some ⟨wr.heap.size, 0, none⟩) 0 0) 0 [] rfl (own_drewN (World.ownsRow.alloc (own_empty wr 36) (.cells #[.int .i64 0, .slice none 0 0] 24)) 1) wr.heap.size A len c (U32 es) rfl ((HEW.out.1.alloc (w := wr.drew) (Nat.le_refl _) _).alloc (by simp) _) (one_U32 es) (by simp only [maxLen]; omega) (by omega) (by first | exact Nat.le_refl _ | (simp; done) | (simp; omega)) ?_; intro v' w7 hown' hgr hor; rw [Nat.zero_add, List.nil_append] at hown'; obtain ⟨A7, c7, rfl⟩ := own_form hown'; have HO7 := Lib.hid hown'; have HBA := Lib.hid (show Below wr.heap.size wr w7 from Below.appended (Below.drew (((Below.refl _ _).alloc (Nat.le_refl _) (.cells #[] 36)).alloc (by simp) (.cells #[.int .i64 0, .slice none 0 0] 24))) (own_drewN (World.ownsRow.alloc (own_empty wr 36) (.cells #[.int .i64 0, .slice none 0 0] 24)) 1) hgr (by first | (simp; done) | (simp; omega)) (by first | exact Nat.le_refl _ | exact Nat.le_succ _ | omega)); have hs7 := HBA.out.size; have hX7 : GB w7 (wr.heap.size + 1) 24 (.int .i64 0) (.slice none 0 0) := GB.appended (GB.drewN (show GB ((wr.alloc (.cells #[] 36)).alloc (.cells #[.int .i64 0, .slice none 0 0] 24)) (wr.heap.size + 1) 24 (.int .i64 0) (.slice none 0 0) by simpa using GB.made (wr.alloc (.cells #[] 36)) 24 (.int .i64 0) (.slice none 0 0)) 1) (own_drewN (World.ownsRow.alloc (own_empty wr 36) (.cells #[.int .i64 0, .slice none 0 0] 24)) 1) hgr (by decide); have x0 := hX7.c0; have x1 := hX7.c1; have f0 := hX7.f0; have f1 := hX7.f1; have lx := hX7.lt; have HX7 := Lib.hid hX7; clear hX7; clear hown' hgr hor))
            | ((refine step_append_any _ rfl _ _ 22 rfl (wr.heap.size + 1) 36 ii _ 1 4 Try.underlying22 hii hzz hs1 hby rfl (by omega) (.slice (some ⟨wr.heap.size + 1, 0, none⟩) 0 0) 0 [] rfl (own_drewN (show ((wr.alloc (.cells #[.int .i64 0, .slice none 0 0] 24)).alloc (.cells #[] 36)).ownsRow (wr.heap.size + 1) 36 1 (.slice (some ⟨wr.heap.size + 1, 0, none⟩) 0 0) 0 [] by simpa using own_empty (wr.alloc (.cells #[.int .i64 0, .slice none 0 0] 24)) 36) 1) wr.heap.size A len c (U32 es) rfl ((HEW.out.1.alloc (w := wr.drew) (Nat.le_refl _) _).alloc (by simp) _) (one_U32 es) (by simp only [maxLen]; omega) (by omega) (by first | exact Nat.le_refl _ | (simp; done) | (simp; omega)) ?_; intro v' w7 hown' hgr hor; rw [Nat.zero_add, List.nil_append] at hown'; obtain ⟨A7, c7, rfl⟩ := own_form hown'; have HO7 := Lib.hid hown'; have HBA := Lib.hid (show Below wr.heap.size wr w7 from Below.appended (Below.drew (((Below.refl _ _).alloc (Nat.le_refl _) (.cells #[.int .i64 0, .slice none 0 0] 24)).alloc (by simp) (.cells #[] 36))) (own_drewN (show ((wr.alloc (.cells #[.int .i64 0, .slice none 0 0] 24)).alloc (.cells #[] 36)).ownsRow (wr.heap.size + 1) 36 1 (.slice (some ⟨wr.heap.size + 1, 0, none⟩) 0 0) 0 [] by simpa using own_empty (wr.alloc (.cells #[.int .i64 0, .slice none 0 0] 24)) 36) 1) hgr (by first | (simp; done) | (simp; omega)) (by first | exact Nat.le_refl _ | exact Nat.le_succ _ | omega)); have hs7 := HBA.out.size; have hX7 : GB w7 wr.heap.size 24 (.int .i64 0) (.slice none 0 0) := GB.appended (GB.drewN ((GB.made wr 24 (.int .i64 0) (.slice none 0 0)).alloc (.cells #[] 36)) 1) (own_drewN (show ((wr.alloc (.cells #[.int .i64 0, .slice none 0 0] 24)).alloc (.cells #[] 36)).ownsRow (wr.heap.size + 1) 36 1 (.slice (some ⟨wr.heap.size + 1, 0, none⟩) 0 0) 0 [] by simpa using own_empty (wr.alloc (.cells #[.int .i64 0, .slice none 0 0] 24)) 36) 1) hgr (by decide); have x0 := hX7.c0; have x1 := hX7.c1; have f0 := hX7.f0; have f1 := hX7.f1; have lx := hX7.lt; have HX7 := Lib.hid hX7; clear hX7; clear hown' hgr hor)))
        · go_wp2_with fail
          go_meet
          refine ⟨w7.heap.size, A7, c7, rfl, Lib.hid ⟨(HG5.out.new HBA.out).alloc _, GB.made _ _ _ _, (HP5.out.below HBA.out HP5.out.lt).alloc _, ?_, (bthen HB5.out HBA.out HB5.out.size).alloc (by have := HB5.out.size; omega) _, ⟨by omega, by have := HP5.out.lt; omega⟩, by simp; omega⟩⟩
          exact World.ownsRow.alloc (own_lower HO7.out (by omega)) _
        · go_wp2_with fail
          go_meet
          refine ⟨wr.heap.size + 1, A7, c7, rfl, Lib.hid ⟨GB.far (GB.far (HG5.out.new HBA.out) (by show w.heap.size ≠ wr.heap.size + 1; omega) _) (by show w.heap.size ≠ wr.heap.size + 1; omega) _, (HX7.out.set0 _).set1 _, ((HP5.out.below HBA.out HP5.out.lt).far (p := ⟨wr.heap.size + 1, 0, none⟩) (by have := HP5.out.lt; show gp ≠ wr.heap.size + 1; omega) _).far (p := ⟨wr.heap.size + 1, 1, none⟩) (by have := HP5.out.lt; show gp ≠ wr.heap.size + 1; omega) _, ?_, two_set (bthen HB5.out HBA.out HB5.out.size) (by omega) _ _, ⟨by omega, by omega⟩, by simp; omega⟩⟩
          exact own_far (own_far (own_lower HO7.out (by omega)) HX7.out.blk (by decide) 0 _) (HX7.out.set0 _).blk (by decide) 1 _
        · go_wp2_with fail
          go_meet
          refine ⟨wr.heap.size, A7, c7, rfl, Lib.hid ⟨GB.far (GB.far (HG5.out.new HBA.out) (by show w.heap.size ≠ wr.heap.size; omega) _) (by show w.heap.size ≠ wr.heap.size; omega) _, (HX7.out.set0 _).set1 _, ((HP5.out.below HBA.out HP5.out.lt).far (p := ⟨wr.heap.size, 0, none⟩) (by have := HP5.out.lt; show gp ≠ wr.heap.size; omega) _).far (p := ⟨wr.heap.size, 1, none⟩) (by have := HP5.out.lt; show gp ≠ wr.heap.size; omega) _, ?_, two_set (bthen HB5.out HBA.out HB5.out.size) (by omega) _ _, ⟨by omega, by omega⟩, by simp; omega⟩⟩
          exact own_far (own_far (own_lower HO7.out (by omega)) HX7.out.blk (by decide) 0 _) (HX7.out.set0 _).blk (by decide) 1 _
      case rest =>
        obtain ⟨gx, A', c', rfl, HX⟩ := hcut
        clear HEW HB5 HG5 HP5 HG1 HGP HB1 HLn hz1 hz2 hws
        have hxs := HX.out.sz
        clear hii hzz hs1 hby g0 g1 glt
        go_upto_region 11 with (fail)
        go_loopw [52] (fun iv wr => ∃ (i : Nat) (p : List Int) (xs : List Nat), iv = .int .i64 i ∧ i ≤ np ∧ Hid ((PermOk n p ∧ xs.Perm es) ∧ RnSt w n A len c gx gp A' c' p xs wr)) (fun iv _ => np - (intOf iv).toNat)
        case atStart => exact ⟨0, L, es, rfl, Nat.zero_le _, Lib.hid ⟨⟨HPM.out, List.Perm.refl _⟩, HX.out⟩⟩
        case round =>
          obtain ⟨i, p, xs, rfl, hi, HI⟩ := hrel
          have HS := Lib.hid HI.out.2
          have HPO := Lib.hid HI.out.1.1
          have HXP := Lib.hid HI.out.1.2
          clear HI
          by_cases hin2 : i < np
          · obtain ⟨ad, rfl, hadl, hcell⟩ := (HP.out.new HS.out.bl).at_ hin2
            have hb256 := HP.out.lt hin2
            generalize nth bs i = b at *
            have g0 := HS.out.b3.c0
            go_upto_if 59 with (fail)
            clear hcell
            go_cut [12] (fun _ wx => ∃ p', Hid (PermOk n p' ∧ RnSt w n A len c gx gp A' c' p' xs wx))
            case first =>
              by_cases hn0 : n = 0
              · have t13 : decide ((n : Int) > 0) = false := by simp [hn0]
                have t14 : decide (0 < n) = false := by simp [hn0]
                have t15 : ¬ (0 : Int) < (n : Int) := by omega
                have t16 : ¬ 0 < n := by omega
                clear hn0
                go_wp2_with fail
                go_meet
                exact ⟨p, Lib.hid ⟨HPO.out, HS.out⟩⟩
              · have t13 : decide ((n : Int) > 0) = true := by simp; omega
                have t14 : decide (0 < n) = true := by simp; omega
                have nz : ((n : Int) == 0) = false := by simp; omega
                have e1 : (i : Int).tmod (n : Int) = ((i % n : Nat) : Int) := (Int.ofNat_tmod i n).symm
                have e2 : (b : Int).tmod (n : Int) = ((b % n : Nat) : Int) := (Int.ofNat_tmod b n).symm
                have ew : IntKind.i64.wrap (b : Int) = (b : Int) := IntWalk.i64_in _ (by omega)
                have hk : i % n < n := Nat.mod_lt _ (by omega)
                have hm : b % n < n := Nat.mod_lt _ (by omega)
                generalize i % n = k at *
                generalize b % n = m at *
                go_upto_region 14 with (fail)
                go_quiet (fail)
                clear e1 e2 ew nz t13 t14 g0
                have HS2 := Lib.hid (HS.out.drewN nq)
                clear HS
                generalize wr.drewN nq = wr2 at *
                have hpl : p.length = n := HPO.out.len
                have x1 : wr2.cell? ⟨gp, k, none⟩ = some (.int .i64 (inth p k)) := by rw [HS2.out.bp.cell, irow_get (by omega)]
                have x2 : wr2.cell? ⟨gp, m, none⟩ = some (.int .i64 (inth p m)) := by rw [HS2.out.bp.cell, irow_get (by omega)]
                have x3 := HS2.out.bp.frozen k
                have x4 := HS2.out.bp.frozen m
                have x5 := HS2.out.bp.lt
                have i1 : (0 : Int) ≤ (k : Int) := by omega
                have i2 : (k : Int) < (n : Int) := by omega
                have i3 : (0 : Int) ≤ (m : Int) := by omega
                have i4 : (m : Int) < (n : Int) := by omega
                obtain ⟨v5, x6⟩ := cell?_setCell_some (w := wr2) (p := ⟨gp, k, none⟩) (x := .int .i64 (inth p m)) (q := ⟨gp, m, none⟩) (v := .int .i64 (inth p m)) x2
                have x7 := (HS2.out.bp.set_ k (.int .i64 (inth p m))).frozen m
                clear hpl
                go_upto_region 15 with (fail)
                go_region
                go_wp2_with fail
                go_meet
                exact ⟨swapI p k m, Lib.hid ⟨HPO.out.swap hk hm, (HS2.out.swapP k m).drewN 1⟩⟩
            case rest =>
              obtain ⟨p', HQ⟩ := hcut
              clear HS HPO g0 p
              have HS := Lib.hid HQ.out.2
              have HPO := Lib.hid HQ.out.1
              clear HQ
              have g0 := HS.out.bx.c1
              have hxl : xs.length = len := by rw [HXP.out.length_eq]; exact HLE.out.symm
              have HXL := Lib.hid hxl; clear hxl
              by_cases hl0 : len = 0
              · have t17 : decide ((len : Int) > 0) = false := by simp [hl0]
                have t18 : ¬ (0 : Int) < (len : Int) := by omega
                have t19 : ¬ 0 < len := by omega
                clear hl0
                go_wp2_with fail
                exact ⟨⟨i + 1, p', xs, by go_num, by omega, Lib.hid ⟨⟨HPO.out, HXP.out⟩, HS.out⟩⟩, by simp [intOf]; omega⟩
              · have t17 : decide ((len : Int) > 0) = true := by simp; omega
                have t18 : decide (0 < len) = true := by simp; omega
                have nz : ((len : Int) == 0) = false := by simp; omega
                have e1 : (i : Int).tmod (len : Int) = ((i % len : Nat) : Int) := (Int.ofNat_tmod i len).symm
                have e2 : (b : Int).tmod (len : Int) = ((b % len : Nat) : Int) := (Int.ofNat_tmod b len).symm
                have ew : IntKind.i64.wrap (b : Int) = (b : Int) := IntWalk.i64_in _ (by omega)
                have hk : i % len < len := Nat.mod_lt _ (by omega)
                have hm : b % len < len := Nat.mod_lt _ (by omega)
                generalize i % len = k at *
                generalize b % len = m at *
                go_upto_region 17 with (fail)
                go_quiet (fail)
                clear e1 e2 ew nz t17 t18 g0
                have HS2 := Lib.hid (HS.out.drewN nq)
                clear HS
                generalize wc.drewN nq = wr2 at *
                obtain ⟨g4, cap, hv, hb4, hg4⟩ := HS2.out.ow.form (by omega)
                injection hv with hv1 _ hv2
                subst hv1; subst hv2
                have hg41 : w.heap.size + 1 ≤ g4 := hb4
                have x1 : wr2.cell? ⟨g4, k, none⟩ = some (.int .u32 (nth xs k : Int)) := by
                  rw [HS2.out.ow.cellAt k (by omega)]
                  have h1 : k < xs.length := by have := HXL.out; omega
                  simp [U32, nth, List.getD, h1]
                have x2 : wr2.cell? ⟨g4, m, none⟩ = some (.int .u32 (nth xs m : Int)) := by
                  rw [HS2.out.ow.cellAt m (by omega)]
                  have h1 : m < xs.length := by have := HXL.out; omega
                  simp [U32, nth, List.getD, h1]
                have x3 := HS2.out.ow.frozenAt k
                have x4 := HS2.out.ow.frozenAt m
                have g0 := HS2.out.bx.c1
                have HS3 := Lib.hid (HS2.out.swapX hg41 k (nth xs m))
                have x8 := HS3.out.bx.c1
                have x7 := HS3.out.ow.frozenAt m
                obtain ⟨v5, x6⟩ := cell?_setCell_some (w := wr2) (p := ⟨g4, k, none⟩) (x := .int .u32 (nth xs m : Int)) (q := ⟨g4, m, none⟩) (v := .int .u32 (nth xs m : Int)) x2
                have i1 : (0 : Int) ≤ (k : Int) := by omega
                have i2 : (k : Int) < (len : Int) := by omega
                have i3 : (0 : Int) ≤ (m : Int) := by omega
                have i4 : (m : Int) < (len : Int) := by omega
                go_upto_region 18 with (fail)
                go_region
                go_wp2_with fail
                exact ⟨⟨i + 1, p', swapN xs k m, by go_num, by omega, Lib.hid ⟨⟨HPO.out, (swapN_perm (by have := HXL.out; omega) (by have := HXL.out; omega)).trans HXP.out⟩, (HS3.out.swapX hg41 m (nth xs k)).drewN 1⟩⟩, by simp [intOf]; omega⟩
          · obtain rfl : np = i := by omega
            have HXL := Lib.hid (show xs.length = len by rw [HXP.out.length_eq]; exact HLE.out.symm)
            have HXB := Lib.hid (show ∀ e ∈ xs, e < 2 ^ n from fun e he => HES.out e (HXP.out.mem_iff.1 he))
            have g0 := HS.out.bx.c1
            go_upto_region 21 with (fail)
            clear g0
            go_loopw [120] (fun iv wr => ∃ (j : Nat) (ys : List Nat), iv = .int .i64 j ∧ j ≤ len ∧ Hid ((ys.length = len ∧ (∀ t, t < j → nth ys t = imgTo p (nth xs t) n) ∧ ∀ t, j ≤ t → nth ys t = nth xs t) ∧ RnSt w n A len c gx gp A' c' p ys wr)) (fun iv _ => len - (intOf iv).toNat)
            case atStart => exact ⟨0, xs, rfl, Nat.zero_le _, Lib.hid ⟨⟨HXL.out, fun t h => by omega, fun t _ => rfl⟩, HS.out⟩⟩
            case round =>
              obtain ⟨j, ys, rfl, hj, HI⟩ := hrel
              have HSY := Lib.hid HI.out.2
              have HY := Lib.hid HI.out.1
              clear HI
              by_cases hjl : j < len
              · obtain ⟨g4, cap, hv, hb4, hg4⟩ := HSY.out.ow.form (by omega)
                injection hv with hv1 _ hv2
                subst hv1; subst hv2
                have hg41 : w.heap.size + 1 ≤ g4 := hb4
                have x1 : wr.cell? ⟨g4, j, none⟩ = some (.int .u32 (nth xs j : Int)) := by
                  rw [HSY.out.ow.cellAt j (by omega), ← HY.out.2.2 j (Nat.le_refl _)]
                  have h1 : j < ys.length := by have := HY.out.1; omega
                  simp [U32, nth, List.getD, h1]
                have x3 := HSY.out.ow.frozenAt j
                have g1 := HSY.out.b3.c0
                have g2 := HSY.out.bx.c1
                have he32 : nth xs j < 4294967296 := by
                  have h1 := HXB.out _ (nth_mem (show j < xs.length by have := HXL.out; omega))
                  exact Nat.lt_of_lt_of_le h1 (Nat.le_trans (two_pow_le (show n ≤ 32 by omega)) (by decide))
                have i1 : (0 : Int) ≤ (j : Int) := by omega
                have i2 : (j : Int) < (len : Int) := by omega
                generalize hee : nth xs j = e at *
                have HEE := Lib.hid hee; clear hee
                go_upto_region 25 with (fail)
                go_loop [18, 127] (fun sv iv => ∃ v : Nat, iv = .int .i64 v ∧ v ≤ n ∧ sv = .int .u32 (imgTo p e v : Nat)) (fun _ iv => n - (intOf iv).toNat)
                case atStart => exact ⟨0, rfl, Nat.zero_le _, rfl⟩
                case round =>
                  obtain ⟨v, rfl, hv, rfl⟩ := hrel
                  have hi32 : imgTo p e v < 4294967296 := Nat.lt_of_lt_of_le (img_lt HPO.out e v hv) (Nat.le_trans (two_pow_le (show n ≤ 32 by omega)) (by decide))
                  by_cases hvn : v < n
                  · have hbit := bit_one' e v he32
                    have HST := Lib.hid (show imgTo p e (v + 1) = if e.testBit v then imgTo p e v ||| 2 ^ (inth p v).toNat else imgTo p e v from rfl)
                    have i3 : (0 : Int) ≤ (v : Int) := by omega
                    have i4 : (v : Int) < 32 := by omega
                    cases hb : e.testBit v with
                    | false =>
                      rw [hb] at hbit
                      have hst := HST.out
                      rw [hb, if_neg (by simp)] at hst
                      have HST2 := Lib.hid hst; clear hst hb
                      generalize imgTo p e v = q at *
                      go_wp2_with fail
                      exact ⟨⟨v + 1, by go_num, by omega, by rw [HST2.out]⟩, by simp [intOf]; omega⟩
                    | true =>
                      rw [hb] at hbit
                      have hst := HST.out
                      rw [hb, if_pos rfl] at hst
                      obtain ⟨y0, y1⟩ := HPO.out.rng v hvn
                      obtain ⟨y, hy⟩ := Int.eq_ofNat_of_zero_le y0
                      have hpl : p.length = n := HPO.out.len
                      have x5 : wr.cell? ⟨gp, v, none⟩ = some (.int .i64 (y : Int)) := by rw [HSY.out.bp.cell, irow_get (by omega), hy]
                      rw [hy, Int.toNat_natCast] at hst
                      rw [hy] at y1
                      have HST2 := Lib.hid hst
                      have i5 : (v : Int) < (n : Int) := by omega
                      have i6 : (0 : Int) ≤ (y : Int) := by omega
                      have i7 : (y : Int) < 32 := by omega
                      have hpy : 2 ^ y < 4294967296 := pow2_lt32 (by omega)
                      have eor := bits_or (imgTo p e v) (2 ^ y) hi32 hpy
                      rw [← shl_mod y (by omega)] at eor
                      clear hst hb y0 hy hpl
                      generalize imgTo p e v = q at *
                      go_wp2_with fail
                      exact ⟨⟨v + 1, by go_num, by omega, by rw [HST2.out]⟩, by simp [intOf]; omega⟩
                  · obtain rfl : n = v := by omega
                    have HIE := Lib.hid (show imgTo p e n = imgTo p (nth xs j) n by rw [HEE.out])
                    generalize imgTo p e n = q at *
                    go_wp2_with fail
                    refine ⟨⟨j + 1, ys.set j q, by go_num, by omega, Lib.hid ⟨⟨by rw [List.length_set]; exact HY.out.1, fun t ht => ?_, fun t ht => ?_⟩, HSY.out.swapX hg41 j q⟩⟩, by simp [intOf]; omega⟩
                    · rw [nth_set (by rw [HY.out.1]; exact hjl)]
                      by_cases htj : t = j
                      · rw [if_pos htj, htj]; exact HIE.out
                      · rw [if_neg htj]; exact HY.out.2.1 t (by omega)
                    · rw [nth_set (by rw [HY.out.1]; exact hjl), if_neg (by omega)]; exact HY.out.2.2 t (by omega)
              · obtain rfl : len = j := by omega
                obtain ⟨hac, hby⟩ := acyc_img (show n ≤ 32 by omega) HPO.out HXP.out HES.out (by rw [HY.out.1, HXL.out]) (fun t ht => HY.out.2.1 t (by have := HY.out.1; omega))
                have HAC := Lib.hid hac; have HBY := Lib.hid hby
                have HCY := Lib.hid (check_ok (show n ≤ 32 by omega) (by have := HY.out.1; omega) hby)
                have HYL := Lib.hid HY.out.1
                clear hac hby
                have hEY : Es wr wr.heap.size A' len ys := ⟨Reads.of_own HSY.out.ow, ⟨HYL.out.symm, by omega⟩, fun e he => Nat.lt_of_lt_of_le (HBY.out e he) (Nat.le_trans (two_pow_le (show n ≤ 32 by omega)) (by decide))⟩
                have HEY := Lib.hid hEY; clear hEY
                have g0 := HSY.out.b3.c0; have g1 := HSY.out.b3.c1; have l3 := HSY.out.b3.lt
                go_wp2_with fail
                refine (acyclic_ok n A es len c _ (HR.out.new HSY.out.bl) HC.out).mono ?_
                rintro e w5 ⟨b1, hb1, rfl, hb⟩
                have HB5 := Lib.hid hb; clear hb g0 g1 l3
                have HX5 := Lib.hid (HSY.out.bx.new HB5.out)
                have HO5 := Lib.hid (own_below HSY.out.ow HB5.out)
                have HBL5 := Lib.hid (bthen HSY.out.bl HB5.out HSY.out.bl.size)
                have g0 := HX5.out.c0; have g1 := HX5.out.c1; have l3 := HX5.out.lt
                go_wp2_with fail
                refine (acyclic_ok n A' ys len c' _ (HEY.out.new HB5.out) HCY.out).mono ?_
                rintro e w6 ⟨b2, hb2, rfl, hb⟩
                obtain rfl : b2 = b1 := by rw [Bool.eq_iff_iff, hb2, hb1]; exact HAC.out
                have HB1 := Lib.hid hb2
                have HX6 := Lib.hid (HX5.out.new hb)
                have HO6 := Lib.hid (own_below HO5.out hb)
                have HBL6 := Lib.hid (bthen HBL5.out hb HBL5.out.size)
                have HEY6 := Lib.hid (HEY.out.new (bthen HB5.out hb HB5.out.size))
                clear hb hb1 hb2 g0 g1 l3
                have g0 := HX6.out.c0; have g1 := HX6.out.c1; have l3 := HX6.out.lt
                have tne : (b2 != b2) = false := by cases b2 <;> rfl
                by_cases hl0 : len = 0
                · have t17 : decide ((len : Int) > 0) = false := by simp [hl0]
                  have t18 : ¬ (0 : Int) < (len : Int) := by omega
                  have t19 : ¬ 0 < len := by omega
                  clear hl0
                  go_wp2_with fail
                  refine (awake26_any _).mono ?_
                  rintro e w8 ⟨rfl, hb⟩
                  have HX8 := Lib.hid (HX6.out.new hb)
                  have HBL8 := Lib.hid (bthen HBL6.out hb HBL6.out.size)
                  have HEY8 := Lib.hid (HEY6.out.new hb)
                  clear hb g0 g1 l3
                  have g0 := HX8.out.c0; have g1 := HX8.out.c1; have l3 := HX8.out.lt
                  go_wp2_with fail
                  refine (acyclic_ok n A' ys len c' _ HEY8.out HCY.out).mono ?_
                  rintro e w9 ⟨b3, hb3, rfl, hb⟩
                  obtain rfl : b3 = b2 := by rw [Bool.eq_iff_iff, hb3, HB1.out]
                  have HBL9 := Lib.hid (bthen HBL8.out hb HBL8.out.size)
                  clear hb hb3
                  have teq : (b3 == b3) = true := by cases b3 <;> rfl
                  go_wp2_with fail
                  go_ret
                  exact ⟨rfl, HBL9.out⟩
                · have t17 : decide ((len : Int) > 0) = true := by simp; omega
                  have t18 : decide (0 < len) = true := by simp; omega
                  obtain ⟨g4, cap, hv, hb4, hg4⟩ := HO6.out.form (by omega)
                  injection hv with hv1 hv3 hv2
                  subst hv1; subst hv2
                  clear hv3
                  have hg41 : w.heap.size + 1 ≤ g4 := hb4
                  have hyl : 0 < ys.length := by have := HYL.out; omega
                  have x1 : w6.cell? ⟨g4, 0, none⟩ = some (.int .u32 (nth ys 0 : Int)) := by
                    rw [HO6.out.cellAt 0 (by omega)]
                    simp [U32, nth, List.getD, hyl]
                  have hy32 : nth ys 0 < 4294967296 := Nat.lt_of_lt_of_le (HBY.out _ (nth_mem hyl)) (Nat.le_trans (two_pow_le (show n ≤ 32 by omega)) (by decide))
                  obtain ⟨ham, hbm⟩ := acyc_more (e := nth ys 0 &&& ins) (show n ≤ 32 by omega) HBY.out (nth_mem hyl) (fun v hv => by rw [Nat.testBit_and, Bool.and_eq_true] at hv; exact hv.1)
                  have HAM := Lib.hid ham; have HBM := Lib.hid hbm
                  have HCM := Lib.hid (check_ok (show n ≤ 32 by omega) (by simp; have := HYL.out; omega) hbm)
                  clear ham hbm
                  have eand := bits_and (nth ys 0) ins hy32 hin
                  have f1 := HX6.out.f1
                  have HOL := Lib.hid (show w6.ownsRow (w.heap.size + 1) 36 1 (.slice (some ⟨g4, 0, none⟩) len c') ys.length (U32 ys) by rw [HYL.out]; exact HO6.out)
                  have hbs : w.heap.size + 1 ≤ w6.heap.size := by have := HBL6.out.size; have := HX6.out.lt; have := HSY.out.sz; omega
                  have t20 : 0 < len := by omega
                  have t21 : (0 : Int) < (len : Int) := by omega
                  clear hyl
                  generalize nth ys 0 = y0 at *
                  generalize hx0 : y0 &&& ins = x0 at *
                  clear hx0
                  go_upto_region 36 with (fail)
                  go_cut [160] (fun _ wx => ∃ A9 c9, Hid (GB wx gx 24 (.int .i64 (n : Int)) (.slice A9 (ys.length + 1) c9) ∧ wx.ownsRow (w.heap.size + 1) 36 1 (.slice A9 (ys.length + 1) c9) (ys.length + 1) (U32 (ys ++ [x0])) ∧ Below w.heap.size w wx))
                  case first =>
                    go_region_law (first
                      | ((refine step_app_u32' rfl _ _ rfl (w.heap.size + 1) (.slice (some ⟨g4, 0, none⟩) len c') ys rfl (World.ownsRow.alloc (own_drewN HOL.out 1) _) w6.heap.size x0 rfl (Blk.new _ _ _) (by have := HYL.out; omega) (by simp; try omega) ?_; intro v' w7 hown' hgr hor; obtain ⟨A9, c9, rfl⟩ := own_form hown'; have HO9 := Lib.hid hown'; have hX9 := GB.appended ((HX6.out.drewN 1).alloc _) (World.ownsRow.alloc (own_drewN HOL.out 1) _) hgr (by decide); have k1 := hX9.c1; have q1 := hX9.f1; have l9 := hX9.lt; have HX9 := Lib.hid hX9; have HBL9 := Lib.hid (Below.appended ((below_drewN HBL6.out 1).alloc (by first | omega | (simp; omega)) _) (World.ownsRow.alloc (own_drewN HOL.out 1) _) hgr (by simp; try omega) (by omega)); clear hown' hgr hor hX9)))
                    all_goals
                      go_wp2_with fail
                      go_meet
                      exact ⟨A9, c9, Lib.hid ⟨HX9.out.set1 _, own_far (by have h := HO9.out; rwa [show (ys ++ [x0]).length = ys.length + 1 by simp] at h) HX9.out.blk (by decide) 1 _, HBL9.out.setCell (p := ⟨gx, 1, none⟩) (by have := HSY.out.sz; show w.heap.size ≤ gx; omega) _⟩⟩
                  case rest =>
                    obtain ⟨A9, c9, HZ⟩ := hcut
                    have HXZ := Lib.hid HZ.out.1
                    have HBZ := Lib.hid HZ.out.2.2
                    have hEZ : Es wc wc.heap.size A9 (ys.length + 1) (ys ++ [x0]) := ⟨Reads.of_own HZ.out.2.1, ⟨by simp, by have := HYL.out; omega⟩, fun e he => Nat.lt_of_lt_of_le (HBM.out e he) (Nat.le_trans (two_pow_le (show n ≤ 32 by omega)) (by decide))⟩
                    have HEZ := Lib.hid hEZ; clear hEZ HZ
                    clear g0 g1 l3 f1 x1 eand
                    go_wp2_with fail
                    refine (awake26_any _).mono ?_
                    rintro e w8 ⟨rfl, hb⟩
                    have HX8 := Lib.hid (HXZ.out.new hb)
                    have HBL8 := Lib.hid (bthen HBZ.out hb HBZ.out.size)
                    have HEY8 := Lib.hid (HEZ.out.new hb)
                    clear hb
                    have g0 := HX8.out.c0; have g1 := HX8.out.c1; have l3 := HX8.out.lt
                    go_wp2_with fail
                    refine (acyclic_ok n A9 (ys ++ [x0]) (ys.length + 1) c9 _ HEY8.out HCM.out).mono ?_
                    rintro e w9 ⟨b3, hb3, rfl, hb⟩
                    obtain rfl : b3 = b2 := by rw [Bool.eq_iff_iff, hb3, HB1.out]; exact HAM.out
                    have HBL9 := Lib.hid (bthen HBL8.out hb HBL8.out.size)
                    clear hb hb3
                    have teq : (b3 == b3) = true := by cases b3 <;> rfl
                    go_wp2_with fail
                    go_ret
                    exact ⟨rfl, HBL9.out⟩
end Go.Proofs.Ytkiahnffepbgpaa
