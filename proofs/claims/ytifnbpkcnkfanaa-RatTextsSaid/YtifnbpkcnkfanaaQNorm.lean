/-
  rat.Norm: the normal form of a fraction.
-/
import Derived.Test.YtifnbpkcnkfanaaQGcd
namespace Go.Proofs.Ytifnbpkcnkfanaa
open Go.RowKit

/-- Block g is a struct of three cells (a boxed Rat). -/
def TB (w : World) (g : Nat) (t : TypeId) (x y z : Value) : Prop := Blk w g t #[x, y, z]
section
variable {w w' : World} {g : Nat} {t : TypeId} {x y z : Value}
theorem TB.blk (h : TB w g t x y z) : Blk w g t #[x, y, z] := h
theorem TB.c0 (h : TB w g t x y z) : w.cell? ⟨g, 0, none⟩ = some x := by rw [h.blk.cell]; rfl
theorem TB.c1 (h : TB w g t x y z) : w.cell? ⟨g, 1, none⟩ = some y := by rw [h.blk.cell]; rfl
theorem TB.c2 (h : TB w g t x y z) : w.cell? ⟨g, 2, none⟩ = some z := by rw [h.blk.cell]; rfl
theorem TB.f0 (h : TB w g t x y z) : w.frozen? ⟨g, 0, none⟩ = false := h.blk.frozen 0
theorem TB.f1 (h : TB w g t x y z) : w.frozen? ⟨g, 1, none⟩ = false := h.blk.frozen 1
theorem TB.f2 (h : TB w g t x y z) : w.frozen? ⟨g, 2, none⟩ = false := h.blk.frozen 2
theorem TB.lt (h : TB w g t x y z) : g < w.heap.size := h.blk.lt
theorem TB.below (h : TB w g t x y z) {B : Nat} (hb : Below B w w') (hg : g < B) : TB w' g t x y z := h.blk.below hb hg
theorem TB.new (h : TB w g t x y z) (hb : Below w.heap.size w w') : TB w' g t x y z := h.blk.below hb h.lt
theorem TB.alloc (h : TB w g t x y z) (o : Obj) : TB (w.alloc o) g t x y z := h.blk.alloc o
theorem TB.set3 (h : TB w g t x y z) (a b c : Value) : Blk (((w.setCell ⟨g, 0, none⟩ a).setCell ⟨g, 1, none⟩ b).setCell ⟨g, 2, none⟩ c) g t #[a, b, c] := ((h.blk.set_ 0 a).set_ 1 b).set_ 2 c
theorem TB.made (w : World) (t : TypeId) (x y z : Value) : TB (w.alloc (.cells #[x, y, z] t)) w.heap.size t x y z := Blk.new w t _
end

/-- The slices hold a fraction of the value x. -/
def Ra (w : World) (s : Bool) (A : Option Addr) (n c : Nat) (B : Option Addr) (m d b : Nat) (x : Rat) : Prop := ∃ N M, Num w A n c b N ∧ Num w B m d b M ∧ x = qv s N M
/-- .. the normal one. -/
def Rn (w : World) (s : Bool) (A : Option Addr) (n c : Nat) (B : Option Addr) (m d b : Nat) (x : Rat) : Prop :=
  s = decide (x.num < 0) ∧ (Num w A n c b x.num.natAbs ∧ Norm w A n x.num.natAbs) ∧ (Num w B m d b x.den ∧ Norm w B m x.den)
def RetQ (w : World) (b : Nat) (x : Rat) (e : Ending) (w' : World) : Prop :=
  ∃ s A n c B m d, e = .returned (.agg #[.bool s, .slice A n c, .slice B m d]) ∧ Rn w' s A n c B m d b x ∧ Below w.heap.size w w'
section
variable {w w' : World} {s : Bool} {A B : Option Addr} {n c m d b : Nat} {x : Rat}
theorem Ra.new (h : Ra w s A n c B m d b x) (hb : Below w.heap.size w w') : Ra w' s A n c B m d b x := by
  obtain ⟨N, M, h1, h2, h3⟩ := h
  exact ⟨N, M, h1.new hb, h2.new hb, h3⟩
theorem Rn.new (h : Rn w s A n c B m d b x) (hb : Below w.heap.size w w') : Rn w' s A n c B m d b x :=
  ⟨h.1, ⟨h.2.1.1.new hb, h.2.1.2.new hb⟩, ⟨h.2.2.1.new hb, h.2.2.2.new hb⟩⟩
theorem Rn.ra (h : Rn w s A n c B m d b x) : Ra w s A n c B m d b x := ⟨_, _, h.2.1.1, h.2.2.1, by rw [h.1, qv_self]⟩
end

theorem Es.far {w : World} {B n : Nat} {A : Option Addr} {ds : List Nat} (h : Es w B A n ds) {p : Addr} {v : Value} (hc : w.cell? p = some v) (hv : ∀ z, v ≠ .int .u32 z) (u : Value) : Es (w.setCell p u) B A n ds := by
  refine ⟨⟨h.1.1, fun hn => ?_⟩, h.2⟩
  obtain ⟨ad, rfl, hb, hx⟩ := h.1.2 hn
  refine ⟨ad, rfl, hb, fun j y hj => ?_⟩
  have h1 := hx j y hj
  rw [World.cell?_setCell_other w p (ad.add j) u]
  · exact h1
  · intro e
    rw [← e, hc] at h1
    cases h1
    exact hv _ (U32_get hj)
theorem size_setCell (w : World) (p : Addr) (u : Value) : (w.setCell p u).heap.size = w.heap.size := by simp [World.setCell]
section
variable {w : World} {g : Nat} {t : TypeId} {q : Bool} {a1 b1 : Option Addr} {a2 a3 b2 b3 : Nat}
theorem Es.store3 {n : Nat} {A : Option Addr} {ds : List Nat} (h : Es w w.heap.size A n ds) (ht : TB w g t (.bool q) (.slice a1 a2 a3) (.slice b1 b2 b3)) (x y z : Value) :
    Es (((w.setCell ⟨g, 0, none⟩ x).setCell ⟨g, 1, none⟩ y).setCell ⟨g, 2, none⟩ z) (((w.setCell ⟨g, 0, none⟩ x).setCell ⟨g, 1, none⟩ y).setCell ⟨g, 2, none⟩ z).heap.size A n ds := by
  rw [size_setCell, size_setCell, size_setCell]
  have h0 := h.far ht.c0 (by simp) x
  have c1 : (w.setCell ⟨g, 0, none⟩ x).cell? ⟨g, 1, none⟩ = some (.slice a1 a2 a3) := by rw [(ht.blk.set_ 0 x).cell]; rfl
  have h1 := h0.far c1 (by simp) y
  have c2 : ((w.setCell ⟨g, 0, none⟩ x).setCell ⟨g, 1, none⟩ y).cell? ⟨g, 2, none⟩ = some (.slice b1 b2 b3) := by rw [((ht.blk.set_ 0 x).set_ 1 y).cell]; rfl
  exact h1.far c2 (by simp) z
theorem Num.store3 {A : Option Addr} {k c b N : Nat} (h : Num w A k c b N) (ht : TB w g t (.bool q) (.slice a1 a2 a3) (.slice b1 b2 b3)) (x y z : Value) : Num (((w.setCell ⟨g, 0, none⟩ x).setCell ⟨g, 1, none⟩ y).setCell ⟨g, 2, none⟩ z) A k c b N := by
  obtain ⟨h1, h2, h3, h4, l, h5, h6⟩ := h
  exact ⟨h1, h2, h3, h4, l, h5.store3 ht x y z, h6⟩
theorem Norm.store3 {A : Option Addr} {k N : Nat} (h : Norm w A k N) (ht : TB w g t (.bool q) (.slice a1 a2 a3) (.slice b1 b2 b3)) (x y z : Value) : Norm (((w.setCell ⟨g, 0, none⟩ x).setCell ⟨g, 1, none⟩ y).setCell ⟨g, 2, none⟩ z) A k N := by
  obtain ⟨l, h5, h6⟩ := h
  exact ⟨l, h5.store3 ht x y z, h6⟩
theorem Rn.store3 {s : Bool} {A B : Option Addr} {n c m d b : Nat} {r : Rat} (h : Rn w s A n c B m d b r) (ht : TB w g t (.bool q) (.slice a1 a2 a3) (.slice b1 b2 b3)) (x y z : Value) : Rn (((w.setCell ⟨g, 0, none⟩ x).setCell ⟨g, 1, none⟩ y).setCell ⟨g, 2, none⟩ z) s A n c B m d b r :=
  ⟨h.1, ⟨h.2.1.1.store3 ht x y z, h.2.1.2.store3 ht x y z⟩, ⟨h.2.2.1.store3 ht x y z, h.2.2.2.store3 ht x y z⟩⟩
theorem below_store3 {B : Nat} {a : World} (h : Below B a w) (hg : B ≤ g) (x y z : Value) : Below B a (((w.setCell ⟨g, 0, none⟩ x).setCell ⟨g, 1, none⟩ y).setCell ⟨g, 2, none⟩ z) :=
  ((h.setCell (p := ⟨g, 0, none⟩) hg x).setCell (p := ⟨g, 1, none⟩) hg y).setCell (p := ⟨g, 2, none⟩) hg z
end
theorem PB_one {b : Nat} (h : 1 ≤ b) : 1 < PB b := Nat.lt_of_lt_of_le (show 1 < PB 1 by rw [PB]; omega) (PB_mono h)
theorem Num.more {w : World} {A : Option Addr} {k c a b N : Nat} (h : Num w A k c a N) (hb : a ≤ b) : Num w A k c b N := h.up (Nat.lt_of_lt_of_le h.2.2.2.1 (PB_mono hb)) (by have := h.2.1; omega)

set_option maxRecDepth 100000 in
set_option maxHeartbeats 4000000 in
theorem qnorm_any {w : World} {s : Bool} {A B : Option Addr} {n c m d b : Nat} {x : Rat} (h : Ra w s A n c B m d b x) (hb5 : b ≤ 5000) :
    Calls Try.prog 18 #[.agg #[.bool s, .slice A n c, .slice B m d]] w (RetQ w b x) := by
  obtain ⟨N, M, hA, hB, hx⟩ := h
  have HA := Lib.hid hA; have HB := Lib.hid hB; have HX := Lib.hid hx; clear hA hB hx
  go_enter Try.func18, Try.ntmps18
  go_wp2_with fail
  have hT0 : TB ((w.alloc (.cells #[.bool s, .slice A n c, .slice B m d] 29)).alloc (.cells #[.bool false, .slice none 0 0, .slice none 0 0] 29)) w.heap.size 29 (.bool s) (.slice A n c) (.slice B m d) := (TB.made w _ _ _ _).alloc _
  have hT1 : TB ((w.alloc (.cells #[.bool s, .slice A n c, .slice B m d] 29)).alloc (.cells #[.bool false, .slice none 0 0, .slice none 0 0] 29)) (w.heap.size + 1) 29 (.bool false) (.slice none 0 0) (.slice none 0 0) := by simpa using TB.made (w.alloc (.cells #[.bool s, .slice A n c, .slice B m d] 29)) 29 (.bool false) (.slice none 0 0) (.slice none 0 0)
  have hW : Below w.heap.size w ((w.alloc (.cells #[.bool s, .slice A n c, .slice B m d] 29)).alloc (.cells #[.bool false, .slice none 0 0, .slice none 0 0] 29)) := (al w _).alloc (by simp) _
  generalize (w.alloc (.cells #[.bool s, .slice A n c, .slice B m d] 29)).alloc (.cells #[.bool false, .slice none 0 0, .slice none 0 0] 29) = w0 at hT0 hT1 hW ⊢
  replace HA := Lib.hid (HA.out.new hW); replace HB := Lib.hid (HB.out.new hW)
  have HW := Lib.hid hW; clear hW
  have c0 := hT0.c0; have c1 := hT0.c1; have c2 := hT0.c2
  have l0 : w.heap.size < w0.heap.size := hT0.lt
  have T0 := Lib.hid hT0; have T1 := Lib.hid hT1; clear hT0 hT1
  go_region_held3 (fun w' => (∀ p : Addr, p.block < w0.heap.size → w'.cell? p = w0.cell? p) ∧ Below w0.heap.size w0 w')
    ((refine olds ?_; first | exact Below.refl _ _ | exact Below.drew (Below.refl _ _) | exact Hid.out ‹_›))
    (first
      | (go_at_call 43; refine (norm_n (HA.out.new (And.right ‹_ ∧ Below w0.heap.size w0 _›)) (by omega)).mono ?_; rintro e w5 ⟨A5, k5, c5, rfl, h5, j5, hb⟩; have HB5 := Lib.hid (bthen (And.right ‹_ ∧ Below w0.heap.size w0 _›) hb (Below.size (And.right ‹_ ∧ Below w0.heap.size w0 _›))); have H5 := Lib.hid h5; have J5 := Lib.hid j5; clear hb h5 j5)
      | (go_at_call 43; refine (norm_n (HB.out.new (And.right ‹_ ∧ Below w0.heap.size w0 _›)) (by omega)).mono ?_; rintro e w6 ⟨A6, k6, c6, rfl, h6, j6, hb⟩; have HB6 := Lib.hid (bthen (And.right ‹_ ∧ Below w0.heap.size w0 _›) hb (Below.size (And.right ‹_ ∧ Below w0.heap.size w0 _›))); replace H5 := Lib.hid (H5.out.new hb); replace J5 := Lib.hid (J5.out.new hb); have H6 := Lib.hid h6; have J6 := Lib.hid j6; clear hb h6 j6))
  replace T0 := Lib.hid (T0.out.new HB6.out)
  clear c0
  have c0 := T0.out.c0
  replace T1 := Lib.hid (T1.out.new HB6.out)
  replace HW := Lib.hid (bthen HW.out HB6.out HW.out.size)
  clear HB6 HB5 c1 c2 l0 HA HB
  have Z5 := Lib.hid J5.out.zero; have Z6 := Lib.hid J6.out.zero
  by_cases hz : N = 0 ∨ M = 0
  · have hpick : k5 = 0 ∨ (k5 ≠ 0 ∧ k6 = 0) := by
      rcases hz with h | h
      · left; exact Z5.out.2 h
      · by_cases h5 : k5 = 0
        · left; exact h5
        · right; exact ⟨h5, Z6.out.2 h⟩
    clear hz
    rcases hpick with h0 | ⟨h0, h1⟩
    · have hN := Z5.out.1 h0
      have HX0 := Lib.hid (show x = 0 by rw [HX.out, hN, qv_zero])
      subst h0
      subst hN
      clear Z5 Z6 HX
      cases s
      all_goals
        go_wp2_with fail
        refine (of_n 1 (by omega) _).mono ?_
        rintro e w7 ⟨A7, k7, c7, rfl, h7, j7, hb⟩
        have hT := T1.out.new hb
        have r0 := hT.c0; have r1 := hT.c1; have r2 := hT.c2; have f0 := hT.f0; have f1 := hT.f1; have f2 := hT.f2
        have hR : Rn w7 false A5 0 c5 A7 k7 c7 b x := by rw [HX0.out]; exact ⟨rfl, ⟨H5.out.new hb, J5.out.new hb⟩, ⟨h7.up (PB_one H5.out.2.1) H5.out.2.1, j7⟩⟩
        have HR := Lib.hid hR; have HT := Lib.hid hT
        replace HW := Lib.hid (bthen HW.out hb HW.out.size)
        clear hb hR hT h7 j7 c0 T1
        go_wp2_with fail
        refine bodyPost_ret (v := .agg #[.bool false, .slice A5 0 c5, .slice A7 k7 c7]) ?_ rfl ⟨_, _, _, _, _, _, _, rfl, HR.out.store3 HT.out _ _ _, below_store3 HW.out (by omega) _ _ _⟩
        exact results_cell_row Try.results18 _ _ _ _ _ (0, 0) _ rfl (HT.out.set3 _ _ _) Try.underlying29 rfl rfl
    · have t5 : ((k5 : Int) == 0) = false := by simp; omega
      have t6 : ((k6 : Int) == 0) = true := by simp [h1]
      have hM := Z6.out.1 h1
      have hN : N ≠ 0 := fun h => h0 (Z5.out.2 h)
      have g5 : 0 < k5 := by omega
      have HX0 := Lib.hid (show s = decide (x.num < 0) ∧ x.num.natAbs = N ∧ x.den = 1 by
        have e : x = qv s N 1 := by rw [HX.out, hM, qv_den0]
        rw [e, qv_neg (by omega) hN, qv_abs (by omega), qv_den (by omega)]; simp)
      clear Z5 Z6 HX h0 h1 hM hN
      cases s
      all_goals
        go_wp2_with fail
        refine (of_n 1 (by omega) _).mono ?_
        rintro e w7 ⟨A7, k7, c7, rfl, h7, j7, hb⟩
        have hT := T1.out.new hb
        have r0 := hT.c0; have r1 := hT.c1; have r2 := hT.c2; have f0 := hT.f0; have f1 := hT.f1; have f2 := hT.f2
        have hR : Rn w7 _ A5 k5 c5 A7 k7 c7 b x := ⟨HX0.out.1, by rw [HX0.out.2.1]; exact ⟨H5.out.new hb, J5.out.new hb⟩, by rw [HX0.out.2.2]; exact ⟨h7.up (PB_one H5.out.2.1) H5.out.2.1, j7⟩⟩
        have HR := Lib.hid hR; have HT := Lib.hid hT
        replace HW := Lib.hid (bthen HW.out hb HW.out.size)
        clear hb hR hT h7 j7 c0 T1
        go_wp2_with fail
        refine bodyPost_ret (v := .agg #[.bool _, .slice A5 k5 c5, .slice A7 k7 c7]) ?_ rfl ⟨_, _, _, _, _, _, _, rfl, HR.out.store3 HT.out _ _ _, below_store3 HW.out (by omega) _ _ _⟩
        exact results_cell_row Try.results18 _ _ _ _ _ (0, 0) _ rfl (HT.out.set3 _ _ _) Try.underlying29 rfl rfl
  · have hN : N ≠ 0 := fun h => hz (.inl h)
    have hM : M ≠ 0 := fun h => hz (.inr h)
    have t5 : ((k5 : Int) == 0) = false := by have : k5 ≠ 0 := fun h => hN (Z5.out.1 h); simp; omega
    have t6 : ((k6 : Int) == 0) = false := by have : k6 ≠ 0 := fun h => hM (Z6.out.1 h); simp; omega
    have HX0 := Lib.hid (show s = decide (x.num < 0) ∧ x.num.natAbs = N / Nat.gcd N M ∧ x.den = M / Nat.gcd N M by
      rw [HX.out, qv_neg hM hN, qv_abs hM, qv_den hM]; simp)
    have HG0 := Lib.hid (show Nat.gcd N M ≠ 0 by intro h; exact hN (Nat.eq_zero_of_gcd_eq_zero_left h))
    have HNZ := Lib.hid hN; have HMZ := Lib.hid hM
    clear hz hN hM Z5 Z6 HX c0
    go_wp2_with fail
    refine (bits_n H6.out).mono ?_
    rintro e w7 ⟨bb, rfl, hbits, hbb, rfl⟩
    by_cases hM1 : M = 1
    · subst hM1
      obtain rfl := hbits.one'
      clear hbits
      have HR := Lib.hid (show Rn w6 s A5 k5 c5 A6 k6 c6 b x from ⟨HX0.out.1, by rw [HX0.out.2.1]; simp only [Nat.gcd_one_right, Nat.div_one]; exact ⟨H5.out, J5.out⟩, by rw [HX0.out.2.2]; simp only [Nat.gcd_one_right, Nat.div_one]; exact ⟨H6.out, J6.out⟩⟩)
      have c0 := T0.out.c0
      have r0 := T1.out.c0; have r1 := T1.out.c1; have r2 := T1.out.c2; have f0 := T1.out.f0; have f1 := T1.out.f1; have f2 := T1.out.f2
      go_wp2_with fail
      refine bodyPost_end (v := .agg #[.bool s, .slice A5 k5 c5, .slice A6 k6 c6]) ?_ rfl ⟨_, _, _, _, _, _, _, rfl, HR.out.store3 T1.out _ _ _, below_store3 HW.out (by omega) _ _ _⟩
      exact results_cell_row Try.results18 _ _ _ _ _ (0, 0) _ rfl (T1.out.set3 _ _ _) Try.underlying29 rfl rfl
    · have hb2 := hbits.many (by have := HMZ.out; omega)
      have tb : decide ((1 : Int) < (bb : Int)) = true := by simp; omega
      clear hbits hM1 hb2
      go_wp2_with fail
      refine (common_any b hb5 M N A5 k5 c5 A6 k6 c6 _ H5.out H6.out).mono ?_
      rintro e w8 ⟨A8, k8, c8, rfl, h8, hb⟩
      replace T0 := Lib.hid (T0.out.new hb); replace T1 := Lib.hid (T1.out.new hb)
      replace HW := Lib.hid (bthen HW.out hb HW.out.size)
      replace H5 := Lib.hid (H5.out.new hb); replace J5 := Lib.hid (J5.out.new hb); replace H6 := Lib.hid (H6.out.new hb); replace J6 := Lib.hid (J6.out.new hb)
      have H8 := Lib.hid h8; clear h8 hb
      go_wp2_with fail
      refine (bits_n H8.out).mono ?_
      rintro e w9 ⟨b9, rfl, hbits, hb9, rfl⟩
      by_cases hg1 : Nat.gcd N M = 1
      · rw [hg1] at hbits
        obtain rfl := hbits.one'
        clear hbits
        have HR := Lib.hid (show Rn w8 s A5 k5 c5 A6 k6 c6 b x from ⟨HX0.out.1, by rw [HX0.out.2.1, hg1, Nat.div_one]; exact ⟨H5.out, J5.out⟩, by rw [HX0.out.2.2, hg1, Nat.div_one]; exact ⟨H6.out, J6.out⟩⟩)
        clear hg1
        have c0 := T0.out.c0
        have r0 := T1.out.c0; have r1 := T1.out.c1; have r2 := T1.out.c2; have f0 := T1.out.f0; have f1 := T1.out.f1; have f2 := T1.out.f2
        go_wp2_with fail
        refine bodyPost_end (v := .agg #[.bool s, .slice A5 k5 c5, .slice A6 k6 c6]) ?_ rfl ⟨_, _, _, _, _, _, _, rfl, HR.out.store3 T1.out _ _ _, below_store3 HW.out (by omega) _ _ _⟩
        exact results_cell_row Try.results18 _ _ _ _ _ (0, 0) _ rfl (T1.out.set3 _ _ _) Try.underlying29 rfl rfl
      · have hb2 := hbits.many (by have := HG0.out; omega)
        have t9 : decide ((1 : Int) < (b9 : Int)) = true := by simp; omega
        clear hbits hg1 hb2
        go_wp2_with fail
        refine (dm_n H5.out H8.out (by omega) (by omega)).mono ?_
        rintro e w10 ⟨-, h⟩
        obtain ⟨A3, k3, c3, A4, k4, c4, rfl, ⟨h3, j3⟩, -, hb⟩ := h HG0.out
        clear h
        replace T0 := Lib.hid (T0.out.new hb); replace T1 := Lib.hid (T1.out.new hb)
        replace HW := Lib.hid (bthen HW.out hb HW.out.size)
        replace H5 := Lib.hid (H5.out.new hb); replace J5 := Lib.hid (J5.out.new hb); replace H6 := Lib.hid (H6.out.new hb); replace J6 := Lib.hid (J6.out.new hb)
        replace H8 := Lib.hid (H8.out.new hb)
        have H3 := Lib.hid h3; have J3 := Lib.hid j3; clear h3 j3 hb
        go_wp2_with fail
        refine (dm_n H6.out H8.out (by omega) (by omega)).mono ?_
        rintro e w11 ⟨-, h⟩
        obtain ⟨A11, k11, c11, A12, k12, c12, rfl, ⟨h11, j11⟩, -, hb⟩ := h HG0.out
        clear h
        replace T0 := Lib.hid (T0.out.new hb); replace T1 := Lib.hid (T1.out.new hb)
        replace HW := Lib.hid (bthen HW.out hb HW.out.size)
        replace H5 := Lib.hid (H5.out.new hb); replace J5 := Lib.hid (J5.out.new hb); replace H6 := Lib.hid (H6.out.new hb); replace J6 := Lib.hid (J6.out.new hb)
        replace H3 := Lib.hid (H3.out.new hb); replace J3 := Lib.hid (J3.out.new hb)
        have HR := Lib.hid (show Rn w11 s A3 k3 c3 A11 k11 c11 b x from ⟨HX0.out.1, by rw [HX0.out.2.1]; exact ⟨H3.out, J3.out⟩, by rw [HX0.out.2.2]; exact ⟨h11, j11⟩⟩)
        clear h11 j11 hb
        have c0 := T0.out.c0
        have r0 := T1.out.c0; have r1 := T1.out.c1; have r2 := T1.out.c2; have f0 := T1.out.f0; have f1 := T1.out.f1; have f2 := T1.out.f2
        go_wp2_with fail
        refine bodyPost_end (v := .agg #[.bool s, .slice A3 k3 c3, .slice A11 k11 c11]) ?_ rfl ⟨_, _, _, _, _, _, _, rfl, HR.out.store3 T1.out _ _ _, below_store3 HW.out (by omega) _ _ _⟩
        exact results_cell_row Try.results18 _ _ _ _ _ (0, 0) _ rfl (T1.out.set3 _ _ _) Try.underlying29 rfl rfl
end Go.Proofs.Ytifnbpkcnkfanaa
