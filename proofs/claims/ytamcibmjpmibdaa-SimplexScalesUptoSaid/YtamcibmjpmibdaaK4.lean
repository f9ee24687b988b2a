/-
Plain facts on fractions: a sign, a numerator and a denominator as a rational number of Lean's own.
rat.common: the greatest common factor.
rat.Norm: the normal form of a fraction.
rat: Add, Mul.
rat.Add.
rat: Sign, divisor, Neg, Sub, Div, Cmp.
Plain facts: comparing fractions.
-/
import Derived.Test.YtamcibmjpmibdaaK1
import Derived.Test.YtamcibmjpmibdaaK3
import Derived.Laws.EntriesVeiled
import Derived.Deep.LoopGhost
import Derived.Deep.RegionLaw
namespace Go.Proofs.Ytamcibmjpmibdaa

/-- The value of a sign, a numerator and a denominator; a denominator of 0 counts as 1. -/
def qv (s : Bool) (N M : Nat) : Rat := mkRat (if s then -(N : Int) else (N : Int)) (if M = 0 then 1 else M)
theorem qv_zero (s : Bool) (M : Nat) : qv s 0 M = 0 := by
  unfold qv; cases s <;> simp
theorem qv_den0 (s : Bool) (N : Nat) : qv s N 0 = qv s N 1 := by simp [qv]
theorem natAbs_sg (s : Bool) (N : Nat) : (if s then -(N : Int) else (N : Int)).natAbs = N := by cases s <;> simp
theorem qv_num {s : Bool} {N M : Nat} (hM : M ≠ 0) : (qv s N M).num = if s then -((N / Nat.gcd N M : Nat) : Int) else ((N / Nat.gcd N M : Nat) : Int) := by
  unfold qv
  rw [if_neg hM, Rat.num_mkRat, if_neg hM, natAbs_sg, Nat.gcd_comm]
  have h : ((Nat.gcd N M : Nat) : Int) ∣ (N : Int) := Int.natCast_dvd_natCast.2 (Nat.gcd_dvd_left N M)
  cases s
  · simp
  · simp only [if_true]
    rw [Int.neg_ediv_of_dvd h]; simp
theorem qv_den {s : Bool} {N M : Nat} (hM : M ≠ 0) : (qv s N M).den = M / Nat.gcd N M := by
  unfold qv
  rw [if_neg hM, Rat.den_mkRat, if_neg hM, natAbs_sg, Nat.gcd_comm]
theorem qv_abs {s : Bool} {N M : Nat} (hM : M ≠ 0) : (qv s N M).num.natAbs = N / Nat.gcd N M := by
  rw [qv_num hM, natAbs_sg]
theorem qv_neg {s : Bool} {N M : Nat} (hM : M ≠ 0) (hN : N ≠ 0) : decide ((qv s N M).num < 0) = s := by
  rw [qv_num hM]
  have hg : 0 < Nat.gcd N M := Nat.gcd_pos_of_pos_left _ (by omega)
  have : 0 < N / Nat.gcd N M := Nat.div_pos (Nat.le_of_dvd (by omega) (Nat.gcd_dvd_left N M)) hg
  generalize N / Nat.gcd N M = k at *
  cases s <;> simp <;> omega
/-- A number is the fraction of its own parts. -/
theorem qv_self (x : Rat) : qv (decide (x.num < 0)) x.num.natAbs x.den = x := by
  unfold qv
  rw [if_neg x.den_nz]
  have : (if decide (x.num < 0) = true then -(x.num.natAbs : Int) else (x.num.natAbs : Int)) = x.num := by
    by_cases h : x.num < 0
    · rw [if_pos (by simpa using h)]; omega
    · rw [if_neg (by simpa using h)]; omega
  rw [this, Rat.mkRat_self]
def sg (s : Bool) : Rat := if s then -1 else 1
theorem qv_eq (s : Bool) (N M : Nat) (hM : M ≠ 0) : qv s N M = sg s * (N : Rat) / (M : Rat) := by
  unfold qv sg
  rw [if_neg hM, Rat.mkRat_eq_div]
  cases s
  · simp [Rat.one_mul]; rfl
  · simp only [if_true, Rat.intCast_neg]
    rw [Rat.neg_mul, Rat.one_mul]
    rfl
theorem cast_ne {M : Nat} (h : M ≠ 0) : (M : Rat) ≠ 0 := by
  intro h2
  apply h
  have : ((M : Rat)).num = (0 : Rat).num := by rw [h2]
  simpa using this
theorem sg_mul (s t : Bool) : sg s * sg t = sg (s != t) := by cases s <;> cases t <;> simp [sg] <;> grind
theorem sg_sq (s : Bool) : sg s * sg s = 1 := by rw [sg_mul]; simp [sg]
theorem qv_same {s : Bool} {a b c d : Nat} (hb : b ≠ 0) (hd : d ≠ 0) : qv s (a * d + c * b) (b * d) = qv s a b + qv s c d := by
  have hbd : b * d ≠ 0 := Nat.mul_ne_zero hb hd
  rw [qv_eq _ _ _ hbd, qv_eq _ _ _ hb, qv_eq _ _ _ hd, Rat.natCast_add, Rat.natCast_mul, Rat.natCast_mul, Rat.natCast_mul]
  have h1 := cast_ne hb
  have h2 := cast_ne hd
  generalize (a : Rat) = a at *
  generalize (b : Rat) = b at *
  generalize (c : Rat) = c at *
  generalize (d : Rat) = d at *
  generalize sg s = s at *
  grind
theorem sg_not (s : Bool) : sg (!s) = - sg s := by cases s <;> simp [sg]
theorem qv_diff {s : Bool} {a b c d : Nat} (hb : b ≠ 0) (hd : d ≠ 0) (h : c * b ≤ a * d) : qv s (a * d - c * b) (b * d) = qv s a b + qv (!s) c d := by
  have hbd : b * d ≠ 0 := Nat.mul_ne_zero hb hd
  have hs : ((a * d - c * b : Nat) : Rat) = (a : Rat) * (d : Rat) - (c : Rat) * (b : Rat) := by
    obtain ⟨k, hk⟩ := Nat.le.dest h
    rw [← hk, Nat.add_sub_cancel_left, ← Rat.natCast_mul, ← Rat.natCast_mul, ← hk, Rat.natCast_add]
    grind
  rw [qv_eq _ _ _ hbd, qv_eq _ _ _ hb, qv_eq _ _ _ hd, hs, Rat.natCast_mul, sg_not]
  have h1 := cast_ne hb
  have h2 := cast_ne hd
  generalize (a : Rat) = a at *
  generalize (b : Rat) = b at *
  generalize (c : Rat) = c at *
  generalize (d : Rat) = d at *
  generalize sg s = s at *
  grind
theorem qv_mul {s t : Bool} {a b c d : Nat} (hb : b ≠ 0) (hd : d ≠ 0) : qv (s != t) (a * c) (b * d) = qv s a b * qv t c d := by
  have hbd : b * d ≠ 0 := Nat.mul_ne_zero hb hd
  rw [qv_eq _ _ _ hbd, qv_eq _ _ _ hb, qv_eq _ _ _ hd, Rat.natCast_mul, Rat.natCast_mul, ← sg_mul]
  have h1 := cast_ne hb
  have h2 := cast_ne hd
  generalize (a : Rat) = a at *
  generalize (b : Rat) = b at *
  generalize (c : Rat) = c at *
  generalize (d : Rat) = d at *
  generalize sg s = s at *
  generalize sg t = t at *
  grind
theorem qv_inv {s : Bool} {a b : Nat} (ha : a ≠ 0) (hb : b ≠ 0) : qv s b a = (qv s a b)⁻¹ := by
  rw [qv_eq _ _ _ ha, qv_eq _ _ _ hb]
  have h1 := cast_ne ha
  have h2 := cast_ne hb
  have h3 := sg_sq s
  generalize (a : Rat) = a at *
  generalize (b : Rat) = b at *
  generalize sg s = s at *
  have h4 : s ≠ 0 := by intro h; rw [h] at h3; simp at h3
  symm
  apply Rat.inv_eq_of_mul_eq_one
  grind
theorem qv_negate (s : Bool) (N M : Nat) : qv (!s) N M = - qv s N M := by
  by_cases hM : M = 0
  · subst hM
    rw [qv_den0, qv_den0, qv_eq _ _ _ (by omega), qv_eq _ _ _ (by omega), sg_not]; grind
  · rw [qv_eq _ _ _ hM, qv_eq _ _ _ hM, sg_not]; grind
end Go.Proofs.Ytamcibmjpmibdaa
namespace Go.Proofs.Ytamcibmjpmibdaa
open Go.RowKit

def RetN1 (w : World) (b N : Nat) (e : Ending) (w' : World) : Prop := ∃ A k c, e = .returned (.slice A k c) ∧ Num w' A k c b N ∧ Below w.heap.size w w'
theorem BitsIs.zero' {b : Nat} (h : BitsIs 0 b) : b = 0 := h.unique (.inl ⟨rfl, rfl⟩)
theorem BitsIs.pos' {N b : Nat} (h : BitsIs N b) (hN : N ≠ 0) : b ≠ 0 := by
  rcases h with ⟨h, _⟩ | ⟨h, _⟩ <;> omega
theorem BitsIs.one' {b : Nat} (h : BitsIs 1 b) : b = 1 := h.unique (.inr ⟨by omega, by omega, by omega⟩)
theorem BitsIs.many {N b : Nat} (h : BitsIs N b) (hN : 2 ≤ N) : 2 ≤ b := by
  rcases h with ⟨h, _⟩ | ⟨h1, h2, h3⟩
  · omega
  · rcases Nat.lt_or_ge b 2 with h | h
    · obtain rfl : b = 1 := by omega
      omega
    · exact h
theorem gcd_le {N M b : Nat} (hN : N < PB b) (hM : M < PB b) : Nat.gcd N M < PB b := by
  rcases Nat.eq_zero_or_pos N with h | h
  · subst h; rw [Nat.gcd_zero_left]; exact hM
  · exact Nat.lt_of_le_of_lt (Nat.le_of_dvd h (Nat.gcd_dvd_left N M)) hN
theorem gcd_next (N M : Nat) : Nat.gcd M (N % M) = Nat.gcd N M := by
  rw [Nat.gcd_comm M (N % M), ← Nat.gcd_rec, Nat.gcd_comm]
def FB (g : Nat) : Value := .func (.func 98) #[] #[.pointer (some ⟨g, 0, none⟩)]
theorem Num.up {w : World} {A : Option Addr} {k c a b N : Nat} (h : Num w A k c a N) (hV : N < PB b) (hb : 1 ≤ b) : Num w A k c b N := ⟨h.1, hb, h.2.2.1, hV, h.2.2.2.2⟩

set_option maxHeartbeats 8000000 in
theorem gcd_any (b : Nat) (hb : b ≤ 5000) : ∀ (M N : Nat) (A : Option Addr) (n c : Nat) (B : Option Addr) (m d : Nat) (w : World) (g : Nat), Num w A n c b N → Num w B m d b M → Blk w g 97 #[FB g] →
    Calls Try.prog 98 #[.slice A n c, .slice B m d, .pointer (some ⟨g, 0, none⟩)] w (RetN1 w b (Nat.gcd N M)) := by
  intro M
  induction M using Nat.strongRecOn with
  | ind M ih =>
  intro N A n c B m d w g hA hB hg
  have hcell : w.cell? ⟨g, 0, none⟩ = some (FB g) := by rw [hg.cell]; rfl
  have HIH := Lib.hid ih; clear ih
  have HA := Lib.hid hA; have HB := Lib.hid hB; have HG := Lib.hid hg; clear hA hB hg hcell
  go_enter Try.func98, Try.ntmps98
  go_wp2_with fail
  refine (bits_n HB.out).mono ?_
  rintro e w1 ⟨bb, rfl, hbits, hbb, rfl⟩
  by_cases hM : M = 0
  · subst hM
    obtain rfl := hbits.zero'
    clear hbits
    go_wp2_with fail
    go_ret
    rw [Nat.gcd_zero_right]
    exact ⟨A, n, c, rfl, HA.out, Below.refl _ _⟩
  · have tb : ((bb : Int) == 0) = false := by have := hbits.pos' hM; simp; omega
    clear hbits
    have HM := Lib.hid hM; clear hM
    have HU := Lib.hid (gcd_le (b := b) HA.out.2.2.2.1 HB.out.2.2.2.1)
    by_cases hs : N < 18446744073709551616
    · by_cases hs2 : M < 18446744073709551616
      · go_wp2_with fail
        refine (u64_n HA.out).mono ?_
        rintro e w2 ⟨hu1, hu2, rfl⟩
        obtain rfl := hu1 hs
        clear hu1 hu2
        go_wp2_with fail
        refine (u64_n HB.out).mono ?_
        rintro e w2 ⟨hu1, hu2, rfl⟩
        obtain rfl := hu1 hs2
        clear hu1 hu2
        go_wp2_with fail
        go_loopw [6, 8] (fun xv yv wr => ∃ x y : Nat, xv = .int .u64 x ∧ yv = .int .u64 y ∧ x < 18446744073709551616 ∧ y < 18446744073709551616 ∧ Hid (Nat.gcd x y = Nat.gcd N M ∧ Below w.heap.size w wr)) (fun _ yv _ => (intOf yv).toNat)
        case atStart => exact ⟨N, M, rfl, rfl, hs, hs2, Lib.hid ⟨rfl, Below.refl _ _⟩⟩
        case round =>
          obtain ⟨x, y, rfl, rfl, hx, hy, HJ⟩ := hrel
          by_cases hy0 : y = 0
          · have ty : ((y : Int) != 0) = false := by simp [hy0]
            have HY := Lib.hid hy0; clear hy0
            go_wp2_with fail
            refine (of_n x hx _).mono ?_
            rintro e w3 ⟨A3, k3, c3, rfl, h3, -, hb⟩
            have H3 := Lib.hid h3; have H4 := Lib.hid (bthen HJ.out.2 hb HJ.out.2.size); clear h3 hb
            go_wp2_with fail
            go_ret
            have e1 := HJ.out.1
            rw [HY.out, Nat.gcd_zero_right] at e1
            have h5 := H3.out
            have h6 := HU.out
            rw [← e1] at h6 ⊢
            exact ⟨A3, k3, c3, rfl, h5.up h6 HA.out.2.1, H4.out⟩
          · have ty : ((y : Int) != 0) = true := by simp; omega
            have hyp : 0 < y := by omega
            have hml : x % y < y := Nat.mod_lt _ hyp
            go_wp2_with fail
            go_quiet (fail)
            go_wp2_with fail
            refine ⟨⟨y, x % y, by simp, by simp, hy, by omega, Lib.hid ⟨by rw [gcd_next]; exact HJ.out.1, below_drewN HJ.out.2 _⟩⟩, ?_⟩
            simp [intOf]; omega
      · go_wp2_with fail
        refine (u64_n HA.out).mono ?_
        rintro e w2 ⟨hu1, hu2, rfl⟩
        obtain rfl := hu1 (by omega)
        clear hu1 hu2
        go_wp2_with fail
        refine (u64_n HB.out).mono ?_
        rintro e w2 ⟨hu1, hu2, rfl⟩
        obtain rfl := hu2 (by omega)
        clear hu1 hu2
        go_wp2_with fail
        refine (dm_n HA.out HB.out (by omega) (by omega)).mono ?_
        rintro e w3 ⟨-, h⟩
        obtain ⟨A3, k3, c3, A4, k4, c4, rfl, -, ⟨h4, -⟩, hb⟩ := h HM.out
        clear h
        have hcell : w3.cell? ⟨g, 0, none⟩ = some (.func (.func 98) #[] #[.pointer (some ⟨g, 0, none⟩)]) := by rw [(HG.out.below hb HG.out.lt).cell]; rfl
        have H4 := Lib.hid h4; clear h4
        replace HB := Lib.hid (HB.out.new hb)
        replace HG := Lib.hid (HG.out.below hb HG.out.lt)
        have HW := Lib.hid hb; clear hb
        go_wp2_with fail
        refine (HIH.out (N % M) (Nat.mod_lt _ (Nat.pos_of_ne_zero HM.out)) M B m d A4 k4 c4 w3 g HB.out H4.out HG.out).mono ?_
        rw [gcd_next]
        rintro e w4 ⟨A5, k5, c5, rfl, h5, hb⟩
        have H5 := Lib.hid h5; clear h5
        replace HW := Lib.hid (bthen HW.out hb HW.out.size); clear hb hcell
        go_wp2_with fail
        go_ret
        exact ⟨A5, k5, c5, rfl, H5.out, HW.out⟩
    · by_cases hs2 : M < 18446744073709551616
      · go_wp2_with fail
        refine (u64_n HA.out).mono ?_
        rintro e w2 ⟨hu1, hu2, rfl⟩
        obtain rfl := hu2 (by omega)
        clear hu1 hu2
        go_wp2_with fail
        refine (u64_n HB.out).mono ?_
        rintro e w2 ⟨hu1, hu2, rfl⟩
        obtain rfl := hu1 (by omega)
        clear hu1 hu2
        go_wp2_with fail
        refine (dm_n HA.out HB.out (by omega) (by omega)).mono ?_
        rintro e w3 ⟨-, h⟩
        obtain ⟨A3, k3, c3, A4, k4, c4, rfl, -, ⟨h4, -⟩, hb⟩ := h HM.out
        clear h
        have hcell : w3.cell? ⟨g, 0, none⟩ = some (.func (.func 98) #[] #[.pointer (some ⟨g, 0, none⟩)]) := by rw [(HG.out.below hb HG.out.lt).cell]; rfl
        have H4 := Lib.hid h4; clear h4
        replace HB := Lib.hid (HB.out.new hb)
        replace HG := Lib.hid (HG.out.below hb HG.out.lt)
        have HW := Lib.hid hb; clear hb
        go_wp2_with fail
        refine (HIH.out (N % M) (Nat.mod_lt _ (Nat.pos_of_ne_zero HM.out)) M B m d A4 k4 c4 w3 g HB.out H4.out HG.out).mono ?_
        rw [gcd_next]
        rintro e w4 ⟨A5, k5, c5, rfl, h5, hb⟩
        have H5 := Lib.hid h5; clear h5
        replace HW := Lib.hid (bthen HW.out hb HW.out.size); clear hb hcell
        go_wp2_with fail
        go_ret
        exact ⟨A5, k5, c5, rfl, H5.out, HW.out⟩
      · go_wp2_with fail
        refine (u64_n HA.out).mono ?_
        rintro e w2 ⟨hu1, hu2, rfl⟩
        obtain rfl := hu2 (by omega)
        clear hu1 hu2
        go_wp2_with fail
        refine (u64_n HB.out).mono ?_
        rintro e w2 ⟨hu1, hu2, rfl⟩
        obtain rfl := hu2 (by omega)
        clear hu1 hu2
        go_wp2_with fail
        refine (dm_n HA.out HB.out (by omega) (by omega)).mono ?_
        rintro e w3 ⟨-, h⟩
        obtain ⟨A3, k3, c3, A4, k4, c4, rfl, -, ⟨h4, -⟩, hb⟩ := h HM.out
        clear h
        have hcell : w3.cell? ⟨g, 0, none⟩ = some (.func (.func 98) #[] #[.pointer (some ⟨g, 0, none⟩)]) := by rw [(HG.out.below hb HG.out.lt).cell]; rfl
        have H4 := Lib.hid h4; clear h4
        replace HB := Lib.hid (HB.out.new hb)
        replace HG := Lib.hid (HG.out.below hb HG.out.lt)
        have HW := Lib.hid hb; clear hb
        go_wp2_with fail
        refine (HIH.out (N % M) (Nat.mod_lt _ (Nat.pos_of_ne_zero HM.out)) M B m d A4 k4 c4 w3 g HB.out H4.out HG.out).mono ?_
        rw [gcd_next]
        rintro e w4 ⟨A5, k5, c5, rfl, h5, hb⟩
        have H5 := Lib.hid h5; clear h5
        replace HW := Lib.hid (bthen HW.out hb HW.out.size); clear hb hcell
        go_wp2_with fail
        go_ret
        exact ⟨A5, k5, c5, rfl, H5.out, HW.out⟩

set_option maxHeartbeats 4000000 in
theorem common_any (b : Nat) (hb : b ≤ 5000) (M N : Nat) (A : Option Addr) (n c : Nat) (B : Option Addr) (m d : Nat) (w : World) (hA : Num w A n c b N) (hB : Num w B m d b M) :
    Calls Try.prog 86 #[.slice A n c, .slice B m d] w (RetN1 w b (Nat.gcd N M)) := by
  have HA := Lib.hid hA; have HB := Lib.hid hB; clear hA hB
  go_enter Try.func86, Try.ntmps86
  go_wp2_with fail
  go_loopg [0, 1] M (fun R av bv wr => ∃ (N' : Nat) (A : Option Addr) (n c : Nat) (B : Option Addr) (m d : Nat), av = .slice A n c ∧ bv = .slice B m d ∧ Hid (Num wr A n c b N' ∧ Num wr B m d b R ∧ Nat.gcd N' R = Nat.gcd N M ∧ Blk wr w.heap.size 97 #[FB w.heap.size] ∧ Below w.heap.size w wr))
  case atStart =>
    exact ⟨N, A, n, c, B, m, d, rfl, rfl, Lib.hid ⟨HA.out.new (al w _), HB.out.new (al w _), rfl, Blk.new w _ _, al w _⟩⟩
  case round =>
    obtain ⟨N', A', n', c', B', m', d', rfl, rfl, HJ⟩ := hrel
    go_wp2_with fail
    refine (bits_n HJ.out.2.1).mono ?_
    rintro e w1 ⟨bb, rfl, hbits, hbb, rfl⟩
    by_cases hbig : 4096 < bb
    · have tb : decide ((4096 : Int) < (bb : Int)) = true := by simp; omega
      have hR : gk ≠ 0 := fun h => by rw [h] at hbits; have := hbits.zero'; omega
      have HR := Lib.hid hR; clear hR hbits
      go_wp2_with fail
      refine (dm_n HJ.out.1 HJ.out.2.1 (by omega) (by omega)).mono ?_
      rintro e w3 ⟨-, h⟩
      obtain ⟨A3, k3, c3, A4, k4, c4, rfl, -, ⟨h4, -⟩, hb⟩ := h HR.out
      clear h
      have H4 := Lib.hid h4; clear h4
      have H5 := Lib.hid (HJ.out.2.1.new hb)
      have H6 := Lib.hid (HJ.out.2.2.2.1.below hb HJ.out.2.2.2.1.lt)
      have HW := Lib.hid (bthen HJ.out.2.2.2.2 hb HJ.out.2.2.2.2.size); clear hb
      go_wp2_with fail
      go_roundg (N' % gk)
      case measure => exact Nat.mod_lt _ (Nat.pos_of_ne_zero HR.out)
      case rel => exact ⟨gk, B', m', d', A4, k4, c4, rfl, rfl, Lib.hid ⟨H5.out, H4.out, by rw [gcd_next]; exact HJ.out.2.2.1, H6.out, HW.out⟩⟩
    · have tb : decide ((4096 : Int) < (bb : Int)) = false := by simp; omega
      clear hbits
      have hcell : wr.cell? ⟨w.heap.size, 0, none⟩ = some (.func (.func 98) #[] #[.pointer (some ⟨w.heap.size, 0, none⟩)]) := by rw [HJ.out.2.2.2.1.cell]; rfl
      go_wp2_with fail
      refine (gcd_any b hb gk N' A' n' c' B' m' d' wr w.heap.size HJ.out.1 HJ.out.2.1 HJ.out.2.2.2.1).mono ?_
      rw [HJ.out.2.2.1]
      rintro e w4 ⟨A5, k5, c5, rfl, h5, hb⟩
      have H5 := Lib.hid h5; clear h5
      have HW := Lib.hid (bthen HJ.out.2.2.2.2 hb HJ.out.2.2.2.2.size); clear hb hcell
      go_wp2_with fail
      go_ret
      exact ⟨A5, k5, c5, rfl, H5.out, HW.out⟩
end Go.Proofs.Ytamcibmjpmibdaa
namespace Go.Proofs.Ytamcibmjpmibdaa
open Go.RowKit

/-- Block g is a struct of three cells (a boxed Rat). -/
def TB (w : World) (g : Nat) (t : TypeId) (x y z : Value) : Prop := Blk w g t #[x, y, z]
section
variable {w w' : World} {g : Nat} {t : TypeId} {x y z : Value}
theorem TB.blk (h : TB w g t x y z) : Blk w g t #[x, y, z] := h
theorem TB.c0 (h : TB w g t x y z) : w.cell? ⟨g, 0, none⟩ = some x := by rw [h.blk.cell]; rfl
theorem TB.c1 (h : TB w g t x y z) : w.cell? ⟨g, 1, none⟩ = some y := by rw [h.blk.cell]; rfl
theorem TB.c2 (h : TB w g t x y z) : w.cell? ⟨g, 2, none⟩ = some z := by rw [h.blk.cell]; rfl
theorem TB.f0 (h : TB w g t x y z) : w.frozen? ⟨g, 0, none⟩ = false := h.blk.frozen 0
theorem TB.f1 (h : TB w g t x y z) : w.frozen? ⟨g, 1, none⟩ = false := h.blk.frozen 1
theorem TB.f2 (h : TB w g t x y z) : w.frozen? ⟨g, 2, none⟩ = false := h.blk.frozen 2
theorem TB.lt (h : TB w g t x y z) : g < w.heap.size := h.blk.lt
theorem TB.below (h : TB w g t x y z) {B : Nat} (hb : Below B w w') (hg : g < B) : TB w' g t x y z := h.blk.below hb hg
theorem TB.new (h : TB w g t x y z) (hb : Below w.heap.size w w') : TB w' g t x y z := h.blk.below hb h.lt
theorem TB.alloc (h : TB w g t x y z) (o : Obj) : TB (w.alloc o) g t x y z := h.blk.alloc o
theorem TB.set3 (h : TB w g t x y z) (a b c : Value) : Blk (((w.setCell ⟨g, 0, none⟩ a).setCell ⟨g, 1, none⟩ b).setCell ⟨g, 2, none⟩ c) g t #[a, b, c] := ((h.blk.set_ 0 a).set_ 1 b).set_ 2 c
theorem TB.made (w : World) (t : TypeId) (x y z : Value) : TB (w.alloc (.cells #[x, y, z] t)) w.heap.size t x y z := Blk.new w t _
end

/-- The slices hold a fraction of the value x. -/
def Ra (w : World) (s : Bool) (A : Option Addr) (n c : Nat) (B : Option Addr) (m d b : Nat) (x : Rat) : Prop := ∃ N M, Num w A n c b N ∧ Num w B m d b M ∧ x = qv s N M
/-- .. the normal one. -/
def Rn (w : World) (s : Bool) (A : Option Addr) (n c : Nat) (B : Option Addr) (m d b : Nat) (x : Rat) : Prop :=
  s = decide (x.num < 0) ∧ (Num w A n c b x.num.natAbs ∧ Norm w A n x.num.natAbs) ∧ (Num w B m d b x.den ∧ Norm w B m x.den)
def RetQ (w : World) (b : Nat) (x : Rat) (e : Ending) (w' : World) : Prop :=
  ∃ s A n c B m d, e = .returned (.agg #[.bool s, .slice A n c, .slice B m d]) ∧ Rn w' s A n c B m d b x ∧ Below w.heap.size w w'
section
variable {w w' : World} {s : Bool} {A B : Option Addr} {n c m d b : Nat} {x : Rat}
theorem Ra.new (h : Ra w s A n c B m d b x) (hb : Below w.heap.size w w') : Ra w' s A n c B m d b x := by
  obtain ⟨N, M, h1, h2, h3⟩ := h
  exact ⟨N, M, h1.new hb, h2.new hb, h3⟩
theorem Rn.new (h : Rn w s A n c B m d b x) (hb : Below w.heap.size w w') : Rn w' s A n c B m d b x :=
  ⟨h.1, ⟨h.2.1.1.new hb, h.2.1.2.new hb⟩, ⟨h.2.2.1.new hb, h.2.2.2.new hb⟩⟩
theorem Rn.ra (h : Rn w s A n c B m d b x) : Ra w s A n c B m d b x := ⟨_, _, h.2.1.1, h.2.2.1, by rw [h.1, qv_self]⟩
end

theorem Es.far {w : World} {B n : Nat} {A : Option Addr} {ds : List Nat} (h : Es w B A n ds) {p : Addr} {v : Value} (hc : w.cell? p = some v) (hv : ∀ z, v ≠ .int .u32 z) (u : Value) : Es (w.setCell p u) B A n ds := by
  refine ⟨⟨h.1.1, fun hn => ?_⟩, h.2⟩
  obtain ⟨ad, rfl, hb, hx⟩ := h.1.2 hn
  refine ⟨ad, rfl, hb, fun j y hj => ?_⟩
  have h1 := hx j y hj
  rw [World.cell?_setCell_other w p (ad.add j) u]
  · exact h1
  · intro e
    rw [← e, hc] at h1
    cases h1
    exact hv _ (U32_get hj)
theorem size_setCell (w : World) (p : Addr) (u : Value) : (w.setCell p u).heap.size = w.heap.size := by simp [World.setCell]
section
variable {w : World} {g : Nat} {t : TypeId} {q : Bool} {a1 b1 : Option Addr} {a2 a3 b2 b3 : Nat}
theorem Es.store3 {n : Nat} {A : Option Addr} {ds : List Nat} (h : Es w w.heap.size A n ds) (ht : TB w g t (.bool q) (.slice a1 a2 a3) (.slice b1 b2 b3)) (x y z : Value) :
    Es (((w.setCell ⟨g, 0, none⟩ x).setCell ⟨g, 1, none⟩ y).setCell ⟨g, 2, none⟩ z) (((w.setCell ⟨g, 0, none⟩ x).setCell ⟨g, 1, none⟩ y).setCell ⟨g, 2, none⟩ z).heap.size A n ds := by
  rw [size_setCell, size_setCell, size_setCell]
  have h0 := h.far ht.c0 (by simp) x
  have c1 : (w.setCell ⟨g, 0, none⟩ x).cell? ⟨g, 1, none⟩ = some (.slice a1 a2 a3) := by rw [(ht.blk.set_ 0 x).cell]; rfl
  have h1 := h0.far c1 (by simp) y
  have c2 : ((w.setCell ⟨g, 0, none⟩ x).setCell ⟨g, 1, none⟩ y).cell? ⟨g, 2, none⟩ = some (.slice b1 b2 b3) := by rw [((ht.blk.set_ 0 x).set_ 1 y).cell]; rfl
  exact h1.far c2 (by simp) z
theorem Num.store3 {A : Option Addr} {k c b N : Nat} (h : Num w A k c b N) (ht : TB w g t (.bool q) (.slice a1 a2 a3) (.slice b1 b2 b3)) (x y z : Value) : Num (((w.setCell ⟨g, 0, none⟩ x).setCell ⟨g, 1, none⟩ y).setCell ⟨g, 2, none⟩ z) A k c b N := by
  obtain ⟨h1, h2, h3, h4, l, h5, h6⟩ := h
  exact ⟨h1, h2, h3, h4, l, h5.store3 ht x y z, h6⟩
theorem Norm.store3 {A : Option Addr} {k N : Nat} (h : Norm w A k N) (ht : TB w g t (.bool q) (.slice a1 a2 a3) (.slice b1 b2 b3)) (x y z : Value) : Norm (((w.setCell ⟨g, 0, none⟩ x).setCell ⟨g, 1, none⟩ y).setCell ⟨g, 2, none⟩ z) A k N := by
  obtain ⟨l, h5, h6⟩ := h
  exact ⟨l, h5.store3 ht x y z, h6⟩
theorem Rn.store3 {s : Bool} {A B : Option Addr} {n c m d b : Nat} {r : Rat} (h : Rn w s A n c B m d b r) (ht : TB w g t (.bool q) (.slice a1 a2 a3) (.slice b1 b2 b3)) (x y z : Value) : Rn (((w.setCell ⟨g, 0, none⟩ x).setCell ⟨g, 1, none⟩ y).setCell ⟨g, 2, none⟩ z) s A n c B m d b r :=
  ⟨h.1, ⟨h.2.1.1.store3 ht x y z, h.2.1.2.store3 ht x y z⟩, ⟨h.2.2.1.store3 ht x y z, h.2.2.2.store3 ht x y z⟩⟩
theorem below_store3 {B : Nat} {a : World} (h : Below B a w) (hg : B ≤ g) (x y z : Value) : Below B a (((w.setCell ⟨g, 0, none⟩ x).setCell ⟨g, 1, none⟩ y).setCell ⟨g, 2, none⟩ z) :=
  ((h.setCell (p := ⟨g, 0, none⟩) hg x).setCell (p := ⟨g, 1, none⟩) hg y).setCell (p := ⟨g, 2, none⟩) hg z
end
theorem PB_one {b : Nat} (h : 1 ≤ b) : 1 < PB b := Nat.lt_of_lt_of_le (show 1 < PB 1 by rw [PB]; omega) (PB_mono h)
theorem Num.more {w : World} {A : Option Addr} {k c a b N : Nat} (h : Num w A k c a N) (hb : a ≤ b) : Num w A k c b N := h.up (Nat.lt_of_lt_of_le h.2.2.2.1 (PB_mono hb)) (by have := h.2.1; omega)

set_option maxRecDepth 100000 in
set_option maxHeartbeats 4000000 in
theorem qnorm_any {w : World} {s : Bool} {A B : Option Addr} {n c m d b : Nat} {x : Rat} (h : Ra w s A n c B m d b x) (hb5 : b ≤ 5000) :
    Calls Try.prog 63 #[.agg #[.bool s, .slice A n c, .slice B m d]] w (RetQ w b x) := by
  obtain ⟨N, M, hA, hB, hx⟩ := h
  have HA := Lib.hid hA; have HB := Lib.hid hB; have HX := Lib.hid hx; clear hA hB hx
  go_enter Try.func63, Try.ntmps63
  go_wp2_with fail
  have hT0 : TB ((w.alloc (.cells #[.bool s, .slice A n c, .slice B m d] 41)).alloc (.cells #[.bool false, .slice none 0 0, .slice none 0 0] 41)) w.heap.size 41 (.bool s) (.slice A n c) (.slice B m d) := (TB.made w _ _ _ _).alloc _
  have hT1 : TB ((w.alloc (.cells #[.bool s, .slice A n c, .slice B m d] 41)).alloc (.cells #[.bool false, .slice none 0 0, .slice none 0 0] 41)) (w.heap.size + 1) 41 (.bool false) (.slice none 0 0) (.slice none 0 0) := by simpa using TB.made (w.alloc (.cells #[.bool s, .slice A n c, .slice B m d] 41)) 41 (.bool false) (.slice none 0 0) (.slice none 0 0)
  have hW : Below w.heap.size w ((w.alloc (.cells #[.bool s, .slice A n c, .slice B m d] 41)).alloc (.cells #[.bool false, .slice none 0 0, .slice none 0 0] 41)) := (al w _).alloc (by simp) _
  generalize (w.alloc (.cells #[.bool s, .slice A n c, .slice B m d] 41)).alloc (.cells #[.bool false, .slice none 0 0, .slice none 0 0] 41) = w0 at hT0 hT1 hW ⊢
  replace HA := Lib.hid (HA.out.new hW); replace HB := Lib.hid (HB.out.new hW)
  have HW := Lib.hid hW; clear hW
  have c0 := hT0.c0; have c1 := hT0.c1; have c2 := hT0.c2
  have l0 : w.heap.size < w0.heap.size := hT0.lt
  have T0 := Lib.hid hT0; have T1 := Lib.hid hT1; clear hT0 hT1
  go_region_held3 (fun w' => (∀ p : Addr, p.block < w0.heap.size → w'.cell? p = w0.cell? p) ∧ Below w0.heap.size w0 w')
    ((refine olds ?_; first | exact Below.refl _ _ | exact Below.drew (Below.refl _ _) | exact Hid.out ‹_›))
    (first
      | (go_at_call 85; refine (norm_n (HA.out.new (And.right ‹_ ∧ Below w0.heap.size w0 _›)) (by omega)).mono ?_; rintro e w5 ⟨A5, k5, c5, rfl, h5, j5, hb⟩; have HB5 := Lib.hid (bthen (And.right ‹_ ∧ Below w0.heap.size w0 _›) hb (Below.size (And.right ‹_ ∧ Below w0.heap.size w0 _›))); have H5 := Lib.hid h5; have J5 := Lib.hid j5; clear hb h5 j5)
      | (go_at_call 85; refine (norm_n (HB.out.new (And.right ‹_ ∧ Below w0.heap.size w0 _›)) (by omega)).mono ?_; rintro e w6 ⟨A6, k6, c6, rfl, h6, j6, hb⟩; have HB6 := Lib.hid (bthen (And.right ‹_ ∧ Below w0.heap.size w0 _›) hb (Below.size (And.right ‹_ ∧ Below w0.heap.size w0 _›))); replace H5 := Lib.hid (H5.out.new hb); replace J5 := Lib.hid (J5.out.new hb); have H6 := Lib.hid h6; have J6 := Lib.hid j6; clear hb h6 j6))
  replace T0 := Lib.hid (T0.out.new HB6.out)
  clear c0
  have c0 := T0.out.c0
  replace T1 := Lib.hid (T1.out.new HB6.out)
  replace HW := Lib.hid (bthen HW.out HB6.out HW.out.size)
  clear HB6 HB5 c1 c2 l0 HA HB
  have Z5 := Lib.hid J5.out.zero; have Z6 := Lib.hid J6.out.zero
  by_cases hz : N = 0 ∨ M = 0
  · have hpick : k5 = 0 ∨ (k5 ≠ 0 ∧ k6 = 0) := by
      rcases hz with h | h
      · left; exact Z5.out.2 h
      · by_cases h5 : k5 = 0
        · left; exact h5
        · right; exact ⟨h5, Z6.out.2 h⟩
    clear hz
    rcases hpick with h0 | ⟨h0, h1⟩
    · have hN := Z5.out.1 h0
      have HX0 := Lib.hid (show x = 0 by rw [HX.out, hN, qv_zero])
      subst h0
      subst hN
      clear Z5 Z6 HX
      cases s
      all_goals
        go_wp2_with fail
        refine (of_n 1 (by omega) _).mono ?_
        rintro e w7 ⟨A7, k7, c7, rfl, h7, j7, hb⟩
        have hT := T1.out.new hb
        have r0 := hT.c0; have r1 := hT.c1; have r2 := hT.c2; have f0 := hT.f0; have f1 := hT.f1; have f2 := hT.f2
        have hR : Rn w7 false A5 0 c5 A7 k7 c7 b x := by rw [HX0.out]; exact ⟨rfl, ⟨H5.out.new hb, J5.out.new hb⟩, ⟨h7.up (PB_one H5.out.2.1) H5.out.2.1, j7⟩⟩
        have HR := Lib.hid hR; have HT := Lib.hid hT
        replace HW := Lib.hid (bthen HW.out hb HW.out.size)
        clear hb hR hT h7 j7 c0 T1
        go_wp2_with fail
        refine bodyPost_ret (v := .agg #[.bool false, .slice A5 0 c5, .slice A7 k7 c7]) ?_ rfl ⟨_, _, _, _, _, _, _, rfl, HR.out.store3 HT.out _ _ _, below_store3 HW.out (by omega) _ _ _⟩
        exact results_cell_row Try.results63 _ _ _ _ _ (0, 0) _ rfl (HT.out.set3 _ _ _) Try.underlying41 rfl rfl
    · have t5 : ((k5 : Int) == 0) = false := by simp; omega
      have t6 : ((k6 : Int) == 0) = true := by simp [h1]
      have hM := Z6.out.1 h1
      have hN : N ≠ 0 := fun h => h0 (Z5.out.2 h)
      have g5 : 0 < k5 := by omega
      have HX0 := Lib.hid (show s = decide (x.num < 0) ∧ x.num.natAbs = N ∧ x.den = 1 by
        have e : x = qv s N 1 := by rw [HX.out, hM, qv_den0]
        rw [e, qv_neg (by omega) hN, qv_abs (by omega), qv_den (by omega)]; simp)
      clear Z5 Z6 HX h0 h1 hM hN
      cases s
      all_goals
        go_wp2_with fail
        refine (of_n 1 (by omega) _).mono ?_
        rintro e w7 ⟨A7, k7, c7, rfl, h7, j7, hb⟩
        have hT := T1.out.new hb
        have r0 := hT.c0; have r1 := hT.c1; have r2 := hT.c2; have f0 := hT.f0; have f1 := hT.f1; have f2 := hT.f2
        have hR : Rn w7 _ A5 k5 c5 A7 k7 c7 b x := ⟨HX0.out.1, by rw [HX0.out.2.1]; exact ⟨H5.out.new hb, J5.out.new hb⟩, by rw [HX0.out.2.2]; exact ⟨h7.up (PB_one H5.out.2.1) H5.out.2.1, j7⟩⟩
        have HR := Lib.hid hR; have HT := Lib.hid hT
        replace HW := Lib.hid (bthen HW.out hb HW.out.size)
        clear hb hR hT h7 j7 c0 T1
        go_wp2_with fail
        refine bodyPost_ret (v := .agg #[.bool _, .slice A5 k5 c5, .slice A7 k7 c7]) ?_ rfl ⟨_, _, _, _, _, _, _, rfl, HR.out.store3 HT.out _ _ _, below_store3 HW.out (by omega) _ _ _⟩
        exact results_cell_row Try.results63 _ _ _ _ _ (0, 0) _ rfl (HT.out.set3 _ _ _) Try.underlying41 rfl rfl
  · have hN : N ≠ 0 := fun h => hz (.inl h)
    have hM : M ≠ 0 := fun h => hz (.inr h)
    have t5 : ((k5 : Int) == 0) = false := by have : k5 ≠ 0 := fun h => hN (Z5.out.1 h); simp; omega
    have t6 : ((k6 : Int) == 0) = false := by have : k6 ≠ 0 := fun h => hM (Z6.out.1 h); simp; omega
    have HX0 := Lib.hid (show s = decide (x.num < 0) ∧ x.num.natAbs = N / Nat.gcd N M ∧ x.den = M / Nat.gcd N M by
      rw [HX.out, qv_neg hM hN, qv_abs hM, qv_den hM]; simp)
    have HG0 := Lib.hid (show Nat.gcd N M ≠ 0 by intro h; exact hN (Nat.eq_zero_of_gcd_eq_zero_left h))
    have HNZ := Lib.hid hN; have HMZ := Lib.hid hM
    clear hz hN hM Z5 Z6 HX c0
    go_wp2_with fail
    refine (bits_n H6.out).mono ?_
    rintro e w7 ⟨bb, rfl, hbits, hbb, rfl⟩
    by_cases hM1 : M = 1
    · subst hM1
      obtain rfl := hbits.one'
      clear hbits
      have HR := Lib.hid (show Rn w6 s A5 k5 c5 A6 k6 c6 b x from ⟨HX0.out.1, by rw [HX0.out.2.1]; simp only [Nat.gcd_one_right, Nat.div_one]; exact ⟨H5.out, J5.out⟩, by rw [HX0.out.2.2]; simp only [Nat.gcd_one_right, Nat.div_one]; exact ⟨H6.out, J6.out⟩⟩)
      have c0 := T0.out.c0
      have r0 := T1.out.c0; have r1 := T1.out.c1; have r2 := T1.out.c2; have f0 := T1.out.f0; have f1 := T1.out.f1; have f2 := T1.out.f2
      go_wp2_with fail
      refine bodyPost_end (v := .agg #[.bool s, .slice A5 k5 c5, .slice A6 k6 c6]) ?_ rfl ⟨_, _, _, _, _, _, _, rfl, HR.out.store3 T1.out _ _ _, below_store3 HW.out (by omega) _ _ _⟩
      exact results_cell_row Try.results63 _ _ _ _ _ (0, 0) _ rfl (T1.out.set3 _ _ _) Try.underlying41 rfl rfl
    · have hb2 := hbits.many (by have := HMZ.out; omega)
      have tb : decide ((1 : Int) < (bb : Int)) = true := by simp; omega
      clear hbits hM1 hb2
      go_wp2_with fail
      refine (common_any b hb5 M N A5 k5 c5 A6 k6 c6 _ H5.out H6.out).mono ?_
      rintro e w8 ⟨A8, k8, c8, rfl, h8, hb⟩
      replace T0 := Lib.hid (T0.out.new hb); replace T1 := Lib.hid (T1.out.new hb)
      replace HW := Lib.hid (bthen HW.out hb HW.out.size)
      replace H5 := Lib.hid (H5.out.new hb); replace J5 := Lib.hid (J5.out.new hb); replace H6 := Lib.hid (H6.out.new hb); replace J6 := Lib.hid (J6.out.new hb)
      have H8 := Lib.hid h8; clear h8 hb
      go_wp2_with fail
      refine (bits_n H8.out).mono ?_
      rintro e w9 ⟨b9, rfl, hbits, hb9, rfl⟩
      by_cases hg1 : Nat.gcd N M = 1
      · rw [hg1] at hbits
        obtain rfl := hbits.one'
        clear hbits
        have HR := Lib.hid (show Rn w8 s A5 k5 c5 A6 k6 c6 b x from ⟨HX0.out.1, by rw [HX0.out.2.1, hg1, Nat.div_one]; exact ⟨H5.out, J5.out⟩, by rw [HX0.out.2.2, hg1, Nat.div_one]; exact ⟨H6.out, J6.out⟩⟩)
        clear hg1
        have c0 := T0.out.c0
        have r0 := T1.out.c0; have r1 := T1.out.c1; have r2 := T1.out.c2; have f0 := T1.out.f0; have f1 := T1.out.f1; have f2 := T1.out.f2
        go_wp2_with fail
        refine bodyPost_end (v := .agg #[.bool s, .slice A5 k5 c5, .slice A6 k6 c6]) ?_ rfl ⟨_, _, _, _, _, _, _, rfl, HR.out.store3 T1.out _ _ _, below_store3 HW.out (by omega) _ _ _⟩
        exact results_cell_row Try.results63 _ _ _ _ _ (0, 0) _ rfl (T1.out.set3 _ _ _) Try.underlying41 rfl rfl
      · have hb2 := hbits.many (by have := HG0.out; omega)
        have t9 : decide ((1 : Int) < (b9 : Int)) = true := by simp; omega
        clear hbits hg1 hb2
        go_wp2_with fail
        refine (dm_n H5.out H8.out (by omega) (by omega)).mono ?_
        rintro e w10 ⟨-, h⟩
        obtain ⟨A3, k3, c3, A4, k4, c4, rfl, ⟨h3, j3⟩, -, hb⟩ := h HG0.out
        clear h
        replace T0 := Lib.hid (T0.out.new hb); replace T1 := Lib.hid (T1.out.new hb)
        replace HW := Lib.hid (bthen HW.out hb HW.out.size)
        replace H5 := Lib.hid (H5.out.new hb); replace J5 := Lib.hid (J5.out.new hb); replace H6 := Lib.hid (H6.out.new hb); replace J6 := Lib.hid (J6.out.new hb)
        replace H8 := Lib.hid (H8.out.new hb)
        have H3 := Lib.hid h3; have J3 := Lib.hid j3; clear h3 j3 hb
        go_wp2_with fail
        refine (dm_n H6.out H8.out (by omega) (by omega)).mono ?_
        rintro e w11 ⟨-, h⟩
        obtain ⟨A11, k11, c11, A12, k12, c12, rfl, ⟨h11, j11⟩, -, hb⟩ := h HG0.out
        clear h
        replace T0 := Lib.hid (T0.out.new hb); replace T1 := Lib.hid (T1.out.new hb)
        replace HW := Lib.hid (bthen HW.out hb HW.out.size)
        replace H5 := Lib.hid (H5.out.new hb); replace J5 := Lib.hid (J5.out.new hb); replace H6 := Lib.hid (H6.out.new hb); replace J6 := Lib.hid (J6.out.new hb)
        replace H3 := Lib.hid (H3.out.new hb); replace J3 := Lib.hid (J3.out.new hb)
        have HR := Lib.hid (show Rn w11 s A3 k3 c3 A11 k11 c11 b x from ⟨HX0.out.1, by rw [HX0.out.2.1]; exact ⟨H3.out, J3.out⟩, by rw [HX0.out.2.2]; exact ⟨h11, j11⟩⟩)
        clear h11 j11 hb
        have c0 := T0.out.c0
        have r0 := T1.out.c0; have r1 := T1.out.c1; have r2 := T1.out.c2; have f0 := T1.out.f0; have f1 := T1.out.f1; have f2 := T1.out.f2
        go_wp2_with fail
        refine bodyPost_end (v := .agg #[.bool s, .slice A3 k3 c3, .slice A11 k11 c11]) ?_ rfl ⟨_, _, _, _, _, _, _, rfl, HR.out.store3 T1.out _ _ _, below_store3 HW.out (by omega) _ _ _⟩
        exact results_cell_row Try.results63 _ _ _ _ _ (0, 0) _ rfl (T1.out.set3 _ _ _) Try.underlying41 rfl rfl
end Go.Proofs.Ytamcibmjpmibdaa
namespace Go.Proofs.Ytamcibmjpmibdaa
open Go.RowKit

theorem TB.far3 {w : World} {g h : Nat} {t : TypeId} {x y z : Value} (hT : TB w h t x y z) (hne : h ≠ g) (a b c : Value) : TB (((w.setCell ⟨g, 0, none⟩ a).setCell ⟨g, 1, none⟩ b).setCell ⟨g, 2, none⟩ c) h t x y z :=
  ((hT.blk.far (p := ⟨g, 0, none⟩) hne a).far (p := ⟨g, 1, none⟩) hne b).far (p := ⟨g, 2, none⟩) hne c
theorem TB.drew {w : World} {g : Nat} {t : TypeId} {x y z : Value} (h : TB w g t x y z) : TB w.drew g t x y z := h

/-- Both arguments replaced by their normal forms. -/
theorem two_stored {w w6 : World} {g : Nat} {s s' s5 s6 : Bool} {A B A' B' A5 B5 A6 B6 : Option Addr} {n c m d n' c' m' d' n5 c5 m5 d5 n6 c6 m6 d6 b b' : Nat} {x y : Rat} {t : TypeId} {z0 z1 z2 : Value}
    (h2 : TB w6 g t (.bool s) (.slice A n c) (.slice B m d)) (h3 : TB w6 (g + 1) t (.bool s') (.slice A' n' c') (.slice B' m' d')) (h4 : TB w6 (g + 2) t z0 z1 z2)
    (h5 : Rn w6 s5 A5 n5 c5 B5 m5 d5 b x) (h6 : Rn w6 s6 A6 n6 c6 B6 m6 d6 b' y) (hW : Below g w w6) {a0 a1 a2 b0 b1 b2 : Value} (e0 : a0 = .bool s5) (e1 : a1 = .slice A5 n5 c5) (e2 : a2 = .slice B5 m5 d5) (f0 : b0 = .bool s6) (f1 : b1 = .slice A6 n6 c6) (f2 : b2 = .slice B6 m6 d6) :
    (fun wx => TB wx g t (.bool s5) (.slice A5 n5 c5) (.slice B5 m5 d5) ∧ TB wx (g + 1) t (.bool s6) (.slice A6 n6 c6) (.slice B6 m6 d6) ∧ TB wx (g + 2) t z0 z1 z2 ∧ Rn wx s5 A5 n5 c5 B5 m5 d5 b x ∧ Rn wx s6 A6 n6 c6 B6 m6 d6 b' y ∧ Below g w wx)
      ((((((w6.setCell ⟨g, 0, none⟩ a0).setCell ⟨g, 1, none⟩ a1).setCell ⟨g, 2, none⟩ a2).setCell ⟨g + 1, 0, none⟩ b0).setCell ⟨g + 1, 1, none⟩ b1).setCell ⟨g + 1, 2, none⟩ b2) := by
  subst e0 e1 e2 f0 f1 f2
  have k3 : TB (((w6.setCell ⟨g, 0, none⟩ (.bool s5)).setCell ⟨g, 1, none⟩ (.slice A5 n5 c5)).setCell ⟨g, 2, none⟩ (.slice B5 m5 d5)) (g + 1) t (.bool s') (.slice A' n' c') (.slice B' m' d') := h3.far3 (by omega) _ _ _
  refine ⟨?_, k3.set3 _ _ _, (h4.far3 (by omega) _ _ _).far3 (by omega) _ _ _, (h5.store3 h2 _ _ _).store3 k3 _ _ _, (h6.store3 h2 _ _ _).store3 k3 _ _ _, below_store3 (below_store3 hW (Nat.le_refl _) _ _ _) (by omega) _ _ _⟩
  exact TB.far3 (h2.set3 _ _ _) (by omega) _ _ _
theorem keep6 {wc w' : World} {g2 g3 g4 : Nat} {t : TypeId} {x y z x' y' z' : Value} (h2 : TB wc g2 t x y z) (h3 : TB wc g3 t x' y' z') (hg : wc.grownBy w' (some g4)) (n2 : g2 ≠ g4) (n3 : g3 ≠ g4) :
    ((w'.cell? ⟨g2, 0, none⟩ = some x ∧ w'.cell? ⟨g2, 1, none⟩ = some y ∧ w'.cell? ⟨g2, 2, none⟩ = some z) ∧ (w'.cell? ⟨g3, 0, none⟩ = some x' ∧ w'.cell? ⟨g3, 1, none⟩ = some y' ∧ w'.cell? ⟨g3, 2, none⟩ = some z')) ∧ wc.grownBy w' (some g4) := by
  have k2 : TB w' g2 t x y z := h2.blk.grown hg (by simpa using n2)
  have k3 : TB w' g3 t x' y' z' := h3.blk.grown hg (by simpa using n3)
  exact ⟨⟨⟨k2.c0, k2.c1, k2.c2⟩, ⟨k3.c0, k3.c1, k3.c2⟩⟩, hg⟩
theorem only_store3 {a w : World} {g : Nat} (h : a.grownBy w (some g)) (x y z : Value) : a.grownBy (((w.setCell ⟨g, 0, none⟩ x).setCell ⟨g, 1, none⟩ y).setCell ⟨g, 2, none⟩ z) (some g) :=
  only_setCell (only_setCell (only_setCell h (.inl rfl) _) (.inl rfl) _) (.inl rfl) _
theorem grown_below {wc w' : World} (h : Below wc.heap.size wc w') (row : Option Nat) : wc.grownBy w' row := ⟨h.os, h.tape, h.output, h.size, fun k hk _ => h.block k hk⟩
theorem below_from_drew {wc w' : World} (h : Below wc.drew.heap.size wc.drew w') : Below wc.heap.size wc w' := bthen (Below.refl wc.heap.size wc).drew h (Nat.le_refl _)

set_option maxRecDepth 100000 in
set_option maxHeartbeats 8000000 in
theorem qmul_any {w : World} {s : Bool} {A B : Option Addr} {n c m d b : Nat} {x : Rat} (h : Ra w s A n c B m d b x) {s' : Bool} {A' B' : Option Addr} {n' c' m' d' b' : Nat} {y : Rat} (h' : Ra w s' A' n' c' B' m' d' b' y) (hb5 : b + b' ≤ 5000) :
    Calls Try.prog 26 #[.agg #[.bool s, .slice A n c, .slice B m d], .agg #[.bool s', .slice A' n' c', .slice B' m' d']] w (RetQ w (b + b') (x * y)) := by
  have HA := Lib.hid h; have HB := Lib.hid h'; clear h h'
  go_enter Try.func26, Try.ntmps26
  go_upto_region 1 with (fail)
  obtain ⟨X, hX⟩ : ∃ X : Array Value, X = #[.bool s, .slice A n c, .slice B m d] := ⟨_, rfl⟩
  obtain ⟨Y, hY⟩ : ∃ Y : Array Value, Y = #[.bool s', .slice A' n' c', .slice B' m' d'] := ⟨_, rfl⟩
  obtain ⟨Z, hZ⟩ : ∃ Z : Array Value, Z = #[.bool false, .slice none 0 0, .slice none 0 0] := ⟨_, rfl⟩
  have hW : Below w.heap.size w (((w.alloc (.cells X 41)).alloc (.cells Y 41)).alloc (.cells Z 41)) := ((al w _).alloc (by simp) _).alloc (by simp; omega) _
  have h2 : Blk (((w.alloc (.cells X 41)).alloc (.cells Y 41)).alloc (.cells Z 41)) w.heap.size 41 X := ((Blk.new w _ _).alloc _).alloc _
  have h3 : Blk (((w.alloc (.cells X 41)).alloc (.cells Y 41)).alloc (.cells Z 41)) (w.heap.size + 1) 41 Y := by
    have := (Blk.new (w.alloc (.cells X 41)) 41 Y).alloc (.cells Z 41)
    simpa using this
  have h4 : Blk (((w.alloc (.cells X 41)).alloc (.cells Y 41)).alloc (.cells Z 41)) (w.heap.size + 2) 41 Z := by
    have := (Blk.new ((w.alloc (.cells X 41)).alloc (.cells Y 41)) 41 Z)
    simpa using this
  rw [hX, hY, hZ] at hW h2 h3 h4
  clear hX hY hZ
  generalize ((w.alloc (.cells #[.bool s, .slice A n c, .slice B m d] 41)).alloc (.cells #[.bool s', .slice A' n' c', .slice B' m' d'] 41)).alloc (.cells #[.bool false, .slice none 0 0, .slice none 0 0] 41) = w0 at hW h2 h3 h4 ⊢
  clear X Y Z
  replace HA := Lib.hid (HA.out.new hW); replace HB := Lib.hid (HB.out.new hW)
  have HW := Lib.hid hW; clear hW
  have T2 : Hid (TB w0 w.heap.size 41 (.bool s) (.slice A n c) (.slice B m d)) := Lib.hid h2
  have T3 : Hid (TB w0 (w.heap.size + 1) 41 (.bool s') (.slice A' n' c') (.slice B' m' d')) := Lib.hid h3
  have T4 : Hid (TB w0 (w.heap.size + 2) 41 (.bool false) (.slice none 0 0) (.slice none 0 0)) := Lib.hid h4
  clear h2 h3 h4
  go_cut [2] (fun p2 wx => p2 = .pointer (some ⟨w.heap.size, 0, none⟩) ∧ ∃ s1 A1 n1 c1 B1 m1 d1 s2 A2 n2 c2 B2 m2 d2, Hid (TB wx w.heap.size 41 (.bool s1) (.slice A1 n1 c1) (.slice B1 m1 d1) ∧ TB wx (w.heap.size + 1) 41 (.bool s2) (.slice A2 n2 c2) (.slice B2 m2 d2) ∧ TB wx (w.heap.size + 2) 41 (.bool false) (.slice none 0 0) (.slice none 0 0) ∧ Rn wx s1 A1 n1 c1 B1 m1 d1 b x ∧ Rn wx s2 A2 n2 c2 B2 m2 d2 b' y ∧ Below w.heap.size w wx))
  case first =>
    have a0 := T2.out.c0; have a1 := T2.out.c1; have a2 := T2.out.c2
    have b0 := T3.out.c0; have b1 := T3.out.c1; have b2 := T3.out.c2
    go_region_law (first
      | (have HB5' := HB5; clear HB5'; go_simp; go_at_call 63; refine (qnorm_any HB5.out (by omega)).mono ?_; rintro e w6 ⟨s6, A6, n6, c6, B6, m6, d6, rfl, h6, hb⟩; have H6 := Lib.hid h6; replace H5 := Lib.hid (H5.out.new hb); replace U2 := Lib.hid (U2.out.new hb); replace U3 := Lib.hid (U3.out.new hb); replace U4 := Lib.hid (U4.out.new hb); replace HW5 := Lib.hid (bthen HW5.out hb HW5.out.size); clear h6 hb; have e0 := U3.out.c0; have e1 := U3.out.c1; have e2 := U3.out.c2; have g0 := U3.out.f0; have g1 := U3.out.f1; have g2 := U3.out.f2; have d0 := U2.out.c0; have d1 := U2.out.c1; have d2 := U2.out.c2; have f0 := U2.out.f0; have f1 := U2.out.f1; have f2 := U2.out.f2)
      | (go_simp; go_at_call 63; refine (qnorm_any (w := w0.drew) HA.out (by omega)).mono ?_; rintro e w5 ⟨s5, A5, n5, c5, B5, m5, d5, rfl, h5, hb⟩; have H5 := Lib.hid h5; have U2 := Lib.hid (T2.out.drew.new hb); have U3 := Lib.hid (T3.out.drew.new hb); have U4 := Lib.hid (T4.out.drew.new hb); have HW5 := Lib.hid (bthen HW.out.drew hb HW.out.drew.size); have HB5 := Lib.hid (HB.out.new (w := w0.drew) hb); clear h5 hb; have b0 := U3.out.c0; have b1 := U3.out.c1; have b2 := U3.out.c2))
    all_goals
      go_wp2_with fail
      go_meet
      exact ⟨rfl, s5, A5, n5, c5, B5, m5, d5, s6, A6, n6, c6, B6, m6, d6, Lib.hid (two_stored U2.out U3.out U4.out H5.out H6.out HW5.out rfl rfl rfl rfl rfl rfl)⟩
  case rest =>
    clear HA HB HW T2 T3 T4
    obtain ⟨rfl, s1, A1, n1, c1, B1, m1, d1, s2, A2, n2, c2, B2, m2, d2, HC⟩ := hcut
    obtain ⟨t2, t3, t4, r1, r2, hW⟩ := HC.out
    have l2 := t2.lt; have l3 := t3.lt; have l4 := t4.lt
    have T2 := Lib.hid t2; have T3 := Lib.hid t3; have T4 := Lib.hid t4; have R1 := Lib.hid r1; have R2 := Lib.hid r2; have HW := Lib.hid hW
    clear t2 t3 t4 r1 r2 hW HC
    have a0 := T2.out.c0; have a1 := T2.out.c1; have a2 := T2.out.c2
    have b0 := T3.out.c0; have b1 := T3.out.c1; have b2 := T3.out.c2
    have HQ := Lib.hid (show x * y = qv (s1 != s2) (x.num.natAbs * y.num.natAbs) (x.den * y.den) by rw [qv_mul x.den_nz y.den_nz, R1.out.1, R2.out.1, qv_self, qv_self])
    go_wp2_with fail
    go_region_held3 (fun w' => ((w'.cell? ⟨w.heap.size, 0, none⟩ = some (.bool s1) ∧ w'.cell? ⟨w.heap.size, 1, none⟩ = some (.slice A1 n1 c1) ∧ w'.cell? ⟨w.heap.size, 2, none⟩ = some (.slice B1 m1 d1)) ∧ (w'.cell? ⟨w.heap.size + 1, 0, none⟩ = some (.bool s2) ∧ w'.cell? ⟨w.heap.size + 1, 1, none⟩ = some (.slice A2 n2 c2) ∧ w'.cell? ⟨w.heap.size + 1, 2, none⟩ = some (.slice B2 m2 d2))) ∧ wc.grownBy w' (some (w.heap.size + 2)))
      ((refine keep6 T2.out T3.out ?_ (by omega) (by omega); first | exact World.grownBy.refl _ _ | exact only_drew (World.grownBy.refl _ _) | exact Hid.out ‹_› | exact only_store3 (Hid.out ‹_›) _ _ _))
      (first
        | (have Hg := H6; clear Hg; go_at_call 63; refine (qnorm_any (s := s1 != s2) (b := b + b') ⟨_, _, H5.out, H6.out, HQ.out⟩ (by omega)).mono ?_; rintro e w7 ⟨s7, A7, n7, c7, B7, m7, d7, rfl, h7, hb⟩; have H7 := Lib.hid h7; have HB7 := Lib.hid (bthen HB6.out hb HB6.out.size); have HG7 := Lib.hid (grown_below HB7.out (some (w.heap.size + 2))); clear h7 hb; have U4 := Lib.hid (T4.out.new HB7.out); have r0 := U4.out.c0; have r1 := U4.out.c1; have r2 := U4.out.c2; have f0 := U4.out.f0; have f1 := U4.out.f1; have f2 := U4.out.f2)
        | (have Hg := H5; clear Hg; go_at_call 50; refine (mul_n (R1.out.2.2.1.new HB5.out) (R2.out.2.2.1.new HB5.out) (by omega)).mono ?_; rintro e w6 ⟨A6, k6, c6, rfl, h6, -, hb⟩; have H6 := Lib.hid h6; replace H5 := Lib.hid (H5.out.new hb); have HB6 := Lib.hid (bthen HB5.out hb HB5.out.size); have HG6 := Lib.hid (grown_below HB6.out (some (w.heap.size + 2))); clear h6 hb)
        | (go_at_call 50; refine (mul_n (w := wc.drew) R1.out.2.1.1 R2.out.2.1.1 (by omega)).mono ?_; rintro e w5 ⟨A5, k5, c5, rfl, h5, -, hb⟩; have H5 := Lib.hid h5; have HB5 := Lib.hid (below_from_drew hb); have HG5 := Lib.hid (grown_below HB5.out (some (w.heap.size + 2))); clear h5 hb))
    go_wp2_with fail
    refine bodyPost_end (v := .agg #[.bool s7, .slice A7 n7 c7, .slice B7 m7 d7]) ?_ rfl ⟨_, _, _, _, _, _, _, rfl, H7.out.store3 U4.out _ _ _, below_store3 (bthen HW.out HB7.out HW.out.size) (by omega) _ _ _⟩
    exact results_cell_row Try.results26 _ _ _ _ _ (0, 0) _ rfl (U4.out.set3 _ _ _) Try.underlying41 rfl rfl
end Go.Proofs.Ytamcibmjpmibdaa
namespace Go.Proofs.Ytamcibmjpmibdaa
open Go.RowKit

theorem bool_ne {a b : Bool} (h : ¬ a = b) : b = !a := by revert h; cases a <;> cases b <;> simp
theorem PB_two {w : World} {A B : Option Addr} {k c m d b N M : Nat} (h : Num w A k c b N) (h' : Num w B m d b M) : N + M < PB (b + 1) := by
  have h1 := h.2.2.2.1
  have h2 := h'.2.2.2.1
  have : PB (b + 1) = PB b * 4294967296 := by rw [PB, PB, Nat.pow_succ]
  omega

set_option maxRecDepth 100000 in
set_option maxHeartbeats 8000000 in
theorem qadd_any {w : World} {s : Bool} {A B : Option Addr} {n c m d b : Nat} {x : Rat} (h : Ra w s A n c B m d b x) {s' : Bool} {A' B' : Option Addr} {n' c' m' d' b' : Nat} {y : Rat} (h' : Ra w s' A' n' c' B' m' d' b' y) (hb5 : b + b' ≤ 4900) :
    Calls Try.prog 77 #[.agg #[.bool s, .slice A n c, .slice B m d], .agg #[.bool s', .slice A' n' c', .slice B' m' d']] w (RetQ w (b + b' + 1) (x + y)) := by
  have HA := Lib.hid h; have HB := Lib.hid h'; clear h h'
  go_enter Try.func77, Try.ntmps77
  go_upto_region 1 with (fail)
  obtain ⟨X, hX⟩ : ∃ X : Array Value, X = #[.bool s, .slice A n c, .slice B m d] := ⟨_, rfl⟩
  obtain ⟨Y, hY⟩ : ∃ Y : Array Value, Y = #[.bool s', .slice A' n' c', .slice B' m' d'] := ⟨_, rfl⟩
  obtain ⟨Z, hZ⟩ : ∃ Z : Array Value, Z = #[.bool false, .slice none 0 0, .slice none 0 0] := ⟨_, rfl⟩
  have hW : Below w.heap.size w (((w.alloc (.cells X 41)).alloc (.cells Y 41)).alloc (.cells Z 41)) := ((al w _).alloc (by simp) _).alloc (by simp; omega) _
  have h2 : Blk (((w.alloc (.cells X 41)).alloc (.cells Y 41)).alloc (.cells Z 41)) w.heap.size 41 X := ((Blk.new w _ _).alloc _).alloc _
  have h3 : Blk (((w.alloc (.cells X 41)).alloc (.cells Y 41)).alloc (.cells Z 41)) (w.heap.size + 1) 41 Y := by
    have := (Blk.new (w.alloc (.cells X 41)) 41 Y).alloc (.cells Z 41)
    simpa using this
  have h4 : Blk (((w.alloc (.cells X 41)).alloc (.cells Y 41)).alloc (.cells Z 41)) (w.heap.size + 2) 41 Z := by
    have := (Blk.new ((w.alloc (.cells X 41)).alloc (.cells Y 41)) 41 Z)
    simpa using this
  rw [hX, hY, hZ] at hW h2 h3 h4
  clear hX hY hZ
  generalize ((w.alloc (.cells #[.bool s, .slice A n c, .slice B m d] 41)).alloc (.cells #[.bool s', .slice A' n' c', .slice B' m' d'] 41)).alloc (.cells #[.bool false, .slice none 0 0, .slice none 0 0] 41) = w0 at hW h2 h3 h4 ⊢
  clear X Y Z
  replace HA := Lib.hid (HA.out.new hW); replace HB := Lib.hid (HB.out.new hW)
  have HW := Lib.hid hW; clear hW
  have T2 : Hid (TB w0 w.heap.size 41 (.bool s) (.slice A n c) (.slice B m d)) := Lib.hid h2
  have T3 : Hid (TB w0 (w.heap.size + 1) 41 (.bool s') (.slice A' n' c') (.slice B' m' d')) := Lib.hid h3
  have T4 : Hid (TB w0 (w.heap.size + 2) 41 (.bool false) (.slice none 0 0) (.slice none 0 0)) := Lib.hid h4
  clear h2 h3 h4
  go_cut [2] (fun p2 wx => p2 = .pointer (some ⟨w.heap.size, 0, none⟩) ∧ ∃ s1 A1 n1 c1 B1 m1 d1 s2 A2 n2 c2 B2 m2 d2, Hid (TB wx w.heap.size 41 (.bool s1) (.slice A1 n1 c1) (.slice B1 m1 d1) ∧ TB wx (w.heap.size + 1) 41 (.bool s2) (.slice A2 n2 c2) (.slice B2 m2 d2) ∧ TB wx (w.heap.size + 2) 41 (.bool false) (.slice none 0 0) (.slice none 0 0) ∧ Rn wx s1 A1 n1 c1 B1 m1 d1 b x ∧ Rn wx s2 A2 n2 c2 B2 m2 d2 b' y ∧ Below w.heap.size w wx))
  case first =>
    have a0 := T2.out.c0; have a1 := T2.out.c1; have a2 := T2.out.c2
    have b0 := T3.out.c0; have b1 := T3.out.c1; have b2 := T3.out.c2
    go_region_law (first
      | (have HB5' := HB5; clear HB5'; go_simp; go_at_call 63; refine (qnorm_any HB5.out (by omega)).mono ?_; rintro e w6 ⟨s6, A6, n6, c6, B6, m6, d6, rfl, h6, hb⟩; have H6 := Lib.hid h6; replace H5 := Lib.hid (H5.out.new hb); replace U2 := Lib.hid (U2.out.new hb); replace U3 := Lib.hid (U3.out.new hb); replace U4 := Lib.hid (U4.out.new hb); replace HW5 := Lib.hid (bthen HW5.out hb HW5.out.size); clear h6 hb; have e0 := U3.out.c0; have e1 := U3.out.c1; have e2 := U3.out.c2; have g0 := U3.out.f0; have g1 := U3.out.f1; have g2 := U3.out.f2; have d0 := U2.out.c0; have d1 := U2.out.c1; have d2 := U2.out.c2; have f0 := U2.out.f0; have f1 := U2.out.f1; have f2 := U2.out.f2)
      | (go_simp; go_at_call 63; refine (qnorm_any (w := w0.drew) HA.out (by omega)).mono ?_; rintro e w5 ⟨s5, A5, n5, c5, B5, m5, d5, rfl, h5, hb⟩; have H5 := Lib.hid h5; have U2 := Lib.hid (T2.out.drew.new hb); have U3 := Lib.hid (T3.out.drew.new hb); have U4 := Lib.hid (T4.out.drew.new hb); have HW5 := Lib.hid (bthen HW.out.drew hb HW.out.drew.size); have HB5 := Lib.hid (HB.out.new (w := w0.drew) hb); clear h5 hb; have b0 := U3.out.c0; have b1 := U3.out.c1; have b2 := U3.out.c2))
    all_goals
      go_wp2_with fail
      go_meet
      exact ⟨rfl, s5, A5, n5, c5, B5, m5, d5, s6, A6, n6, c6, B6, m6, d6, Lib.hid (two_stored U2.out U3.out U4.out H5.out H6.out HW5.out rfl rfl rfl rfl rfl rfl)⟩
  case rest =>
    clear HA HB HW T2 T3 T4
    obtain ⟨rfl, s1, A1, n1, c1, B1, m1, d1, s2, A2, n2, c2, B2, m2, d2, HC⟩ := hcut
    obtain ⟨t2, t3, t4, r1, r2, hW⟩ := HC.out
    have l2 := t2.lt; have l3 := t3.lt; have l4 := t4.lt
    have T2 := Lib.hid t2; have T3 := Lib.hid t3; have T4 := Lib.hid t4; have R1 := Lib.hid r1; have R2 := Lib.hid r2; have HW := Lib.hid hW
    clear t2 t3 t4 r1 r2 hW HC
    have a0 := T2.out.c0; have a1 := T2.out.c1; have a2 := T2.out.c2
    have b0 := T3.out.c0; have b1 := T3.out.c1; have b2 := T3.out.c2
    go_wp2_with fail
    go_region_held3 (fun w' => ((w'.cell? ⟨w.heap.size, 0, none⟩ = some (.bool s1) ∧ w'.cell? ⟨w.heap.size, 1, none⟩ = some (.slice A1 n1 c1) ∧ w'.cell? ⟨w.heap.size, 2, none⟩ = some (.slice B1 m1 d1)) ∧ (w'.cell? ⟨w.heap.size + 1, 0, none⟩ = some (.bool s2) ∧ w'.cell? ⟨w.heap.size + 1, 1, none⟩ = some (.slice A2 n2 c2) ∧ w'.cell? ⟨w.heap.size + 1, 2, none⟩ = some (.slice B2 m2 d2))) ∧ wc.grownBy w' (some (w.heap.size + 2)))
      ((refine keep6 T2.out T3.out ?_ (by omega) (by omega); first | exact World.grownBy.refl _ _ | exact only_drew (World.grownBy.refl _ _) | exact Hid.out ‹_› | exact only_store3 (Hid.out ‹_›) _ _ _))
      (first
        | (have Hg := H5; clear Hg; go_at_call 50; refine (mul_n (R2.out.2.1.1.new HB5.out) (R1.out.2.2.1.new HB5.out) (by omega)).mono ?_; rintro e w6 ⟨A6, k6, c6, rfl, h6, -, hb⟩; have H6 := Lib.hid h6; replace H5 := Lib.hid (H5.out.new hb); have HB6 := Lib.hid (bthen HB5.out hb HB5.out.size); have HG6 := Lib.hid (grown_below HB6.out (some (w.heap.size + 2))); clear h6 hb)
        | (go_at_call 50; refine (mul_n (w := wc.drew) R1.out.2.1.1 R2.out.2.2.1 (by omega)).mono ?_; rintro e w5 ⟨A5, k5, c5, rfl, h5, -, hb⟩; have H5 := Lib.hid h5; have HB5 := Lib.hid (below_from_drew hb); have HG5 := Lib.hid (grown_below HB5.out (some (w.heap.size + 2))); clear h5 hb))
    have hb := HB6.out
    replace H6 := Lib.hid (H6.out.more (b := b + b') (by omega))
    clear HB5 HB6 HG5 HG6 a0 a1 a2 b0 b1 b2
    clear ‹_ ∧ wc.grownBy _ _›
    replace T2 := Lib.hid (T2.out.new hb); replace T3 := Lib.hid (T3.out.new hb); replace T4 := Lib.hid (T4.out.new hb)
    replace R1 := Lib.hid (R1.out.new hb); replace R2 := Lib.hid (R2.out.new hb)
    replace HW := Lib.hid (bthen HW.out hb HW.out.size)
    clear hb
    have a0 := T2.out.c0; have a2 := T2.out.c2; have b0 := T3.out.c0; have b2 := T3.out.c2
    go_wp2_with fail
    refine (mul_n R1.out.2.2.1 R2.out.2.2.1 (by omega)).mono ?_
    rintro e w8 ⟨A8, k8, c8, rfl, h8, -, hb⟩
    have H8 := Lib.hid h8
    clear a0 a2 b0 b2
    replace T2 := Lib.hid (T2.out.new hb); replace T3 := Lib.hid (T3.out.new hb); replace T4 := Lib.hid (T4.out.new hb)
    replace R1 := Lib.hid (R1.out.new hb); replace R2 := Lib.hid (R2.out.new hb)
    replace HW := Lib.hid (bthen HW.out hb HW.out.size)
    replace H5 := Lib.hid (H5.out.new hb); replace H6 := Lib.hid (H6.out.new hb)
    clear h8 hb
    have a0 := T2.out.c0; have b0 := T3.out.c0
    have HD := Lib.hid (H8.out.more (b := b + b' + 1) (by omega))
    by_cases hs : s1 = s2
    · subst hs
      have ts : (s1 == s1) = true := by simp
      have HQ := Lib.hid (show x + y = qv s1 (x.num.natAbs * y.den + y.num.natAbs * x.den) (x.den * y.den) by
        rw [qv_same x.den_nz y.den_nz]
        conv => rhs; rhs; rw [R2.out.1, qv_self]
        rw [R1.out.1, qv_self])
      go_wp2_with fail
      have l4 := T4.out.lt
      go_region_held3 (fun w' => ((w'.cell? ⟨w.heap.size, 0, none⟩ = some (.bool s1) ∧ w'.cell? ⟨w.heap.size, 1, none⟩ = some (.slice A1 n1 c1) ∧ w'.cell? ⟨w.heap.size, 2, none⟩ = some (.slice B1 m1 d1)) ∧ (w'.cell? ⟨w.heap.size + 1, 0, none⟩ = some (.bool s1) ∧ w'.cell? ⟨w.heap.size + 1, 1, none⟩ = some (.slice A2 n2 c2) ∧ w'.cell? ⟨w.heap.size + 1, 2, none⟩ = some (.slice B2 m2 d2))) ∧ w8.grownBy w' (some (w.heap.size + 2)))
        ((refine keep6 T2.out T3.out ?_ (by omega) (by omega); first | exact World.grownBy.refl _ _ | exact only_drew (World.grownBy.refl _ _) | exact Hid.out ‹_› | exact only_store3 (Hid.out ‹_›) _ _ _))
        (first
          | (have Hg := H9; clear Hg; go_at_call 63; refine (qnorm_any (x := x + y) (s := s1) (b := b + b' + 1) ⟨_, _, H9.out.up (PB_two H5.out H6.out) (by omega), HD.out.new HB9.out, HQ.out⟩ (by omega)).mono ?_; rintro e w7 ⟨s7, A7, n7, c7, B7, m7, d7, rfl, h7, hb⟩; have H7 := Lib.hid h7; have HB7 := Lib.hid (bthen HB9.out hb HB9.out.size); have HG7 := Lib.hid (grown_below HB7.out (some (w.heap.size + 2))); have HW7 := Lib.hid (bthen HW.out HB7.out HW.out.size); clear h7 hb; have U4 := Lib.hid (T4.out.new HB7.out); have r0 := U4.out.c0; have r1 := U4.out.c1; have r2 := U4.out.c2; have f0 := U4.out.f0; have f1 := U4.out.f1; have f2 := U4.out.f2)
          | (go_at_call 94; refine (add_n (w := w8.drew) H5.out H6.out (by omega)).mono ?_; rintro e w9 ⟨A9, k9, c9, rfl, h9, -, hb⟩; have H9 := Lib.hid h9; have HB9 := Lib.hid (below_from_drew hb); have HG9 := Lib.hid (grown_below HB9.out (some (w.heap.size + 2))); clear h9 hb))
      go_wp2_with fail
      refine bodyPost_ret (v := .agg #[.bool s7, .slice A7 n7 c7, .slice B7 m7 d7]) ?_ rfl ⟨_, _, _, _, _, _, _, rfl, H7.out.store3 U4.out _ _ _, below_store3 HW7.out (by omega) _ _ _⟩
      exact results_cell_row Try.results77 _ _ _ _ _ (0, 0) _ rfl (U4.out.set3 _ _ _) Try.underlying41 rfl rfl
    · have ts : (s1 == s2) = false := by simp [hs]
      have hs2 : s2 = !s1 := bool_ne hs
      have hs1 : s1 = !s2 := bool_ne (fun h => hs h.symm)
      have HQ := Lib.hid (show x + y = qv s1 x.num.natAbs x.den + qv (!s1) y.num.natAbs y.den by rw [← hs2, R1.out.1, R2.out.1, qv_self, qv_self])
      have HQ2 := Lib.hid (show x + y = qv s2 y.num.natAbs y.den + qv (!s2) x.num.natAbs x.den by rw [← hs1, R1.out.1, R2.out.1, qv_self, qv_self, Rat.add_comm])
      clear hs hs1 hs2
      by_cases hle : y.num.natAbs * x.den ≤ x.num.natAbs * y.den
      · have HL := Lib.hid hle; clear hle
        go_wp2_with fail
        refine (sub_n H5.out H6.out (by omega)).mono ?_
        rintro e w9 ⟨-, hs⟩
        obtain ⟨A9, k9, c9, rfl, h9, -, hb⟩ := hs HL.out
        clear hs a0 b0
        replace T2 := Lib.hid (T2.out.new hb); replace T3 := Lib.hid (T3.out.new hb); replace T4 := Lib.hid (T4.out.new hb)
        replace R1 := Lib.hid (R1.out.new hb); replace R2 := Lib.hid (R2.out.new hb)
        replace HW := Lib.hid (bthen HW.out hb HW.out.size)
        replace HD := Lib.hid (HD.out.new hb)
        have H9 := Lib.hid (h9.more (b := b + b' + 1) (by omega)); clear h9 hb
        have a0 := T2.out.c0
        go_wp2_with fail
        refine (qnorm_any (x := x + y) (s := s1) (b := b + b' + 1) ⟨_, _, H9.out, HD.out, by rw [HQ.out, qv_diff x.den_nz y.den_nz HL.out]⟩ (by omega)).mono ?_
        rintro e w7 ⟨s7, A7, n7, c7, B7, m7, d7, rfl, h7, hb⟩
        have H7 := Lib.hid h7
        have U4 := Lib.hid (T4.out.new hb)
        have HW7 := Lib.hid (bthen HW.out hb HW.out.size)
        have r0 := U4.out.c0; have r1 := U4.out.c1; have r2 := U4.out.c2; have f0 := U4.out.f0; have f1 := U4.out.f1; have f2 := U4.out.f2
        clear h7 hb
        go_wp2_with fail
        refine bodyPost_ret (v := .agg #[.bool s7, .slice A7 n7 c7, .slice B7 m7 d7]) ?_ rfl ⟨_, _, _, _, _, _, _, rfl, H7.out.store3 U4.out _ _ _, below_store3 HW7.out (by omega) _ _ _⟩
        exact results_cell_row Try.results77 _ _ _ _ _ (0, 0) _ rfl (U4.out.set3 _ _ _) Try.underlying41 rfl rfl
      · have HL := Lib.hid (show x.num.natAbs * y.den < y.num.natAbs * x.den by omega); clear hle
        go_wp2_with fail
        refine (sub_n H5.out H6.out (by omega)).mono ?_
        rintro e w9 ⟨hs, -⟩
        obtain ⟨rfl, hb⟩ := hs HL.out
        clear hs a0 b0
        replace T2 := Lib.hid (T2.out.new hb); replace T3 := Lib.hid (T3.out.new hb); replace T4 := Lib.hid (T4.out.new hb)
        replace R1 := Lib.hid (R1.out.new hb); replace R2 := Lib.hid (R2.out.new hb)
        replace HW := Lib.hid (bthen HW.out hb HW.out.size)
        replace HD := Lib.hid (HD.out.new hb); replace H5 := Lib.hid (H5.out.new hb); replace H6 := Lib.hid (H6.out.new hb)
        clear hb
        go_wp2_with fail
        refine (sub_n H6.out H5.out (by omega)).mono ?_
        rintro e w10 ⟨-, hs⟩
        obtain ⟨A9, k9, c9, rfl, h9, -, hb⟩ := hs (Nat.le_of_lt HL.out)
        clear hs
        replace T2 := Lib.hid (T2.out.new hb); replace T3 := Lib.hid (T3.out.new hb); replace T4 := Lib.hid (T4.out.new hb)
        replace R1 := Lib.hid (R1.out.new hb); replace R2 := Lib.hid (R2.out.new hb)
        replace HW := Lib.hid (bthen HW.out hb HW.out.size)
        replace HD := Lib.hid (HD.out.new hb)
        have H9 := Lib.hid (h9.more (b := b + b' + 1) (by omega)); clear h9 hb
        have b0 := T3.out.c0
        go_wp2_with fail
        refine (qnorm_any (x := x + y) (s := s2) (b := b + b' + 1) ⟨_, _, H9.out, HD.out, by rw [HQ2.out, Nat.mul_comm x.den, qv_diff y.den_nz x.den_nz (Nat.le_of_lt HL.out)]⟩ (by omega)).mono ?_
        rintro e w7 ⟨s7, A7, n7, c7, B7, m7, d7, rfl, h7, hb⟩
        have H7 := Lib.hid h7
        have U4 := Lib.hid (T4.out.new hb)
        have HW7 := Lib.hid (bthen HW.out hb HW.out.size)
        have r0 := U4.out.c0; have r1 := U4.out.c1; have r2 := U4.out.c2; have f0 := U4.out.f0; have f1 := U4.out.f1; have f2 := U4.out.f2
        clear h7 hb
        go_wp2_with fail
        refine bodyPost_end (v := .agg #[.bool s7, .slice A7 n7 c7, .slice B7 m7 d7]) ?_ rfl ⟨_, _, _, _, _, _, _, rfl, H7.out.store3 U4.out _ _ _, below_store3 HW7.out (by omega) _ _ _⟩
        exact results_cell_row Try.results77 _ _ _ _ _ (0, 0) _ rfl (U4.out.set3 _ _ _) Try.underlying41 rfl rfl
end Go.Proofs.Ytamcibmjpmibdaa
namespace Go.Proofs.Ytamcibmjpmibdaa
open Go.RowKit

theorem qv_sign (s : Bool) (N M : Nat) : (qv s N M).num.sign = if N = 0 then 0 else if s then -1 else 1 := by
  by_cases hN : N = 0
  · subst hN; rw [qv_zero, if_pos rfl]; rfl
  · rw [if_neg hN]
    obtain ⟨M', hM', he⟩ : ∃ M', M' ≠ 0 ∧ qv s N M = qv s N M' := by
      by_cases hM : M = 0
      · exact ⟨1, by omega, by rw [hM, qv_den0]⟩
      · exact ⟨M, hM, rfl⟩
    rw [he, qv_num hM']
    have hg : 0 < Nat.gcd N M' := Nat.gcd_pos_of_pos_left _ (by omega)
    have hk : 0 < N / Nat.gcd N M' := Nat.div_pos (Nat.le_of_dvd (by omega) (Nat.gcd_dvd_left N M')) hg
    generalize N / Nat.gcd N M' = k at *
    cases s
    · simp only [Bool.false_eq_true, if_false]; exact Int.sign_eq_one_of_pos (by omega)
    · simp only [if_true]; exact Int.sign_eq_neg_one_of_neg (by omega)

theorem Ra.store3 {w : World} {g : Nat} {t : TypeId} {q : Bool} {a1 b1 : Option Addr} {a2 a3 b2 b3 : Nat} {s : Bool} {A B : Option Addr} {n c m d b : Nat} {r : Rat} (h : Ra w s A n c B m d b r) (ht : TB w g t (.bool q) (.slice a1 a2 a3) (.slice b1 b2 b3)) (x y z : Value) : Ra (((w.setCell ⟨g, 0, none⟩ x).setCell ⟨g, 1, none⟩ y).setCell ⟨g, 2, none⟩ z) s A n c B m d b r := by
  obtain ⟨N, M, h1, h2, h3⟩ := h
  exact ⟨N, M, h1.store3 ht x y z, h2.store3 ht x y z, h3⟩
section
variable {w : World} {s : Bool} {A B : Option Addr} {n c m d b : Nat} {x : Rat}
set_option maxHeartbeats 2000000 in
theorem sign_any (h : Ra w s A n c B m d b x) : Calls Try.prog 44 #[.agg #[.bool s, .slice A n c, .slice B m d]] w fun e w' => e = .returned (.int .i64 x.num.sign) ∧ Below w.heap.size w w' := by
  obtain ⟨N, M, hA, hB, hx⟩ := h
  have HS := Lib.hid (show x.num.sign = if N = 0 then 0 else if s then -1 else 1 by rw [hx, qv_sign])
  have HA := Lib.hid (hA.new (al w (.cells #[.bool s, .slice A n c, .slice B m d] 41))); clear hA hB hx
  go_enter Try.func44, Try.ntmps44
  go_wp2_with fail
  refine (bits_n HA.out).mono ?_
  rintro e w1 ⟨bb, rfl, hbits, hbb, rfl⟩
  by_cases hN : N = 0
  · have HSS := Lib.hid (show x.num.sign = 0 by rw [HS.out, if_pos hN])
    subst hN
    obtain rfl := hbits.zero'
    clear hbits
    go_wp2_with fail
    go_ret
    exact ⟨by rw [HSS.out]; rfl, al w _⟩
  · have tb : ((bb : Int) == 0) = false := by have := hbits.pos' hN; simp; omega
    have HSS := Lib.hid (show x.num.sign = if s then -1 else 1 by rw [HS.out, if_neg hN])
    clear hbits HS hN
    cases s
    all_goals
      go_wp2_with fail
      go_ret
      exact ⟨by rw [HSS.out]; rfl, al w _⟩

def dnz (M : Nat) : Nat := if M = 0 then 1 else M
theorem dnz_ne (M : Nat) : dnz M ≠ 0 := by unfold dnz; split <;> omega
theorem qv_dnz (s : Bool) (N M : Nat) : qv s N M = qv s N (dnz M) := by
  unfold dnz; split
  · rename_i h; rw [h, qv_den0]
  · rfl
set_option maxHeartbeats 2000000 in
theorem divisor_any {M : Nat} (hB : Num w B m d b M) : Calls Try.prog 51 #[.agg #[.bool s, .slice A n c, .slice B m d]] w (RetN1 w b (dnz M)) := by
  have HB := Lib.hid (hB.new (al w (.cells #[.bool s, .slice A n c, .slice B m d] 41))); clear hB
  go_enter Try.func51, Try.ntmps51
  go_wp2_with fail
  refine (bits_n HB.out).mono ?_
  rintro e w1 ⟨bb, rfl, hbits, hbb, rfl⟩
  by_cases hM : M = 0
  · subst hM
    obtain rfl := hbits.zero'
    clear hbits
    go_wp2_with fail
    refine (of_n 1 (by omega) _).mono ?_
    rintro e w2 ⟨A2, k2, c2, rfl, h2, -, hb⟩
    have H2 := Lib.hid h2; have HW := Lib.hid (bthen (al w _) hb (al w _).size); clear h2 hb
    go_wp2_with fail
    go_ret
    exact ⟨A2, k2, c2, rfl, H2.out.up (PB_one HB.out.2.1) HB.out.2.1, HW.out⟩
  · have tb : ((bb : Int) == 0) = false := by have := hbits.pos' hM; simp; omega
    have HD := Lib.hid (show dnz M = M by simp [dnz, hM])
    clear hbits hM
    go_wp2_with fail
    go_ret
    rw [HD.out]
    exact ⟨B, m, d, rfl, HB.out, al w _⟩

set_option maxRecDepth 100000 in
set_option maxHeartbeats 4000000 in
theorem qneg_any (h : Ra w s A n c B m d b x) (hb5 : b ≤ 5000) : Calls Try.prog 24 #[.agg #[.bool s, .slice A n c, .slice B m d]] w (RetQ w b (-x)) := by
  obtain ⟨N, M, hA, hB, hx⟩ := h
  have HX := Lib.hid (show -x = qv (!s) N M by rw [hx, qv_negate]); clear hx
  have HA := Lib.hid hA; have HB := Lib.hid hB; clear hA hB
  go_enter Try.func24, Try.ntmps24
  go_wp2_with fail
  have hT1 : TB ((w.alloc (.cells #[.bool s, .slice A n c, .slice B m d] 41)).alloc (.cells #[.bool false, .slice none 0 0, .slice none 0 0] 41)) (w.heap.size + 1) 41 (.bool false) (.slice none 0 0) (.slice none 0 0) := by simpa using TB.made (w.alloc (.cells #[.bool s, .slice A n c, .slice B m d] 41)) 41 (.bool false) (.slice none 0 0) (.slice none 0 0)
  have hW : Below w.heap.size w ((w.alloc (.cells #[.bool s, .slice A n c, .slice B m d] 41)).alloc (.cells #[.bool false, .slice none 0 0, .slice none 0 0] 41)) := (al w _).alloc (by simp) _
  generalize (w.alloc (.cells #[.bool s, .slice A n c, .slice B m d] 41)).alloc (.cells #[.bool false, .slice none 0 0, .slice none 0 0] 41) = w0 at hT1 hW ⊢
  refine (qnorm_any (x := -x) (s := !s) (b := b) ⟨N, M, HA.out.new hW, HB.out.new hW, HX.out⟩ hb5).mono ?_
  rintro e w7 ⟨s7, A7, n7, c7, B7, m7, d7, rfl, h7, hb⟩
  have H7 := Lib.hid h7
  have U4 := Lib.hid (hT1.new hb)
  have HW7 := Lib.hid (bthen hW hb hW.size)
  have r0 := U4.out.c0; have r1 := U4.out.c1; have r2 := U4.out.c2; have f0 := U4.out.f0; have f1 := U4.out.f1; have f2 := U4.out.f2
  clear h7 hb hT1 hW
  go_wp2_with fail
  refine bodyPost_end (v := .agg #[.bool s7, .slice A7 n7 c7, .slice B7 m7 d7]) ?_ rfl ⟨_, _, _, _, _, _, _, rfl, H7.out.store3 U4.out _ _ _, below_store3 HW7.out (by omega) _ _ _⟩
  exact results_cell_row Try.results24 _ _ _ _ _ (0, 0) _ rfl (U4.out.set3 _ _ _) Try.underlying41 rfl rfl
end

set_option maxRecDepth 100000 in
set_option maxHeartbeats 4000000 in
theorem qsub_any {w : World} {s : Bool} {A B : Option Addr} {n c m d b : Nat} {x : Rat} (h : Ra w s A n c B m d b x) {s' : Bool} {A' B' : Option Addr} {n' c' m' d' b' : Nat} {y : Rat} (h' : Ra w s' A' n' c' B' m' d' b' y) (hb5 : b + b' ≤ 4900) : Calls Try.prog 93 #[.agg #[.bool s, .slice A n c, .slice B m d], .agg #[.bool s', .slice A' n' c', .slice B' m' d']] w (RetQ w (b + b' + 1) (x - y)) := by
  have HA := Lib.hid h; have HB := Lib.hid h'; clear h h'
  go_enter Try.func93, Try.ntmps93
  go_wp2_with fail
  obtain ⟨X, hX⟩ : ∃ X : Array Value, X = #[.bool s, .slice A n c, .slice B m d] := ⟨_, rfl⟩
  obtain ⟨Y, hY⟩ : ∃ Y : Array Value, Y = #[.bool s', .slice A' n' c', .slice B' m' d'] := ⟨_, rfl⟩
  obtain ⟨Z, hZ⟩ : ∃ Z : Array Value, Z = #[.bool false, .slice none 0 0, .slice none 0 0] := ⟨_, rfl⟩
  have hW : Below w.heap.size w (((w.alloc (.cells X 41)).alloc (.cells Y 41)).alloc (.cells Z 41)) := ((al w _).alloc (by simp) _).alloc (by simp; omega) _
  have h2 : Blk (((w.alloc (.cells X 41)).alloc (.cells Y 41)).alloc (.cells Z 41)) w.heap.size 41 X := ((Blk.new w _ _).alloc _).alloc _
  have h3 : Blk (((w.alloc (.cells X 41)).alloc (.cells Y 41)).alloc (.cells Z 41)) (w.heap.size + 1) 41 Y := by
    have := (Blk.new (w.alloc (.cells X 41)) 41 Y).alloc (.cells Z 41)
    simpa using this
  have h4 : Blk (((w.alloc (.cells X 41)).alloc (.cells Y 41)).alloc (.cells Z 41)) (w.heap.size + 2) 41 Z := by
    have := (Blk.new ((w.alloc (.cells X 41)).alloc (.cells Y 41)) 41 Z)
    simpa using this
  rw [hX, hY, hZ] at hW h2 h3 h4
  clear hX hY hZ
  generalize ((w.alloc (.cells #[.bool s, .slice A n c, .slice B m d] 41)).alloc (.cells #[.bool s', .slice A' n' c', .slice B' m' d'] 41)).alloc (.cells #[.bool false, .slice none 0 0, .slice none 0 0] 41) = w0 at hW h2 h3 h4 ⊢
  clear X Y Z
  replace HA := Lib.hid (HA.out.new hW); replace HB := Lib.hid (HB.out.new hW)
  have HW := Lib.hid hW; clear hW
  have T2 : Hid (TB w0 w.heap.size 41 (.bool s) (.slice A n c) (.slice B m d)) := Lib.hid h2
  have T3 : Hid (TB w0 (w.heap.size + 1) 41 (.bool s') (.slice A' n' c') (.slice B' m' d')) := Lib.hid h3
  have T4 : Hid (TB w0 (w.heap.size + 2) 41 (.bool false) (.slice none 0 0) (.slice none 0 0)) := Lib.hid h4
  clear h2 h3 h4
  have l2 := T2.out.lt; have l3 := T3.out.lt; have l4 := T4.out.lt
  have a0 := T2.out.c0; have a1 := T2.out.c1; have a2 := T2.out.c2
  have b0 := T3.out.c0; have b1 := T3.out.c1; have b2 := T3.out.c2
  go_region_held3 (fun w' => ((w'.cell? ⟨w.heap.size, 0, none⟩ = some (.bool s) ∧ w'.cell? ⟨w.heap.size, 1, none⟩ = some (.slice A n c) ∧ w'.cell? ⟨w.heap.size, 2, none⟩ = some (.slice B m d)) ∧ (w'.cell? ⟨w.heap.size + 1, 0, none⟩ = some (.bool s') ∧ w'.cell? ⟨w.heap.size + 1, 1, none⟩ = some (.slice A' n' c') ∧ w'.cell? ⟨w.heap.size + 1, 2, none⟩ = some (.slice B' m' d'))) ∧ w0.grownBy w' (some (w.heap.size + 2)))
    ((refine keep6 T2.out T3.out ?_ (by omega) (by omega); first | exact World.grownBy.refl _ _ | exact only_drew (World.grownBy.refl _ _) | exact Hid.out ‹_› | exact only_store3 (Hid.out ‹_›) _ _ _))
    (first
      | (have Hg := H5; clear Hg; go_at_call 77; refine (qadd_any (HA.out.new HB5.out) H5.out.ra hb5).mono ?_; rintro e w7 ⟨s7, A7, n7, c7, B7, m7, d7, rfl, h7, hb⟩; have H7 := Lib.hid h7; have HB7 := Lib.hid (bthen HB5.out hb HB5.out.size); have HG7 := Lib.hid (grown_below HB7.out (some (w.heap.size + 2))); have HW7 := Lib.hid (bthen HW.out HB7.out HW.out.size); clear h7 hb; have U4 := Lib.hid (T4.out.new HB7.out); have r0 := U4.out.c0; have r1 := U4.out.c1; have r2 := U4.out.c2; have f0 := U4.out.f0; have f1 := U4.out.f1; have f2 := U4.out.f2)
      | (go_at_call 24; refine (qneg_any (w := w0.drew) HB.out (by omega)).mono ?_; rintro e w5 ⟨s5, A5, n5, c5, B5, m5, d5, rfl, h5, hb⟩; have H5 := Lib.hid h5; have HB5 := Lib.hid (below_from_drew hb); have HG5 := Lib.hid (grown_below HB5.out (some (w.heap.size + 2))); clear h5 hb))
  go_wp2_with fail
  rw [Rat.sub_eq_add_neg]
  refine bodyPost_end (v := .agg #[.bool s7, .slice A7 n7 c7, .slice B7 m7 d7]) ?_ rfl ⟨_, _, _, _, _, _, _, rfl, H7.out.store3 U4.out _ _ _, below_store3 HW7.out (by omega) _ _ _⟩
  exact results_cell_row Try.results93 _ _ _ _ _ (0, 0) _ rfl (U4.out.set3 _ _ _) Try.underlying41 rfl rfl

theorem results_cell_tmp {P : Program} {fn : Func} {p t : Tmp} {ty : TypeId} (h : fn.results = #[.cell p ty, .tmp t]) (tmps : Array Value) (w : World) (g : Nat) (t' : TypeId) (cs : Array Value) (fr : Nat × Nat) (d : TypeDesc)
    (hp : tmps.getD p undef = .pointer (some ⟨g, 0, none⟩)) (hg : w.heap[g]? = some (.cells cs t' fr))
    (hu : P.underlying ty = some d) (hd : (match d with | .struct _ | .array _ _ => true | _ => false) = true) (hi : (P.info? ty).map (·.size) = some cs.size) :
    (results fn tmps).run P w = .ok (.tuple #[.agg cs, tmps.getD t undef]) w := by
  have hp' : tmps[p]?.getD undef = .pointer (some ⟨g, 0, none⟩) := by simpa using hp
  simp [results, h, hp', asAddr, run_loadVar_row w g t' ty cs fr d hg hu hd hi]

def RetDiv (w : World) (b : Nat) (x y : Rat) (e : Ending) (w' : World) : Prop :=
  (y = 0 → e = .returned (.tuple #[.agg #[.bool false, .slice none 0 0, .slice none 0 0], .int .i64 18]) ∧ Below w.heap.size w w') ∧
  (y ≠ 0 → ∃ s A n c B m d, e = .returned (.tuple #[.agg #[.bool s, .slice A n c, .slice B m d], .int .i64 0]) ∧ Rn w' s A n c B m d b (x / y) ∧ Below w.heap.size w w')
theorem num_zero {y : Rat} : y.num.natAbs = 0 ↔ y = 0 := by
  rw [Int.natAbs_eq_zero]; exact Rat.num_eq_zero

set_option maxRecDepth 100000 in
set_option maxHeartbeats 4000000 in
theorem qdiv_any {w : World} {s : Bool} {A B : Option Addr} {n c m d b : Nat} {x : Rat} (h : Ra w s A n c B m d b x) {s' : Bool} {A' B' : Option Addr} {n' c' m' d' b' : Nat} {y : Rat} (h' : Ra w s' A' n' c' B' m' d' b' y) (hb5 : b + b' ≤ 4900) : Calls Try.prog 92 #[.agg #[.bool s, .slice A n c, .slice B m d], .agg #[.bool s', .slice A' n' c', .slice B' m' d']] w (RetDiv w (b + b') x y) := by
  have HA := Lib.hid h; have HB := Lib.hid h'; clear h h'
  go_enter Try.func92, Try.ntmps92
  go_upto_region 1 with (fail)
  obtain ⟨X, hX⟩ : ∃ X : Array Value, X = #[.bool s, .slice A n c, .slice B m d] := ⟨_, rfl⟩
  obtain ⟨Y, hY⟩ : ∃ Y : Array Value, Y = #[.bool s', .slice A' n' c', .slice B' m' d'] := ⟨_, rfl⟩
  obtain ⟨Z, hZ⟩ : ∃ Z : Array Value, Z = #[.bool false, .slice none 0 0, .slice none 0 0] := ⟨_, rfl⟩
  have hW : Below w.heap.size w (((w.alloc (.cells X 41)).alloc (.cells Y 41)).alloc (.cells Z 41)) := ((al w _).alloc (by simp) _).alloc (by simp; omega) _
  have h2 : Blk (((w.alloc (.cells X 41)).alloc (.cells Y 41)).alloc (.cells Z 41)) w.heap.size 41 X := ((Blk.new w _ _).alloc _).alloc _
  have h3 : Blk (((w.alloc (.cells X 41)).alloc (.cells Y 41)).alloc (.cells Z 41)) (w.heap.size + 1) 41 Y := by
    have := (Blk.new (w.alloc (.cells X 41)) 41 Y).alloc (.cells Z 41)
    simpa using this
  have h4 : Blk (((w.alloc (.cells X 41)).alloc (.cells Y 41)).alloc (.cells Z 41)) (w.heap.size + 2) 41 Z := by
    have := (Blk.new ((w.alloc (.cells X 41)).alloc (.cells Y 41)) 41 Z)
    simpa using this
  rw [hX, hY, hZ] at hW h2 h3 h4
  clear hX hY hZ
  generalize ((w.alloc (.cells #[.bool s, .slice A n c, .slice B m d] 41)).alloc (.cells #[.bool s', .slice A' n' c', .slice B' m' d'] 41)).alloc (.cells #[.bool false, .slice none 0 0, .slice none 0 0] 41) = w0 at hW h2 h3 h4 ⊢
  clear X Y Z
  replace HA := Lib.hid (HA.out.new hW); replace HB := Lib.hid (HB.out.new hW)
  have HW := Lib.hid hW; clear hW
  have T2 : Hid (TB w0 w.heap.size 41 (.bool s) (.slice A n c) (.slice B m d)) := Lib.hid h2
  have T3 : Hid (TB w0 (w.heap.size + 1) 41 (.bool s') (.slice A' n' c') (.slice B' m' d')) := Lib.hid h3
  have T4 : Hid (TB w0 (w.heap.size + 2) 41 (.bool false) (.slice none 0 0) (.slice none 0 0)) := Lib.hid h4
  clear h2 h3 h4
  have b0 := T3.out.c0; have b1 := T3.out.c1; have b2 := T3.out.c2
  go_wp2_with fail
  refine (qnorm_any HB.out (by omega)).mono ?_
  rintro e w5 ⟨s5, A5, n5, c5, B5, m5, d5, rfl, h5, hb⟩
  have t3 := T3.out.new hb
  clear b0 b1 b2
  have e0 := t3.c0; have e1 := t3.c1; have e2 := t3.c2; have g0 := t3.f0; have g1 := t3.f1; have g2 := t3.f2
  have H5 := Lib.hid (h5.store3 t3 (.bool s5) (.slice A5 n5 c5) (.slice B5 m5 d5))
  have HA5 := Lib.hid ((HA.out.new hb).store3 t3 (.bool s5) (.slice A5 n5 c5) (.slice B5 m5 d5))
  have U2 := Lib.hid ((T2.out.new hb).far3 (show w.heap.size ≠ w.heap.size + 1 by omega) (.bool s5) (.slice A5 n5 c5) (.slice B5 m5 d5))
  have U4 := Lib.hid ((T4.out.new hb).far3 (show w.heap.size + 2 ≠ w.heap.size + 1 by omega) (.bool s5) (.slice A5 n5 c5) (.slice B5 m5 d5))
  have U3 : Hid (TB _ _ _ _ _ _) := Lib.hid (t3.set3 (.bool s5) (.slice A5 n5 c5) (.slice B5 m5 d5))
  have HW5 := Lib.hid (below_store3 (bthen HW.out hb HW.out.size) (show w.heap.size ≤ w.heap.size + 1 by omega) (.bool s5) (.slice A5 n5 c5) (.slice B5 m5 d5))
  clear h5 hb t3 HA HB T2 T3 T4 HW
  go_upto_region 2 with (fail)
  generalize ((w5.setCell ⟨w.heap.size + 1, 0, none⟩ (.bool s5)).setCell ⟨w.heap.size + 1, 1, none⟩ (.slice A5 n5 c5)).setCell ⟨w.heap.size + 1, 2, none⟩ (.slice B5 m5 d5) = w6 at H5 HA5 U2 U4 U3 HW5 ⊢
  clear e0 e1 e2 g0 g1 g2
  have b0 := U3.out.c0; have b1 := U3.out.c1; have b2 := U3.out.c2
  have a0 := U2.out.c0; have a1 := U2.out.c1; have a2 := U2.out.c2
  have Z5 := Lib.hid (H5.out.2.1.2.zero.trans num_zero)
  by_cases hy : y = 0
  · have hn5 := Z5.out.2 hy
    subst hn5
    have r0 := U4.out.c0; have r1 := U4.out.c1; have r2 := U4.out.c2; have f0 := U4.out.f0; have f1 := U4.out.f1; have f2 := U4.out.f2
    have HY := Lib.hid hy; clear hy Z5
    go_wp2_with fail
    refine bodyPost_ret (v := .tuple #[.agg #[.bool false, .slice none 0 0, .slice none 0 0], .int .i64 18]) ?_ rfl ⟨fun _ => ⟨rfl, below_store3 HW5.out (by omega) _ _ _⟩, fun h => absurd HY.out h⟩
    exact results_cell_tmp Try.results92 _ _ _ _ _ (0, 0) _ rfl (U4.out.set3 _ _ _) Try.underlying41 rfl rfl
  · have tn : ((n5 : Int) == 0) = false := by have : n5 ≠ 0 := fun h => hy (Z5.out.1 h); simp; omega
    have HQ := Lib.hid (show y⁻¹ = qv s5 y.den y.num.natAbs by rw [qv_inv (fun h => hy (num_zero.1 h)) y.den_nz, H5.out.1, qv_self])
    have HY := Lib.hid hy; clear hy Z5
    go_wp2_with fail
    refine (qmul_any HA5.out (x := x) (y := y⁻¹) (b' := b') ⟨_, _, H5.out.2.2.1, H5.out.2.1.1, HQ.out⟩ (by omega)).mono ?_
    rintro e w7 ⟨s7, A7, n7, c7, B7, m7, d7, rfl, h7, hb⟩
    have H7 := Lib.hid h7
    have V4 := Lib.hid (U4.out.new hb)
    have HW7 := Lib.hid (bthen HW5.out hb HW5.out.size)
    have r0 := V4.out.c0; have r1 := V4.out.c1; have r2 := V4.out.c2; have f0 := V4.out.f0; have f1 := V4.out.f1; have f2 := V4.out.f2
    clear h7 hb b0 b1 b2 a0 a1 a2
    go_wp2_with fail
    refine bodyPost_end (v := .tuple #[.agg #[.bool s7, .slice A7 n7 c7, .slice B7 m7 d7], .int .i64 0]) ?_ rfl ⟨fun h => absurd h HY.out, fun _ => ⟨_, _, _, _, _, _, _, rfl, by rw [Rat.div_def]; exact H7.out.store3 V4.out _ _ _, below_store3 HW7.out (by omega) _ _ _⟩⟩
    exact results_cell_tmp Try.results92 _ _ _ _ _ (0, 0) _ rfl (V4.out.set3 _ _ _) Try.underlying41 rfl rfl
end Go.Proofs.Ytamcibmjpmibdaa
namespace Go.Proofs.Ytamcibmjpmibdaa

/-- -1, 0 or 1. -/
def rcq (x y : Rat) : Int := if x < y then -1 else if y < x then 1 else 0
theorem num_neg {q : Rat} : q.num < 0 ↔ q < 0 := by rw [← Int.not_le, Rat.num_nonneg, Rat.not_le]
theorem num_pos {q : Rat} : 0 < q.num ↔ 0 < q := by
  constructor
  · intro h
    refine Rat.lt_of_le_of_ne (Rat.num_nonneg.1 (by omega)) (fun e => ?_)
    rw [← e] at h; simp at h
  · intro h
    have h1 := Rat.num_nonneg.2 (Rat.le_of_lt h)
    have h2 : q.num ≠ 0 := fun e => by rw [Rat.num_eq_zero] at e; rw [e] at h; exact Rat.lt_irrefl h
    omega
theorem sign_cases (q : Rat) : (q < 0 ∧ q.num.sign = -1) ∨ (q = 0 ∧ q.num.sign = 0) ∨ (0 < q ∧ q.num.sign = 1) := by
  rcases Int.lt_trichotomy q.num 0 with h | h | h
  · left; exact ⟨num_neg.1 h, Int.sign_eq_neg_one_of_neg h⟩
  · right; left; exact ⟨Rat.num_eq_zero.1 h, by rw [h]; rfl⟩
  · right; right; exact ⟨num_pos.1 h, Int.sign_eq_one_of_pos h⟩
theorem rcq_lt {x y : Rat} (h : x < y) : rcq x y = -1 := if_pos h
theorem rcq_gt {x y : Rat} (h : y < x) : rcq x y = 1 := by
  unfold rcq; rw [if_neg (by grind), if_pos h]
theorem rcq_eq {x y : Rat} (h : x = y) : rcq x y = 0 := by
  subst h; unfold rcq; rw [if_neg Rat.lt_irrefl, if_neg Rat.lt_irrefl]
theorem rcq_sign_ne {x y : Rat} (h : x.num.sign ≠ y.num.sign) : (if x.num.sign < y.num.sign then (-1 : Int) else if y.num.sign < x.num.sign then 1 else 0) = rcq x y := by
  rcases sign_cases x with ⟨h1, h2⟩ | ⟨h1, h2⟩ | ⟨h1, h2⟩ <;> rcases sign_cases y with ⟨k1, k2⟩ | ⟨k1, k2⟩ | ⟨k1, k2⟩ <;> rw [h2, k2] at h ⊢
  all_goals first
    | exact absurd rfl h
    | (rw [rcq_lt (by grind)]; rfl)
    | (rw [rcq_gt (by grind)]; rfl)
theorem frac_lt {a b c d : Nat} (hb : b ≠ 0) (hd : d ≠ 0) : (a : Rat) / (b : Rat) < (c : Rat) / (d : Rat) ↔ a * d < c * b := by
  have h1 : (0 : Rat) < (b : Rat) := Rat.natCast_pos.2 (by omega)
  have h2 : (0 : Rat) < (d : Rat) := Rat.natCast_pos.2 (by omega)
  rw [Rat.div_lt_iff h1, show (c : Rat) / (d : Rat) * (b : Rat) = ((c * b : Nat) : Rat) / (d : Rat) by rw [Rat.natCast_mul]; grind, Rat.lt_div_iff h2, ← Rat.natCast_mul, Rat.natCast_lt_natCast]
theorem qv_pos_lt {a b c d : Nat} (hb : b ≠ 0) (hd : d ≠ 0) : qv false a b < qv false c d ↔ a * d < c * b := by
  rw [qv_eq _ _ _ hb, qv_eq _ _ _ hd]; simp only [sg, Bool.false_eq_true, if_false, Rat.one_mul]; exact frac_lt hb hd
theorem qv_neg_lt {a b c d : Nat} (hb : b ≠ 0) (hd : d ≠ 0) : qv true a b < qv true c d ↔ c * b < a * d := by
  have h1 : qv true a b = - qv false a b := qv_negate false a b
  have h2 : qv true c d = - qv false c d := qv_negate false c d
  rw [h1, h2, Rat.neg_lt_neg_iff]; exact qv_pos_lt hd hb
theorem rcq_pos {a b c d : Nat} (hb : b ≠ 0) (hd : d ≠ 0) : rcq (qv false a b) (qv false c d) = if a * d < c * b then -1 else if c * b < a * d then 1 else 0 := by
  unfold rcq
  simp only [qv_pos_lt hb hd, qv_pos_lt hd hb]
theorem rcq_neg {a b c d : Nat} (hb : b ≠ 0) (hd : d ≠ 0) : rcq (qv true a b) (qv true c d) = -(if a * d < c * b then -1 else if c * b < a * d then 1 else 0) := by
  unfold rcq
  simp only [qv_neg_lt hb hd, qv_neg_lt hd hb]
  by_cases h1 : c * b < a * d
  · rw [if_pos h1, if_neg (show ¬ a * d < c * b by omega), if_pos h1]
  · rw [if_neg h1]
    by_cases h2 : a * d < c * b
    · rw [if_pos h2, if_pos h2]; rfl
    · rw [if_neg h2, if_neg h2, if_neg h1]; rfl
end Go.Proofs.Ytamcibmjpmibdaa
