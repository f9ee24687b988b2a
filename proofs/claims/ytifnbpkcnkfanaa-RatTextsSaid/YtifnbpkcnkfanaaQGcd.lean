/-
  rat.common: the greatest common factor.
-/
import Derived.Test.YtifnbpkcnkfanaaNNum
import Derived.Test.YtifnbpkcnkfanaaQP
import Derived.Laws.EntriesVeiled
import Derived.Deep.LoopGhost
namespace Go.Proofs.Ytifnbpkcnkfanaa
open Go.RowKit

def RetN1 (w : World) (b N : Nat) (e : Ending) (w' : World) : Prop := ∃ A k c, e = .returned (.slice A k c) ∧ Num w' A k c b N ∧ Below w.heap.size w w'
theorem BitsIs.zero' {b : Nat} (h : BitsIs 0 b) : b = 0 := h.unique (.inl ⟨rfl, rfl⟩)
theorem BitsIs.pos' {N b : Nat} (h : BitsIs N b) (hN : N ≠ 0) : b ≠ 0 := by
  rcases h with ⟨h, _⟩ | ⟨h, _⟩ <;> omega
theorem BitsIs.one' {b : Nat} (h : BitsIs 1 b) : b = 1 := h.unique (.inr ⟨by omega, by omega, by omega⟩)
theorem BitsIs.many {N b : Nat} (h : BitsIs N b) (hN : 2 ≤ N) : 2 ≤ b := by
  rcases h with ⟨h, _⟩ | ⟨h1, h2, h3⟩
  · omega
  · rcases Nat.lt_or_ge b 2 with h | h
    · obtain rfl : b = 1 := by omega
      omega
    · exact h
theorem gcd_le {N M b : Nat} (hN : N < PB b) (hM : M < PB b) : Nat.gcd N M < PB b := by
  rcases Nat.eq_zero_or_pos N with h | h
  · subst h; rw [Nat.gcd_zero_left]; exact hM
  · exact Nat.lt_of_le_of_lt (Nat.le_of_dvd h (Nat.gcd_dvd_left N M)) hN
theorem gcd_next (N M : Nat) : Nat.gcd M (N % M) = Nat.gcd N M := by
  rw [Nat.gcd_comm M (N % M), ← Nat.gcd_rec, Nat.gcd_comm]
def FB (g : Nat) : Value := .func (.func 63) #[] #[.pointer (some ⟨g, 0, none⟩)]
theorem Num.up {w : World} {A : Option Addr} {k c a b N : Nat} (h : Num w A k c a N) (hV : N < PB b) (hb : 1 ≤ b) : Num w A k c b N := ⟨h.1, hb, h.2.2.1, hV, h.2.2.2.2⟩

set_option maxHeartbeats 8000000 in
theorem gcd_any (b : Nat) (hb : b ≤ 5000) : ∀ (M N : Nat) (A : Option Addr) (n c : Nat) (B : Option Addr) (m d : Nat) (w : World) (g : Nat), Num w A n c b N → Num w B m d b M → Blk w g 73 #[FB g] →
    Calls Try.prog 63 #[.slice A n c, .slice B m d, .pointer (some ⟨g, 0, none⟩)] w (RetN1 w b (Nat.gcd N M)) := by
  intro M
  induction M using Nat.strongRecOn with
  | ind M ih =>
  intro N A n c B m d w g hA hB hg
  have hcell : w.cell? ⟨g, 0, none⟩ = some (FB g) := by rw [hg.cell]; rfl
  have HIH := Lib.hid ih; clear ih
  have HA := Lib.hid hA; have HB := Lib.hid hB; have HG := Lib.hid hg; clear hA hB hg hcell
  go_enter Try.func63, Try.ntmps63
  go_wp2_with fail
  refine (bits_n HB.out).mono ?_
  rintro e w1 ⟨bb, rfl, hbits, hbb, rfl⟩
  by_cases hM : M = 0
  · subst hM
    obtain rfl := hbits.zero'
    clear hbits
    go_wp2_with fail
    go_ret
    rw [Nat.gcd_zero_right]
    exact ⟨A, n, c, rfl, HA.out, Below.refl _ _⟩
  · have tb : ((bb : Int) == 0) = false := by have := hbits.pos' hM; simp; omega
    clear hbits
    have HM := Lib.hid hM; clear hM
    have HU := Lib.hid (gcd_le (b := b) HA.out.2.2.2.1 HB.out.2.2.2.1)
    by_cases hs : N < 18446744073709551616
    · by_cases hs2 : M < 18446744073709551616
      · go_wp2_with fail
        refine (u64_n HA.out).mono ?_
        rintro e w2 ⟨hu1, hu2, rfl⟩
        obtain rfl := hu1 hs
        clear hu1 hu2
        go_wp2_with fail
        refine (u64_n HB.out).mono ?_
        rintro e w2 ⟨hu1, hu2, rfl⟩
        obtain rfl := hu1 hs2
        clear hu1 hu2
        go_wp2_with fail
        go_loopw [6, 8] (fun xv yv wr => ∃ x y : Nat, xv = .int .u64 x ∧ yv = .int .u64 y ∧ x < 18446744073709551616 ∧ y < 18446744073709551616 ∧ Hid (Nat.gcd x y = Nat.gcd N M ∧ Below w.heap.size w wr)) (fun _ yv _ => (intOf yv).toNat)
        case atStart => exact ⟨N, M, rfl, rfl, hs, hs2, Lib.hid ⟨rfl, Below.refl _ _⟩⟩
        case round =>
          obtain ⟨x, y, rfl, rfl, hx, hy, HJ⟩ := hrel
          by_cases hy0 : y = 0
          · have ty : ((y : Int) != 0) = false := by simp [hy0]
            have HY := Lib.hid hy0; clear hy0
            go_wp2_with fail
            refine (of_n x hx _).mono ?_
            rintro e w3 ⟨A3, k3, c3, rfl, h3, -, hb⟩
            have H3 := Lib.hid h3; have H4 := Lib.hid (bthen HJ.out.2 hb HJ.out.2.size); clear h3 hb
            go_wp2_with fail
            go_ret
            have e1 := HJ.out.1
            rw [HY.out, Nat.gcd_zero_right] at e1
            have h5 := H3.out
            have h6 := HU.out
            rw [← e1] at h6 ⊢
            exact ⟨A3, k3, c3, rfl, h5.up h6 HA.out.2.1, H4.out⟩
          · have ty : ((y : Int) != 0) = true := by simp; omega
            have hyp : 0 < y := by omega
            have hml : x % y < y := Nat.mod_lt _ hyp
            go_wp2_with fail
            go_quiet (fail)
            go_wp2_with fail
            refine ⟨⟨y, x % y, by simp, by simp, hy, by omega, Lib.hid ⟨by rw [gcd_next]; exact HJ.out.1, below_drewN HJ.out.2 _⟩⟩, ?_⟩
            simp [intOf]; omega
      · go_wp2_with fail
        refine (u64_n HA.out).mono ?_
        rintro e w2 ⟨hu1, hu2, rfl⟩
        obtain rfl := hu1 (by omega)
        clear hu1 hu2
        go_wp2_with fail
        refine (u64_n HB.out).mono ?_
        rintro e w2 ⟨hu1, hu2, rfl⟩
        obtain rfl := hu2 (by omega)
        clear hu1 hu2
        go_wp2_with fail
        refine (dm_n HA.out HB.out (by omega) (by omega)).mono ?_
        rintro e w3 ⟨-, h⟩
        obtain ⟨A3, k3, c3, A4, k4, c4, rfl, -, ⟨h4, -⟩, hb⟩ := h HM.out
        clear h
        have hcell : w3.cell? ⟨g, 0, none⟩ = some (.func (.func 63) #[] #[.pointer (some ⟨g, 0, none⟩)]) := by rw [(HG.out.below hb HG.out.lt).cell]; rfl
        have H4 := Lib.hid h4; clear h4
        replace HB := Lib.hid (HB.out.new hb)
        replace HG := Lib.hid (HG.out.below hb HG.out.lt)
        have HW := Lib.hid hb; clear hb
        go_wp2_with fail
        refine (HIH.out (N % M) (Nat.mod_lt _ (Nat.pos_of_ne_zero HM.out)) M B m d A4 k4 c4 w3 g HB.out H4.out HG.out).mono ?_
        rw [gcd_next]
        rintro e w4 ⟨A5, k5, c5, rfl, h5, hb⟩
        have H5 := Lib.hid h5; clear h5
        replace HW := Lib.hid (bthen HW.out hb HW.out.size); clear hb hcell
        go_wp2_with fail
        go_ret
        exact ⟨A5, k5, c5, rfl, H5.out, HW.out⟩
    · by_cases hs2 : M < 18446744073709551616
      · go_wp2_with fail
        refine (u64_n HA.out).mono ?_
        rintro e w2 ⟨hu1, hu2, rfl⟩
        obtain rfl := hu2 (by omega)
        clear hu1 hu2
        go_wp2_with fail
        refine (u64_n HB.out).mono ?_
        rintro e w2 ⟨hu1, hu2, rfl⟩
        obtain rfl := hu1 (by omega)
        clear hu1 hu2
        go_wp2_with fail
        refine (dm_n HA.out HB.out (by omega) (by omega)).mono ?_
        rintro e w3 ⟨-, h⟩
        obtain ⟨A3, k3, c3, A4, k4, c4, rfl, -, ⟨h4, -⟩, hb⟩ := h HM.out
        clear h
        have hcell : w3.cell? ⟨g, 0, none⟩ = some (.func (.func 63) #[] #[.pointer (some ⟨g, 0, none⟩)]) := by rw [(HG.out.below hb HG.out.lt).cell]; rfl
        have H4 := Lib.hid h4; clear h4
        replace HB := Lib.hid (HB.out.new hb)
        replace HG := Lib.hid (HG.out.below hb HG.out.lt)
        have HW := Lib.hid hb; clear hb
        go_wp2_with fail
        refine (HIH.out (N % M) (Nat.mod_lt _ (Nat.pos_of_ne_zero HM.out)) M B m d A4 k4 c4 w3 g HB.out H4.out HG.out).mono ?_
        rw [gcd_next]
        rintro e w4 ⟨A5, k5, c5, rfl, h5, hb⟩
        have H5 := Lib.hid h5; clear h5
        replace HW := Lib.hid (bthen HW.out hb HW.out.size); clear hb hcell
        go_wp2_with fail
        go_ret
        exact ⟨A5, k5, c5, rfl, H5.out, HW.out⟩
      · go_wp2_with fail
        refine (u64_n HA.out).mono ?_
        rintro e w2 ⟨hu1, hu2, rfl⟩
        obtain rfl := hu2 (by omega)
        clear hu1 hu2
        go_wp2_with fail
        refine (u64_n HB.out).mono ?_
        rintro e w2 ⟨hu1, hu2, rfl⟩
        obtain rfl := hu2 (by omega)
        clear hu1 hu2
        go_wp2_with fail
        refine (dm_n HA.out HB.out (by omega) (by omega)).mono ?_
        rintro e w3 ⟨-, h⟩
        obtain ⟨A3, k3, c3, A4, k4, c4, rfl, -, ⟨h4, -⟩, hb⟩ := h HM.out
        clear h
        have hcell : w3.cell? ⟨g, 0, none⟩ = some (.func (.func 63) #[] #[.pointer (some ⟨g, 0, none⟩)]) := by rw [(HG.out.below hb HG.out.lt).cell]; rfl
        have H4 := Lib.hid h4; clear h4
        replace HB := Lib.hid (HB.out.new hb)
        replace HG := Lib.hid (HG.out.below hb HG.out.lt)
        have HW := Lib.hid hb; clear hb
        go_wp2_with fail
        refine (HIH.out (N % M) (Nat.mod_lt _ (Nat.pos_of_ne_zero HM.out)) M B m d A4 k4 c4 w3 g HB.out H4.out HG.out).mono ?_
        rw [gcd_next]
        rintro e w4 ⟨A5, k5, c5, rfl, h5, hb⟩
        have H5 := Lib.hid h5; clear h5
        replace HW := Lib.hid (bthen HW.out hb HW.out.size); clear hb hcell
        go_wp2_with fail
        go_ret
        exact ⟨A5, k5, c5, rfl, H5.out, HW.out⟩

set_option maxHeartbeats 4000000 in
theorem common_any (b : Nat) (hb : b ≤ 5000) (M N : Nat) (A : Option Addr) (n c : Nat) (B : Option Addr) (m d : Nat) (w : World) (hA : Num w A n c b N) (hB : Num w B m d b M) :
    Calls Try.prog 45 #[.slice A n c, .slice B m d] w (RetN1 w b (Nat.gcd N M)) := by
  have HA := Lib.hid hA; have HB := Lib.hid hB; clear hA hB
  go_enter Try.func45, Try.ntmps45
  go_wp2_with fail
  go_loopg [0, 1] M (fun R av bv wr => ∃ (N' : Nat) (A : Option Addr) (n c : Nat) (B : Option Addr) (m d : Nat), av = .slice A n c ∧ bv = .slice B m d ∧ Hid (Num wr A n c b N' ∧ Num wr B m d b R ∧ Nat.gcd N' R = Nat.gcd N M ∧ Blk wr w.heap.size 73 #[FB w.heap.size] ∧ Below w.heap.size w wr))
  case atStart =>
    exact ⟨N, A, n, c, B, m, d, rfl, rfl, Lib.hid ⟨HA.out.new (al w _), HB.out.new (al w _), rfl, Blk.new w _ _, al w _⟩⟩
  case round =>
    obtain ⟨N', A', n', c', B', m', d', rfl, rfl, HJ⟩ := hrel
    go_wp2_with fail
    refine (bits_n HJ.out.2.1).mono ?_
    rintro e w1 ⟨bb, rfl, hbits, hbb, rfl⟩
    by_cases hbig : 4096 < bb
    · have tb : decide ((4096 : Int) < (bb : Int)) = true := by simp; omega
      have hR : gk ≠ 0 := fun h => by rw [h] at hbits; have := hbits.zero'; omega
      have HR := Lib.hid hR; clear hR hbits
      go_wp2_with fail
      refine (dm_n HJ.out.1 HJ.out.2.1 (by omega) (by omega)).mono ?_
      rintro e w3 ⟨-, h⟩
      obtain ⟨A3, k3, c3, A4, k4, c4, rfl, -, ⟨h4, -⟩, hb⟩ := h HR.out
      clear h
      have H4 := Lib.hid h4; clear h4
      have H5 := Lib.hid (HJ.out.2.1.new hb)
      have H6 := Lib.hid (HJ.out.2.2.2.1.below hb HJ.out.2.2.2.1.lt)
      have HW := Lib.hid (bthen HJ.out.2.2.2.2 hb HJ.out.2.2.2.2.size); clear hb
      go_wp2_with fail
      go_roundg (N' % gk)
      case measure => exact Nat.mod_lt _ (Nat.pos_of_ne_zero HR.out)
      case rel => exact ⟨gk, B', m', d', A4, k4, c4, rfl, rfl, Lib.hid ⟨H5.out, H4.out, by rw [gcd_next]; exact HJ.out.2.2.1, H6.out, HW.out⟩⟩
    · have tb : decide ((4096 : Int) < (bb : Int)) = false := by simp; omega
      clear hbits
      have hcell : wr.cell? ⟨w.heap.size, 0, none⟩ = some (.func (.func 63) #[] #[.pointer (some ⟨w.heap.size, 0, none⟩)]) := by rw [HJ.out.2.2.2.1.cell]; rfl
      go_wp2_with fail
      refine (gcd_any b hb gk N' A' n' c' B' m' d' wr w.heap.size HJ.out.1 HJ.out.2.1 HJ.out.2.2.2.1).mono ?_
      rw [HJ.out.2.2.1]
      rintro e w4 ⟨A5, k5, c5, rfl, h5, hb⟩
      have H5 := Lib.hid h5; clear h5
      have HW := Lib.hid (bthen HJ.out.2.2.2.2 hb HJ.out.2.2.2.2.size); clear hb hcell
      go_wp2_with fail
      go_ret
      exact ⟨A5, k5, c5, rfl, H5.out, HW.out⟩
end Go.Proofs.Ytifnbpkcnkfanaa
