/-
  awake of layer 5 returns true.
-/
import Derived.Test.YtifnbpkcnkfanaaQSame
import Derived.Test.YtifnbpkcnkfanaaQRats
namespace Go.Proofs.Ytifnbpkcnkfanaa
open Go.RowKit

theorem dg_small {n : Nat} (h0 : n ≠ 0) (h : n < 10) : dg n = [n] := by
  rw [dg, dif_neg h0, show n / 10 = 0 by omega, dg, dif_pos rfl, Nat.mod_eq_of_lt h]
theorem decT_1 : decT 1 = ⟨#[49]⟩ := by rw [decT, dg_small (by omega) (by omega)]; rfl
theorem decT_3 : decT 3 = ⟨#[51]⟩ := by rw [decT, dg_small (by omega) (by omega)]; rfl
theorem decT_4 : decT 4 = ⟨#[52]⟩ := by rw [decT, dg_small (by omega) (by omega)]; rfl
def awX : Rat := ((6 : Int) : Rat) / ((-8 : Int) : Rat)
theorem awX_qv : awX = qv true 6 8 := (qv_frac 6 (-8) (by omega)).symm
theorem awX_num : awX.num = -3 := by rw [awX_qv, qv_num (by omega)]; rfl
theorem awX_den : awX.den = 4 := by rw [awX_qv, qv_den (by omega)]; rfl
theorem awX_txt : txt awX = ⟨#[45, 51, 47, 52]⟩ := by
  unfold txt
  rw [awX_num, awX_den, if_neg (by omega), show (-3 : Int).natAbs = 3 from rfl, decT_3, decT_4]
  rfl
def awY : Rat := awX + ((1 : Int) : Rat)
theorem awY_qv : awY = qv false 1 4 := by
  have h1 : awX = qv (!false) 3 4 := by
    have := qv_self awX
    rw [awX_num, awX_den] at this
    exact this.symm
  have h2 : ((1 : Int) : Rat) = qv false 1 1 := by
    have := qv_int 1
    rw [qv_den0] at this
    exact this.symm
  rw [awY, h1, h2, Rat.add_comm, ← qv_diff (by omega) (by omega) (by omega)]
theorem awY_num : awY.num = 1 := by rw [awY_qv, qv_num (by omega)]; rfl
theorem awY_den : awY.den = 4 := by rw [awY_qv, qv_den (by omega)]; rfl
theorem awY_txt : txt awY = ⟨#[49, 47, 52]⟩ := by
  unfold txt
  rw [awY_num, awY_den, if_neg (by omega), show (1 : Int).natAbs = 1 from rfl, decT_1, decT_4]
  rfl

set_option maxRecDepth 100000 in
set_option maxHeartbeats 4000000 in
theorem qawake_any (w : World) : Calls Try.prog 11 #[] w fun e w' => e = .returned (.bool true) ∧ Below w.heap.size w w' := by
  go_enter Try.func11, Try.ntmps11
  go_wp2_with fail
  refine (qof_any 6 (-8) (by omega) (by omega) (by omega) (by omega)).mono ?_
  rintro e w1 ⟨-, h⟩
  obtain ⟨s, A, n, c, B, m, d, rfl, hR, hb⟩ := h (by omega)
  clear h
  have H1 := Lib.hid (show Rn w1 s A n c B m d 2 awX from hR); have HW := Lib.hid hb; clear hR hb
  go_wp2_with fail
  have hT := TB.made w1 29 (.bool s) (.slice A n c) (.slice B m d)
  have hW := al w1 (.cells #[.bool s, .slice A n c, .slice B m d] 29)
  generalize w1.alloc (.cells #[.bool s, .slice A n c, .slice B m d] 29) = w0 at hT hW ⊢
  replace H1 := Lib.hid (H1.out.new hW)
  replace HW := Lib.hid (bthen HW.out hW HW.out.size)
  have c0 := hT.c0; have c1 := hT.c1; have c2 := hT.c2
  have l0 := hT.lt
  clear hT hW
  go_region_held3 (fun w' => (∀ p : Addr, p.block < w0.heap.size → w'.cell? p = w0.cell? p) ∧ Below w0.heap.size w0 w')
    ((refine olds ?_; first | exact Below.refl _ _ | exact Below.drew (Below.refl _ _) | exact Hid.out ‹_›))
    (first
      | (have Hg := H4; clear Hg; go_at_call 35; refine (qtext_any H4.out.ra (by omega)).mono ?_; rintro e w5 ⟨rfl, hb⟩; have HB5 := Lib.hid (bthen HB4.out hb HB4.out.size); clear hb; rw [show awX + ((1 : Int) : Rat) = awY from rfl, awY_txt])
      | (have Hg := H3; clear Hg; go_at_call 22; refine (qadd_any (H1.out.ra.new HB3.out) H3.out.ra (by omega)).mono ?_; rintro e w4 ⟨s4, A4, n4, c4, B4, m4, d4, rfl, h4, hb⟩; have H4 := Lib.hid h4; have HB4 := Lib.hid (bthen HB3.out hb HB3.out.size); clear h4 hb)
      | (have Hg := HB2; clear Hg; go_at_call 15; refine (qint_any 1 (by omega) (by omega)).mono ?_; rintro e w3 ⟨s3, A3, n3, c3, B3, m3, d3, rfl, h3, hb⟩; have H3 := Lib.hid h3; have HB3 := Lib.hid (bthen HB2.out hb HB2.out.size); clear h3 hb)
      | (go_at_call 35; refine (qtext_any (w := w0.drew) H1.out.ra (by omega)).mono ?_; rintro e w2 ⟨rfl, hb⟩; have HB2 := Lib.hid (below_from_drew hb); clear hb; rw [awX_txt]))
  go_wp2_with fail
  go_ret
  exact ⟨rfl, bthen HW.out HB5.out HW.out.size⟩
end Go.Proofs.Ytifnbpkcnkfanaa
