/-
  rat: Cmp, magnitude, Of, Int, FromNat.
-/
import Derived.Test.YtifnbpkcnkfanaaQMore
import Derived.Test.YtifnbpkcnkfanaaQCmpP
namespace Go.Proofs.Ytifnbpkcnkfanaa
open Go.RowKit

theorem cmpN_rng (a b : Nat) : -1 ≤ cmpN a b ∧ cmpN a b ≤ 1 := by
  unfold cmpN; split
  · omega
  · split <;> omega
theorem rcq_rng (x y : Rat) : -1 ≤ rcq x y ∧ rcq x y ≤ 1 := by
  unfold rcq; split
  · omega
  · split <;> omega
theorem cmpI_rcq {x y : Rat} (h : x.num.sign ≠ y.num.sign) : cmpI x.num.sign y.num.sign = rcq x y := rcq_sign_ne h
theorem rcq_same {s s' : Bool} {N M N' M' : Nat} (h : (qv s N M).num.sign = (qv s' N' M').num.sign) : (qv s N M).num.sign * cmpN (N * dnz M') (N' * dnz M) = rcq (qv s N M) (qv s' N' M') := by
  have h1 := qv_sign s N M
  have h2 := qv_sign s' N' M'
  by_cases hN : N = 0
  · rw [if_pos hN] at h1
    have hN' : N' = 0 := by
      rcases Nat.eq_zero_or_pos N' with h0 | h0
      · exact h0
      · rw [if_neg (by omega)] at h2
        rw [h1] at h; rw [← h] at h2
        cases s' <;> simp at h2
    rw [h1]
    subst hN hN'
    rw [rcq_eq (by rw [qv_zero, qv_zero])]; simp
  · rw [if_neg hN] at h1
    have hN' : N' ≠ 0 := by
      intro h0
      rw [if_pos h0] at h2
      rw [h2] at h; rw [h] at h1
      cases s <;> simp at h1
    rw [if_neg hN'] at h2
    have hs : s' = s := by
      rw [h1, h2] at h
      cases s <;> cases s' <;> simp at h <;> rfl
    subst hs
    rw [h1, qv_dnz s' N M, qv_dnz s' N' M']
    cases s'
    · rw [rcq_pos (dnz_ne _) (dnz_ne _)]; simp [cmpN]
    · rw [rcq_neg (dnz_ne _) (dnz_ne _)]; simp only [if_true, cmpN]; omega

set_option maxRecDepth 100000 in
set_option maxHeartbeats 8000000 in
theorem qcmp_any {w : World} {s : Bool} {A B : Option Addr} {n c m d b : Nat} {x : Rat} (h : Ra w s A n c B m d b x) {s' : Bool} {A' B' : Option Addr} {n' c' m' d' b' : Nat} {y : Rat} (h' : Ra w s' A' n' c' B' m' d' b' y) (hb5 : b + b' ≤ 4900) : Calls Try.prog 28 #[.agg #[.bool s, .slice A n c, .slice B m d], .agg #[.bool s', .slice A' n' c', .slice B' m' d']] w fun e w' => e = .returned (.int .i64 (rcq x y)) ∧ Below w.heap.size w w' := by
  have HA := Lib.hid h; have HB := Lib.hid h'; clear h h'
  go_enter Try.func28, Try.ntmps28
  go_upto_region 1 with (fail)
  obtain ⟨X, hX⟩ : ∃ X : Array Value, X = #[.bool s, .slice A n c, .slice B m d] := ⟨_, rfl⟩
  obtain ⟨Y, hY⟩ : ∃ Y : Array Value, Y = #[.bool s', .slice A' n' c', .slice B' m' d'] := ⟨_, rfl⟩
  have hW : Below w.heap.size w ((w.alloc (.cells X 29)).alloc (.cells Y 29)) := (al w _).alloc (by simp) _
  have h2 : Blk ((w.alloc (.cells X 29)).alloc (.cells Y 29)) w.heap.size 29 X := (Blk.new w _ _).alloc _
  have h3 : Blk ((w.alloc (.cells X 29)).alloc (.cells Y 29)) (w.heap.size + 1) 29 Y := by
    have := (Blk.new (w.alloc (.cells X 29)) 29 Y)
    simpa using this
  rw [hX, hY] at hW h2 h3
  clear hX hY
  generalize (w.alloc (.cells #[.bool s, .slice A n c, .slice B m d] 29)).alloc (.cells #[.bool s', .slice A' n' c', .slice B' m' d'] 29) = w0 at hW h2 h3 ⊢
  clear X Y
  replace HA := Lib.hid (HA.out.new hW); replace HB := Lib.hid (HB.out.new hW)
  have HW := Lib.hid hW; clear hW
  have T2 : Hid (TB w0 w.heap.size 29 (.bool s) (.slice A n c) (.slice B m d)) := Lib.hid h2
  have T3 : Hid (TB w0 (w.heap.size + 1) 29 (.bool s') (.slice A' n' c') (.slice B' m' d')) := Lib.hid h3
  clear h2 h3
  have a0 := T2.out.c0; have a1 := T2.out.c1; have a2 := T2.out.c2
  go_wp2_with fail
  refine (sign_any HA.out).mono ?_
  rintro e w1 ⟨rfl, hb⟩
  replace HA := Lib.hid (HA.out.new hb); replace HB := Lib.hid (HB.out.new hb)
  replace T2 := Lib.hid (T2.out.new hb); replace T3 := Lib.hid (T3.out.new hb)
  replace HW := Lib.hid (bthen HW.out hb HW.out.size)
  clear hb a0 a1 a2
  have b0 := T3.out.c0; have b1 := T3.out.c1; have b2 := T3.out.c2
  go_wp2_with fail
  refine (sign_any HB.out).mono ?_
  rintro e w2 ⟨rfl, hb⟩
  replace HA := Lib.hid (HA.out.new hb); replace HB := Lib.hid (HB.out.new hb)
  replace T2 := Lib.hid (T2.out.new hb); replace T3 := Lib.hid (T3.out.new hb)
  replace HW := Lib.hid (bthen HW.out hb HW.out.size)
  clear hb b0 b1 b2
  by_cases hs : x.num.sign = y.num.sign
  · have ts : (x.num.sign != y.num.sign) = false := by simp [hs]
    obtain ⟨N, M, hN, hM, hx⟩ := HA.out
    obtain ⟨N', M', hN', hM', hy⟩ := HB.out
    have HR := Lib.hid (show x.num.sign * cmpN (N * dnz M') (N' * dnz M) = rcq x y by rw [hx, hy]; exact rcq_same (by rw [← hx, ← hy]; exact hs))
    have HN1 := Lib.hid hN; have HM1 := Lib.hid hM; have HN2 := Lib.hid hN'; have HM2 := Lib.hid hM'
    clear hN hM hx hN' hM' hy hs HA HB
    have hsg : -1 ≤ x.num.sign ∧ x.num.sign ≤ 1 := by rcases sign_cases x with ⟨-, h⟩ | ⟨-, h⟩ | ⟨-, h⟩ <;> rw [h] <;> omega
    have hcg : -1 ≤ cmpN (N * dnz M') (N' * dnz M) ∧ cmpN (N * dnz M') (N' * dnz M) ≤ 1 := cmpN_rng _ _
    have hrg : -1 ≤ rcq x y ∧ rcq x y ≤ 1 := rcq_rng _ _
    have a0 := T2.out.c0; have a1 := T2.out.c1; have a2 := T2.out.c2
    have b0 := T3.out.c0; have b1 := T3.out.c1; have b2 := T3.out.c2
    have l2 := T2.out.lt; have l3 := T3.out.lt
    go_wp2_with fail
    go_region_held3 (fun w' => ((w'.cell? ⟨w.heap.size, 0, none⟩ = some (.bool s) ∧ w'.cell? ⟨w.heap.size, 1, none⟩ = some (.slice A n c) ∧ w'.cell? ⟨w.heap.size, 2, none⟩ = some (.slice B m d)) ∧ (w'.cell? ⟨w.heap.size + 1, 0, none⟩ = some (.bool s') ∧ w'.cell? ⟨w.heap.size + 1, 1, none⟩ = some (.slice A' n' c') ∧ w'.cell? ⟨w.heap.size + 1, 2, none⟩ = some (.slice B' m' d'))) ∧ w2.grownBy w' (some (w.heap.size + 2)))
      ((refine keep6 T2.out T3.out ?_ (by omega) (by omega); first | exact World.grownBy.refl _ _ | exact only_drew (World.grownBy.refl _ _) | exact Hid.out ‹_›))
      (first
        | (have Hg := H8; clear Hg; go_at_call 47; refine (cmp_n H6.out H8.out).mono ?_; rintro e w9 ⟨rfl, hb⟩; have HB9 := Lib.hid (bthen HB8.out hb HB8.out.size); have HG9 := Lib.hid (grown_below HB9.out (some (w.heap.size + 2))); clear hb)
        | (have Hg := H7; clear Hg; go_at_call 48; refine (mul_n (HN2.out.new HB7.out) H7.out (by omega)).mono ?_; rintro e w8 ⟨A8, k8, c8, rfl, h8, -, hb⟩; have HB8 := Lib.hid (bthen HB7.out hb HB7.out.size); have H8 := Lib.hid h8; clear h8; replace H6 := Lib.hid (H6.out.new hb); have HG8 := Lib.hid (grown_below HB8.out (some (w.heap.size + 2))); clear hb)
        | (have Hg := H6; clear Hg; go_at_call 52; refine (divisor_any (HM1.out.new HB6.out)).mono ?_; rintro e w7 ⟨A7, k7, c7, rfl, h7, hb⟩; have HB7 := Lib.hid (bthen HB6.out hb HB6.out.size); have H7 := Lib.hid h7; clear h7; replace H6 := Lib.hid (H6.out.new hb); have HG7 := Lib.hid (grown_below HB7.out (some (w.heap.size + 2))); clear hb)
        | (have Hg := H5; clear Hg; go_at_call 48; refine (mul_n (HN1.out.new HB5.out) H5.out (by omega)).mono ?_; rintro e w6 ⟨A6, k6, c6, rfl, h6, -, hb⟩; have HB6 := Lib.hid (bthen HB5.out hb HB5.out.size); have H6 := Lib.hid h6; clear h6; have HG6 := Lib.hid (grown_below HB6.out (some (w.heap.size + 2))); clear hb)
        | (go_at_call 52; refine (divisor_any (w := w2.drew) HM2.out).mono ?_; rintro e w5 ⟨A5, k5, c5, rfl, h5, hb⟩; have HB5 := Lib.hid (below_from_drew hb); have H5 := Lib.hid h5; clear h5; have HG5 := Lib.hid (grown_below HB5.out (some (w.heap.size + 2))); clear hb))
    have HRW := Lib.hid (show IntKind.i64.wrap (x.num.sign * cmpN (N * dnz M') (N' * dnz M)) = rcq x y by rw [HR.out]; exact IntWalk.i64_in _ (by omega))
    clear hsg hcg hrg
    go_wp2_with fail
    go_ret
    refine ⟨ret_int ?_, bthen HW.out HB9.out HW.out.size⟩
    first | exact HRW.out | exact HR.out
  · have ts : (x.num.sign != y.num.sign) = true := by simp [hs]
    have HS := Lib.hid hs; clear hs
    go_wp2_with fail
    refine (cmpInt_any _ _ _).mono ?_
    rintro e w3 ⟨rfl, rfl⟩
    go_wp2_with fail
    go_ret
    exact ⟨by rw [cmpI_rcq HS.out]; rfl, HW.out⟩

theorem neg_wrap {z : Int} (h : z < 0) (h2 : -9223372036854775808 ≤ z) : IntKind.u64.wrap (-(IntKind.u64.wrap z)) = ((z.natAbs : Nat) : Int) := by
  simp only [IntKind.wrap, IntKind.signed, IntKind.bits]
  simp
  omega

set_option maxHeartbeats 2000000 in
theorem magnitude_any (z : Int) (h1 : -9223372036854775808 ≤ z) (h2 : z ≤ 9223372036854775807) (w : World) : Calls Try.prog 37 #[.int .i64 z] w (RetN w 2 z.natAbs) := by
  by_cases hz : z < 0
  · have tz : decide (z < 0) = true := by simp [hz]
    have hw := neg_wrap hz h1
    go_enter Try.func37, Try.ntmps37
    go_wp2_with fail
    refine (of_n z.natAbs (by omega) _).mono ?_
    rintro e w1 ⟨A1, k1, c1, rfl, h, j, hb⟩
    have H1 := Lib.hid h; have J1 := Lib.hid j; have HB := Lib.hid hb; clear h j hb
    go_wp2_with fail
    go_ret
    exact ⟨A1, k1, c1, rfl, H1.out, J1.out, HB.out⟩
  · have tz : decide (z < 0) = false := by simp; omega
    obtain ⟨k, rfl⟩ := Int.eq_ofNat_of_zero_le (show 0 ≤ z by omega)
    have hk : ((k : Int)).natAbs = k := rfl
    go_enter Try.func37, Try.ntmps37
    go_wp2_with fail
    refine (of_n k (by omega) _).mono ?_
    rintro e w1 ⟨A1, k1, c1, rfl, h, j, hb⟩
    have H1 := Lib.hid h; have J1 := Lib.hid j; have HB := Lib.hid hb; clear h j hb
    go_wp2_with fail
    go_ret
    exact ⟨A1, k1, c1, rfl, H1.out, J1.out, HB.out⟩

theorem sgn_abs (z : Int) : (if decide (z < 0) = true then -(z.natAbs : Int) else (z.natAbs : Int)) = z := by
  by_cases h : z < 0
  · rw [if_pos (by simpa using h)]; omega
  · rw [if_neg (by simpa using h)]; omega
theorem qv_int (z : Int) : qv (decide (z < 0)) z.natAbs 0 = (z : Rat) := by
  unfold qv
  rw [if_pos rfl, sgn_abs, Rat.mkRat_eq_div]
  grind
theorem sg_abs (z : Int) : sg (decide (z < 0)) * (z.natAbs : Rat) = (z : Rat) := by
  have := qv_int z
  rw [qv_den0, qv_eq _ _ _ (by omega)] at this
  rw [← this]; grind
theorem qv_frac (n d : Int) (hd : d ≠ 0) : qv (decide (n < 0) != decide (d < 0)) n.natAbs d.natAbs = (n : Rat) / (d : Rat) := by
  have h0 : d.natAbs ≠ 0 := by omega
  rw [qv_eq _ _ _ h0, ← sg_mul, ← sg_abs n, ← sg_abs d]
  have h1 := cast_ne h0
  have h2 := sg_sq (decide (d < 0))
  generalize (n.natAbs : Rat) = a at *
  generalize (d.natAbs : Rat) = b at *
  generalize sg (decide (n < 0)) = s at *
  generalize sg (decide (d < 0)) = t at *
  have h3 : t ≠ 0 := by intro h; rw [h] at h2; simp at h2
  grind
theorem nil_num' (w : World) (b : Nat) (hb : 1 ≤ b) : Num w none 0 0 b 0 :=
  ⟨Nat.le_refl _, hb, by omega, Nat.lt_trans (by omega) (PB_one hb), [], ⟨Reads.none_, ⟨rfl, by omega⟩, by simp⟩, rfl⟩

section
variable {w : World}
set_option maxRecDepth 100000 in
set_option maxHeartbeats 4000000 in
theorem qint_any (z : Int) (h1 : -9223372036854775808 ≤ z) (h2 : z ≤ 9223372036854775807) : Calls Try.prog 15 #[.int .i64 z] w (RetQ w 2 (z : Rat)) := by
  go_enter Try.func15, Try.ntmps15
  go_wp2_with fail
  have hT1 := TB.made w 29 (.bool false) (.slice none 0 0) (.slice none 0 0)
  have hW := al w (.cells #[.bool false, .slice none 0 0, .slice none 0 0] 29)
  generalize w.alloc (.cells #[.bool false, .slice none 0 0, .slice none 0 0] 29) = w0 at hT1 hW ⊢
  refine (magnitude_any z h1 h2 _).mono ?_
  rintro e w5 ⟨A5, k5, c5, rfl, h5, -, hb⟩
  have T1 := Lib.hid (hT1.new hb); have HW := Lib.hid (bthen hW hb hW.size); have H5 := Lib.hid h5
  clear hT1 hW h5 hb
  go_wp2_with fail
  refine (qnorm_any (x := (z : Rat)) (b := 2) ⟨_, 0, H5.out, nil_num' _ _ (by omega), (qv_int z).symm⟩ (by omega)).mono ?_
  rintro e w7 ⟨s7, A7, n7, c7, B7, m7, d7, rfl, h7, hb⟩
  have H7 := Lib.hid h7
  have U4 := Lib.hid (T1.out.new hb)
  have HW7 := Lib.hid (bthen HW.out hb HW.out.size)
  have r0 := U4.out.c0; have r1 := U4.out.c1; have r2 := U4.out.c2; have f0 := U4.out.f0; have f1 := U4.out.f1; have f2 := U4.out.f2
  clear h7 hb
  go_wp2_with fail
  refine bodyPost_end (v := .agg #[.bool s7, .slice A7 n7 c7, .slice B7 m7 d7]) ?_ rfl ⟨_, _, _, _, _, _, _, rfl, H7.out.store3 U4.out _ _ _, below_store3 HW7.out (by omega) _ _ _⟩
  exact results_cell_row Try.results15 _ _ _ _ _ (0, 0) _ rfl (U4.out.set3 _ _ _) Try.underlying29 rfl rfl

set_option maxRecDepth 100000 in
set_option maxHeartbeats 4000000 in
theorem qnat_any {A : Option Addr} {n c b N : Nat} (hN : Num w A n c b N) (hb5 : b ≤ 5000) : Calls Try.prog 16 #[.slice A n c] w (RetQ w b (N : Rat)) := by
  have H5 := Lib.hid hN; clear hN
  go_enter Try.func16, Try.ntmps16
  go_wp2_with fail
  have hT1 := TB.made w 29 (.bool false) (.slice none 0 0) (.slice none 0 0)
  have hW := al w (.cells #[.bool false, .slice none 0 0, .slice none 0 0] 29)
  generalize w.alloc (.cells #[.bool false, .slice none 0 0, .slice none 0 0] 29) = w0 at hT1 hW ⊢
  have hq : (N : Rat) = qv false N 0 := by
    have := qv_int (N : Int)
    rw [show decide ((N : Int) < 0) = false by simp] at this
    exact this.symm
  refine (qnorm_any (x := (N : Rat)) (s := false) (b := b) ⟨N, 0, H5.out.new hW, nil_num' _ _ H5.out.2.1, hq⟩ hb5).mono ?_
  clear hq
  rintro e w7 ⟨s7, A7, n7, c7, B7, m7, d7, rfl, h7, hb⟩
  have H7 := Lib.hid h7
  have U4 := Lib.hid (hT1.new hb)
  have HW7 := Lib.hid (bthen hW hb hW.size)
  have r0 := U4.out.c0; have r1 := U4.out.c1; have r2 := U4.out.c2; have f0 := U4.out.f0; have f1 := U4.out.f1; have f2 := U4.out.f2
  clear h7 hb hT1 hW
  go_wp2_with fail
  refine bodyPost_end (v := .agg #[.bool s7, .slice A7 n7 c7, .slice B7 m7 d7]) ?_ rfl ⟨_, _, _, _, _, _, _, rfl, H7.out.store3 U4.out _ _ _, below_store3 HW7.out (by omega) _ _ _⟩
  exact results_cell_row Try.results16 _ _ _ _ _ (0, 0) _ rfl (U4.out.set3 _ _ _) Try.underlying29 rfl rfl

def RetOf (w : World) (n d : Int) (e : Ending) (w' : World) : Prop :=
  (d = 0 → e = .returned (.tuple #[.agg #[.bool false, .slice none 0 0, .slice none 0 0], .int .i64 18]) ∧ Below w.heap.size w w') ∧
  (d ≠ 0 → ∃ s A k c B m k', e = .returned (.tuple #[.agg #[.bool s, .slice A k c, .slice B m k'], .int .i64 0]) ∧ Rn w' s A k c B m k' 2 ((n : Rat) / (d : Rat)) ∧ Below w.heap.size w w')
set_option maxRecDepth 100000 in
set_option maxHeartbeats 4000000 in
theorem qof_any (n d : Int) (h1 : -9223372036854775808 ≤ n) (h2 : n ≤ 9223372036854775807) (h3 : -9223372036854775808 ≤ d) (h4 : d ≤ 9223372036854775807) : Calls Try.prog 12 #[.int .i64 n, .int .i64 d] w (RetOf w n d) := by
  have hT1 := TB.made w 29 (.bool false) (.slice none 0 0) (.slice none 0 0)
  by_cases hd : d = 0
  · have td : (d == 0) = true := by simp [hd]
    have HD := Lib.hid hd; clear hd
    have r0 := hT1.c0; have r1 := hT1.c1; have r2 := hT1.c2; have f0 := hT1.f0; have f1 := hT1.f1; have f2 := hT1.f2
    have T1 := Lib.hid hT1; clear hT1
    go_enter Try.func12, Try.ntmps12
    go_wp2_with fail
    refine bodyPost_ret (v := .tuple #[.agg #[.bool false, .slice none 0 0, .slice none 0 0], .int .i64 18]) ?_ rfl ⟨fun _ => ⟨rfl, ?_⟩, fun h => absurd HD.out h⟩
    · first | exact results_cell_tmp Try.results12 _ _ _ _ _ (0, 0) _ rfl (T1.out.set3 _ _ _) Try.underlying29 rfl rfl | exact results_cell_tmp Try.results12 _ _ _ _ _ (0, 0) _ rfl T1.out Try.underlying29 rfl rfl
    · first | exact al w _ | exact below_store3 (al w _) (by omega) _ _ _
  · have td : (d == 0) = false := by simp [hd]
    have HD := Lib.hid hd; clear hd
    go_enter Try.func12, Try.ntmps12
    go_wp2_with fail
    have hW := al w (.cells #[.bool false, .slice none 0 0, .slice none 0 0] 29)
    generalize w.alloc (.cells #[.bool false, .slice none 0 0, .slice none 0 0] 29) = w0 at hT1 hW ⊢
    refine (magnitude_any n h1 h2 _).mono ?_
    rintro e w5 ⟨A5, k5, c5, rfl, h5, -, hb⟩
    have T1 := Lib.hid (hT1.new hb); have HW := Lib.hid (bthen hW hb hW.size); have H5 := Lib.hid h5
    clear hT1 hW h5 hb
    go_wp2_with fail
    refine (magnitude_any d h3 h4 _).mono ?_
    rintro e w6 ⟨A6, k6, c6, rfl, h6, -, hb⟩
    replace T1 := Lib.hid (T1.out.new hb); replace HW := Lib.hid (bthen HW.out hb HW.out.size); replace H5 := Lib.hid (H5.out.new hb); have H6 := Lib.hid h6
    clear h6 hb
    go_wp2_with fail
    refine (qnorm_any (x := (n : Rat) / (d : Rat)) (s := decide (n < 0) != decide (d < 0)) (b := 2) ⟨_, _, H5.out, H6.out, (qv_frac n d HD.out).symm⟩ (by omega)).mono ?_
    rintro e w7 ⟨s7, A7, n7, c7, B7, m7, d7, rfl, h7, hb⟩
    have H7 := Lib.hid h7
    have U4 := Lib.hid (T1.out.new hb)
    have HW7 := Lib.hid (bthen HW.out hb HW.out.size)
    have r0 := U4.out.c0; have r1 := U4.out.c1; have r2 := U4.out.c2; have f0 := U4.out.f0; have f1 := U4.out.f1; have f2 := U4.out.f2
    clear h7 hb
    go_wp2_with fail
    refine bodyPost_end (v := .tuple #[.agg #[.bool s7, .slice A7 n7 c7, .slice B7 m7 d7], .int .i64 0]) ?_ rfl ⟨fun h => absurd h HD.out, fun _ => ⟨_, _, _, _, _, _, _, rfl, H7.out.store3 U4.out _ _ _, below_store3 HW7.out (by omega) _ _ _⟩⟩
    exact results_cell_tmp Try.results12 _ _ _ _ _ (0, 0) _ rfl (U4.out.set3 _ _ _) Try.underlying29 rfl rfl
end
end Go.Proofs.Ytifnbpkcnkfanaa
