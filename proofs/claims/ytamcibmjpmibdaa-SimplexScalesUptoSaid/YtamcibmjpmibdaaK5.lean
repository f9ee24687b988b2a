/-
rat: Cmp, magnitude, Of, Int, FromNat.
strings.Join of one or two strings; rat.join.
Plain facts on decimal digits (the reference's arithmetic), no program in sight.
Plain facts for nat.Parse: bytes of a string, the value of a prefix, one digit more.
nat.Parse.
Plain facts on decimal texts: a text parses to its number; a good string is the text of its number.
-/
import Derived.Test.YtamcibmjpmibdaaK4
import Derived.Test.YtamcibmjpmibdaaK1
import Derived.Test.YtamcibmjpmibdaaK2
import Derived.Test.YtamcibmjpmibdaaK3
namespace Go.Proofs.Ytamcibmjpmibdaa
open Go.RowKit

theorem cmpN_rng (a b : Nat) : -1 ≤ cmpN a b ∧ cmpN a b ≤ 1 := by
  unfold cmpN; split
  · omega
  · split <;> omega
theorem rcq_rng (x y : Rat) : -1 ≤ rcq x y ∧ rcq x y ≤ 1 := by
  unfold rcq; split
  · omega
  · split <;> omega
theorem cmpI_rcq {x y : Rat} (h : x.num.sign ≠ y.num.sign) : cmpI x.num.sign y.num.sign = rcq x y := rcq_sign_ne h
theorem rcq_same {s s' : Bool} {N M N' M' : Nat} (h : (qv s N M).num.sign = (qv s' N' M').num.sign) : (qv s N M).num.sign * cmpN (N * dnz M') (N' * dnz M) = rcq (qv s N M) (qv s' N' M') := by
  have h1 := qv_sign s N M
  have h2 := qv_sign s' N' M'
  by_cases hN : N = 0
  · rw [if_pos hN] at h1
    have hN' : N' = 0 := by
      rcases Nat.eq_zero_or_pos N' with h0 | h0
      · exact h0
      · rw [if_neg (by omega)] at h2
        rw [h1] at h; rw [← h] at h2
        cases s' <;> simp at h2
    rw [h1]
    subst hN hN'
    rw [rcq_eq (by rw [qv_zero, qv_zero])]; simp
  · rw [if_neg hN] at h1
    have hN' : N' ≠ 0 := by
      intro h0
      rw [if_pos h0] at h2
      rw [h2] at h; rw [h] at h1
      cases s <;> simp at h1
    rw [if_neg hN'] at h2
    have hs : s' = s := by
      rw [h1, h2] at h
      cases s <;> cases s' <;> simp at h <;> rfl
    subst hs
    rw [h1, qv_dnz s' N M, qv_dnz s' N' M']
    cases s'
    · rw [rcq_pos (dnz_ne _) (dnz_ne _)]; simp [cmpN]
    · rw [rcq_neg (dnz_ne _) (dnz_ne _)]; simp only [if_true, cmpN]; omega

set_option maxRecDepth 100000 in
set_option maxHeartbeats 8000000 in
theorem qcmp_any {w : World} {s : Bool} {A B : Option Addr} {n c m d b : Nat} {x : Rat} (h : Ra w s A n c B m d b x) {s' : Bool} {A' B' : Option Addr} {n' c' m' d' b' : Nat} {y : Rat} (h' : Ra w s' A' n' c' B' m' d' b' y) (hb5 : b + b' ≤ 4900) : Calls Try.prog 17 #[.agg #[.bool s, .slice A n c, .slice B m d], .agg #[.bool s', .slice A' n' c', .slice B' m' d']] w fun e w' => e = .returned (.int .i64 (rcq x y)) ∧ Below w.heap.size w w' := by
  have HA := Lib.hid h; have HB := Lib.hid h'; clear h h'
  go_enter Try.func17, Try.ntmps17
  go_upto_region 1 with (fail)
  obtain ⟨X, hX⟩ : ∃ X : Array Value, X = #[.bool s, .slice A n c, .slice B m d] := ⟨_, rfl⟩
  obtain ⟨Y, hY⟩ : ∃ Y : Array Value, Y = #[.bool s', .slice A' n' c', .slice B' m' d'] := ⟨_, rfl⟩
  have hW : Below w.heap.size w ((w.alloc (.cells X 41)).alloc (.cells Y 41)) := (al w _).alloc (by simp) _
  have h2 : Blk ((w.alloc (.cells X 41)).alloc (.cells Y 41)) w.heap.size 41 X := (Blk.new w _ _).alloc _
  have h3 : Blk ((w.alloc (.cells X 41)).alloc (.cells Y 41)) (w.heap.size + 1) 41 Y := by
    have := (Blk.new (w.alloc (.cells X 41)) 41 Y)
    simpa using this
  rw [hX, hY] at hW h2 h3
  clear hX hY
  generalize (w.alloc (.cells #[.bool s, .slice A n c, .slice B m d] 41)).alloc (.cells #[.bool s', .slice A' n' c', .slice B' m' d'] 41) = w0 at hW h2 h3 ⊢
  clear X Y
  replace HA := Lib.hid (HA.out.new hW); replace HB := Lib.hid (HB.out.new hW)
  have HW := Lib.hid hW; clear hW
  have T2 : Hid (TB w0 w.heap.size 41 (.bool s) (.slice A n c) (.slice B m d)) := Lib.hid h2
  have T3 : Hid (TB w0 (w.heap.size + 1) 41 (.bool s') (.slice A' n' c') (.slice B' m' d')) := Lib.hid h3
  clear h2 h3
  have a0 := T2.out.c0; have a1 := T2.out.c1; have a2 := T2.out.c2
  go_wp2_with fail
  refine (sign_any HA.out).mono ?_
  rintro e w1 ⟨rfl, hb⟩
  replace HA := Lib.hid (HA.out.new hb); replace HB := Lib.hid (HB.out.new hb)
  replace T2 := Lib.hid (T2.out.new hb); replace T3 := Lib.hid (T3.out.new hb)
  replace HW := Lib.hid (bthen HW.out hb HW.out.size)
  clear hb a0 a1 a2
  have b0 := T3.out.c0; have b1 := T3.out.c1; have b2 := T3.out.c2
  go_wp2_with fail
  refine (sign_any HB.out).mono ?_
  rintro e w2 ⟨rfl, hb⟩
  replace HA := Lib.hid (HA.out.new hb); replace HB := Lib.hid (HB.out.new hb)
  replace T2 := Lib.hid (T2.out.new hb); replace T3 := Lib.hid (T3.out.new hb)
  replace HW := Lib.hid (bthen HW.out hb HW.out.size)
  clear hb b0 b1 b2
  by_cases hs : x.num.sign = y.num.sign
  · have ts : (x.num.sign != y.num.sign) = false := by simp [hs]
    obtain ⟨N, M, hN, hM, hx⟩ := HA.out
    obtain ⟨N', M', hN', hM', hy⟩ := HB.out
    have HR := Lib.hid (show x.num.sign * cmpN (N * dnz M') (N' * dnz M) = rcq x y by rw [hx, hy]; exact rcq_same (by rw [← hx, ← hy]; exact hs))
    have HN1 := Lib.hid hN; have HM1 := Lib.hid hM; have HN2 := Lib.hid hN'; have HM2 := Lib.hid hM'
    clear hN hM hx hN' hM' hy hs HA HB
    have hsg : -1 ≤ x.num.sign ∧ x.num.sign ≤ 1 := by rcases sign_cases x with ⟨-, h⟩ | ⟨-, h⟩ | ⟨-, h⟩ <;> rw [h] <;> omega
    have hcg : -1 ≤ cmpN (N * dnz M') (N' * dnz M) ∧ cmpN (N * dnz M') (N' * dnz M) ≤ 1 := cmpN_rng _ _
    have hrg : -1 ≤ rcq x y ∧ rcq x y ≤ 1 := rcq_rng _ _
    have a0 := T2.out.c0; have a1 := T2.out.c1; have a2 := T2.out.c2
    have b0 := T3.out.c0; have b1 := T3.out.c1; have b2 := T3.out.c2
    have l2 := T2.out.lt; have l3 := T3.out.lt
    go_wp2_with fail
    go_region_held3 (fun w' => ((w'.cell? ⟨w.heap.size, 0, none⟩ = some (.bool s) ∧ w'.cell? ⟨w.heap.size, 1, none⟩ = some (.slice A n c) ∧ w'.cell? ⟨w.heap.size, 2, none⟩ = some (.slice B m d)) ∧ (w'.cell? ⟨w.heap.size + 1, 0, none⟩ = some (.bool s') ∧ w'.cell? ⟨w.heap.size + 1, 1, none⟩ = some (.slice A' n' c') ∧ w'.cell? ⟨w.heap.size + 1, 2, none⟩ = some (.slice B' m' d'))) ∧ w2.grownBy w' (some (w.heap.size + 2)))
      ((refine keep6 T2.out T3.out ?_ (by omega) (by omega); first | exact World.grownBy.refl _ _ | exact only_drew (World.grownBy.refl _ _) | exact Hid.out ‹_›))
      (first
        | (have Hg := H8; clear Hg; go_at_call 49; refine (cmp_n H6.out H8.out).mono ?_; rintro e w9 ⟨rfl, hb⟩; have HB9 := Lib.hid (bthen HB8.out hb HB8.out.size); have HG9 := Lib.hid (grown_below HB9.out (some (w.heap.size + 2))); clear hb)
        | (have Hg := H7; clear Hg; go_at_call 50; refine (mul_n (HN2.out.new HB7.out) H7.out (by omega)).mono ?_; rintro e w8 ⟨A8, k8, c8, rfl, h8, -, hb⟩; have HB8 := Lib.hid (bthen HB7.out hb HB7.out.size); have H8 := Lib.hid h8; clear h8; replace H6 := Lib.hid (H6.out.new hb); have HG8 := Lib.hid (grown_below HB8.out (some (w.heap.size + 2))); clear hb)
        | (have Hg := H6; clear Hg; go_at_call 51; refine (divisor_any (HM1.out.new HB6.out)).mono ?_; rintro e w7 ⟨A7, k7, c7, rfl, h7, hb⟩; have HB7 := Lib.hid (bthen HB6.out hb HB6.out.size); have H7 := Lib.hid h7; clear h7; replace H6 := Lib.hid (H6.out.new hb); have HG7 := Lib.hid (grown_below HB7.out (some (w.heap.size + 2))); clear hb)
        | (have Hg := H5; clear Hg; go_at_call 50; refine (mul_n (HN1.out.new HB5.out) H5.out (by omega)).mono ?_; rintro e w6 ⟨A6, k6, c6, rfl, h6, -, hb⟩; have HB6 := Lib.hid (bthen HB5.out hb HB5.out.size); have H6 := Lib.hid h6; clear h6; have HG6 := Lib.hid (grown_below HB6.out (some (w.heap.size + 2))); clear hb)
        | (go_at_call 51; refine (divisor_any (w := w2.drew) HM2.out).mono ?_; rintro e w5 ⟨A5, k5, c5, rfl, h5, hb⟩; have HB5 := Lib.hid (below_from_drew hb); have H5 := Lib.hid h5; clear h5; have HG5 := Lib.hid (grown_below HB5.out (some (w.heap.size + 2))); clear hb))
    have HRW := Lib.hid (show IntKind.i64.wrap (x.num.sign * cmpN (N * dnz M') (N' * dnz M)) = rcq x y by rw [HR.out]; exact IntWalk.i64_in _ (by omega))
    clear hsg hcg hrg
    go_wp2_with fail
    go_ret
    refine ⟨ret_int ?_, bthen HW.out HB9.out HW.out.size⟩
    first | exact HRW.out | exact HR.out
  · have ts : (x.num.sign != y.num.sign) = true := by simp [hs]
    have HS := Lib.hid hs; clear hs
    go_wp2_with fail
    refine (cmpInt_any _ _ _).mono ?_
    rintro e w3 ⟨rfl, rfl⟩
    go_wp2_with fail
    go_ret
    exact ⟨by rw [cmpI_rcq HS.out]; rfl, HW.out⟩

theorem neg_wrap {z : Int} (h : z < 0) (h2 : -9223372036854775808 ≤ z) : IntKind.u64.wrap (-(IntKind.u64.wrap z)) = ((z.natAbs : Nat) : Int) := by
  simp only [IntKind.wrap, IntKind.signed, IntKind.bits]
  simp
  omega

set_option maxHeartbeats 2000000 in
theorem magnitude_any (z : Int) (h1 : -9223372036854775808 ≤ z) (h2 : z ≤ 9223372036854775807) (w : World) : Calls Try.prog 64 #[.int .i64 z] w (RetN w 2 z.natAbs) := by
  by_cases hz : z < 0
  · have tz : decide (z < 0) = true := by simp [hz]
    have hw := neg_wrap hz h1
    go_enter Try.func64, Try.ntmps64
    go_wp2_with fail
    refine (of_n z.natAbs (by omega) _).mono ?_
    rintro e w1 ⟨A1, k1, c1, rfl, h, j, hb⟩
    have H1 := Lib.hid h; have J1 := Lib.hid j; have HB := Lib.hid hb; clear h j hb
    go_wp2_with fail
    go_ret
    exact ⟨A1, k1, c1, rfl, H1.out, J1.out, HB.out⟩
  · have tz : decide (z < 0) = false := by simp; omega
    obtain ⟨k, rfl⟩ := Int.eq_ofNat_of_zero_le (show 0 ≤ z by omega)
    have hk : ((k : Int)).natAbs = k := rfl
    go_enter Try.func64, Try.ntmps64
    go_wp2_with fail
    refine (of_n k (by omega) _).mono ?_
    rintro e w1 ⟨A1, k1, c1, rfl, h, j, hb⟩
    have H1 := Lib.hid h; have J1 := Lib.hid j; have HB := Lib.hid hb; clear h j hb
    go_wp2_with fail
    go_ret
    exact ⟨A1, k1, c1, rfl, H1.out, J1.out, HB.out⟩

theorem sgn_abs (z : Int) : (if decide (z < 0) = true then -(z.natAbs : Int) else (z.natAbs : Int)) = z := by
  by_cases h : z < 0
  · rw [if_pos (by simpa using h)]; omega
  · rw [if_neg (by simpa using h)]; omega
theorem qv_int (z : Int) : qv (decide (z < 0)) z.natAbs 0 = (z : Rat) := by
  unfold qv
  rw [if_pos rfl, sgn_abs, Rat.mkRat_eq_div]
  grind
theorem sg_abs (z : Int) : sg (decide (z < 0)) * (z.natAbs : Rat) = (z : Rat) := by
  have := qv_int z
  rw [qv_den0, qv_eq _ _ _ (by omega)] at this
  rw [← this]; grind
theorem qv_frac (n d : Int) (hd : d ≠ 0) : qv (decide (n < 0) != decide (d < 0)) n.natAbs d.natAbs = (n : Rat) / (d : Rat) := by
  have h0 : d.natAbs ≠ 0 := by omega
  rw [qv_eq _ _ _ h0, ← sg_mul, ← sg_abs n, ← sg_abs d]
  have h1 := cast_ne h0
  have h2 := sg_sq (decide (d < 0))
  generalize (n.natAbs : Rat) = a at *
  generalize (d.natAbs : Rat) = b at *
  generalize sg (decide (n < 0)) = s at *
  generalize sg (decide (d < 0)) = t at *
  have h3 : t ≠ 0 := by intro h; rw [h] at h2; simp at h2
  grind
theorem nil_num' (w : World) (b : Nat) (hb : 1 ≤ b) : Num w none 0 0 b 0 :=
  ⟨Nat.le_refl _, hb, by omega, Nat.lt_trans (by omega) (PB_one hb), [], ⟨Reads.none_, ⟨rfl, by omega⟩, by simp⟩, rfl⟩

section
variable {w : World}
set_option maxRecDepth 100000 in
set_option maxHeartbeats 4000000 in
theorem qint_any (z : Int) (h1 : -9223372036854775808 ≤ z) (h2 : z ≤ 9223372036854775807) : Calls Try.prog 25 #[.int .i64 z] w (RetQ w 2 (z : Rat)) := by
  go_enter Try.func25, Try.ntmps25
  go_wp2_with fail
  have hT1 := TB.made w 41 (.bool false) (.slice none 0 0) (.slice none 0 0)
  have hW := al w (.cells #[.bool false, .slice none 0 0, .slice none 0 0] 41)
  generalize w.alloc (.cells #[.bool false, .slice none 0 0, .slice none 0 0] 41) = w0 at hT1 hW ⊢
  refine (magnitude_any z h1 h2 _).mono ?_
  rintro e w5 ⟨A5, k5, c5, rfl, h5, -, hb⟩
  have T1 := Lib.hid (hT1.new hb); have HW := Lib.hid (bthen hW hb hW.size); have H5 := Lib.hid h5
  clear hT1 hW h5 hb
  go_wp2_with fail
  refine (qnorm_any (x := (z : Rat)) (b := 2) ⟨_, 0, H5.out, nil_num' _ _ (by omega), (qv_int z).symm⟩ (by omega)).mono ?_
  rintro e w7 ⟨s7, A7, n7, c7, B7, m7, d7, rfl, h7, hb⟩
  have H7 := Lib.hid h7
  have U4 := Lib.hid (T1.out.new hb)
  have HW7 := Lib.hid (bthen HW.out hb HW.out.size)
  have r0 := U4.out.c0; have r1 := U4.out.c1; have r2 := U4.out.c2; have f0 := U4.out.f0; have f1 := U4.out.f1; have f2 := U4.out.f2
  clear h7 hb
  go_wp2_with fail
  refine bodyPost_end (v := .agg #[.bool s7, .slice A7 n7 c7, .slice B7 m7 d7]) ?_ rfl ⟨_, _, _, _, _, _, _, rfl, H7.out.store3 U4.out _ _ _, below_store3 HW7.out (by omega) _ _ _⟩
  exact results_cell_row Try.results25 _ _ _ _ _ (0, 0) _ rfl (U4.out.set3 _ _ _) Try.underlying41 rfl rfl

def RetOf (w : World) (n d : Int) (e : Ending) (w' : World) : Prop :=
  (d = 0 → e = .returned (.tuple #[.agg #[.bool false, .slice none 0 0, .slice none 0 0], .int .i64 18]) ∧ Below w.heap.size w w') ∧
  (d ≠ 0 → ∃ s A k c B m k', e = .returned (.tuple #[.agg #[.bool s, .slice A k c, .slice B m k'], .int .i64 0]) ∧ Rn w' s A k c B m k' 2 ((n : Rat) / (d : Rat)) ∧ Below w.heap.size w w')
set_option maxRecDepth 100000 in
set_option maxHeartbeats 4000000 in
theorem qof_any (n d : Int) (h1 : -9223372036854775808 ≤ n) (h2 : n ≤ 9223372036854775807) (h3 : -9223372036854775808 ≤ d) (h4 : d ≤ 9223372036854775807) : Calls Try.prog 52 #[.int .i64 n, .int .i64 d] w (RetOf w n d) := by
  have hT1 := TB.made w 41 (.bool false) (.slice none 0 0) (.slice none 0 0)
  by_cases hd : d = 0
  · have td : (d == 0) = true := by simp [hd]
    have HD := Lib.hid hd; clear hd
    have r0 := hT1.c0; have r1 := hT1.c1; have r2 := hT1.c2; have f0 := hT1.f0; have f1 := hT1.f1; have f2 := hT1.f2
    have T1 := Lib.hid hT1; clear hT1
    go_enter Try.func52, Try.ntmps52
    go_wp2_with fail
    refine bodyPost_ret (v := .tuple #[.agg #[.bool false, .slice none 0 0, .slice none 0 0], .int .i64 18]) ?_ rfl ⟨fun _ => ⟨rfl, ?_⟩, fun h => absurd HD.out h⟩
    · first | exact results_cell_tmp Try.results52 _ _ _ _ _ (0, 0) _ rfl (T1.out.set3 _ _ _) Try.underlying41 rfl rfl | exact results_cell_tmp Try.results52 _ _ _ _ _ (0, 0) _ rfl T1.out Try.underlying41 rfl rfl
    · first | exact al w _ | exact below_store3 (al w _) (by omega) _ _ _
  · have td : (d == 0) = false := by simp [hd]
    have HD := Lib.hid hd; clear hd
    go_enter Try.func52, Try.ntmps52
    go_wp2_with fail
    have hW := al w (.cells #[.bool false, .slice none 0 0, .slice none 0 0] 41)
    generalize w.alloc (.cells #[.bool false, .slice none 0 0, .slice none 0 0] 41) = w0 at hT1 hW ⊢
    refine (magnitude_any n h1 h2 _).mono ?_
    rintro e w5 ⟨A5, k5, c5, rfl, h5, -, hb⟩
    have T1 := Lib.hid (hT1.new hb); have HW := Lib.hid (bthen hW hb hW.size); have H5 := Lib.hid h5
    clear hT1 hW h5 hb
    go_wp2_with fail
    refine (magnitude_any d h3 h4 _).mono ?_
    rintro e w6 ⟨A6, k6, c6, rfl, h6, -, hb⟩
    replace T1 := Lib.hid (T1.out.new hb); replace HW := Lib.hid (bthen HW.out hb HW.out.size); replace H5 := Lib.hid (H5.out.new hb); have H6 := Lib.hid h6
    clear h6 hb
    go_wp2_with fail
    refine (qnorm_any (x := (n : Rat) / (d : Rat)) (s := decide (n < 0) != decide (d < 0)) (b := 2) ⟨_, _, H5.out, H6.out, (qv_frac n d HD.out).symm⟩ (by omega)).mono ?_
    rintro e w7 ⟨s7, A7, n7, c7, B7, m7, d7, rfl, h7, hb⟩
    have H7 := Lib.hid h7
    have U4 := Lib.hid (T1.out.new hb)
    have HW7 := Lib.hid (bthen HW.out hb HW.out.size)
    have r0 := U4.out.c0; have r1 := U4.out.c1; have r2 := U4.out.c2; have f0 := U4.out.f0; have f1 := U4.out.f1; have f2 := U4.out.f2
    clear h7 hb
    go_wp2_with fail
    refine bodyPost_end (v := .tuple #[.agg #[.bool s7, .slice A7 n7 c7, .slice B7 m7 d7], .int .i64 0]) ?_ rfl ⟨fun h => absurd h HD.out, fun _ => ⟨_, _, _, _, _, _, _, rfl, H7.out.store3 U4.out _ _ _, below_store3 HW7.out (by omega) _ _ _⟩⟩
    exact results_cell_tmp Try.results52 _ _ _ _ _ (0, 0) _ rfl (U4.out.set3 _ _ _) Try.underlying41 rfl rfl
end
end Go.Proofs.Ytamcibmjpmibdaa
namespace Go.Proofs.Ytamcibmjpmibdaa
open Go.RowKit

set_option maxHeartbeats 2000000 in
theorem join1_any (g : Nat) (a sep : ByteArray) (w : World) (hb : Blk w g 9 #[.string a]) : Calls Try.prog 89 #[.slice (some ⟨g, 0, none⟩) 1 1, .string sep] w fun e w' => e = .returned (.string a) ∧ w = w' := by
  have c0 : w.cell? ⟨g, 0, none⟩ = some (.string a) := by rw [hb.cell]; rfl
  clear hb
  go_enter Try.func89, Try.ntmps89
  go_wp2_with fail
  go_ret
  exact ⟨rfl, rfl⟩

theorem bsz (s : ByteArray) : s.data.toList.length = s.size := Array.length_toList
theorem one_size : (ByteArray.mk #[47]).size = 1 := rfl
def strs2 (a b : ByteArray) : ByteArray := ⟨(a.data.toList ++ [47] ++ b.data.toList).toArray⟩
set_option maxHeartbeats 4000000 in
theorem join2_any (g : Nat) (a b : ByteArray) (w : World) (hg : Blk w g 9 #[.string a, .string b]) (ha : a.size ≤ 1000000) (hb : b.size ≤ 1000000) : Calls Try.prog 89 #[.slice (some ⟨g, 0, none⟩) 2 2, .string ⟨#[47]⟩] w fun e w' => e = .returned (.string (strs2 a b)) ∧ Below w.heap.size w w' := by
  have c0 : w.cell? ⟨g, 0, none⟩ = some (.string a) := by rw [hg.cell]; rfl
  have c1 : w.cell? ⟨g, 1, none⟩ = some (.string b) := by rw [hg.cell]; rfl
  have hgl := hg.lt
  have HG := Lib.hid hg; clear hg
  go_enter Try.func89, Try.ntmps89
  go_wp2_with fail
  go_loop [5, 41] (fun nv iv => ∃ i n : Nat, i ≤ 2 ∧ iv = .int .i64 i ∧ nv = .int .i64 n ∧ n ≤ 1 + 1000000 * i) (fun _ iv => 2 - (intOf iv).toNat)
  case atStart => exact ⟨0, 1, by omega, rfl, rfl, by omega⟩
  case round =>
    obtain ⟨i, n, hi, rfl, rfl, hn⟩ := hrel
    have hi3 : i = 0 ∨ i = 1 ∨ i = 2 := by omega
    rcases hi3 with rfl | rfl | rfl
    · have t1 : decide ((9223372036854775807 : Int) - (n : Int) < (a.size : Int)) = false := by simp; omega
      go_wp2_with fail
      exact ⟨⟨1, n + a.size, by omega, rfl, by simp, by omega⟩, by simp [intOf]⟩
    · have t1 : decide ((9223372036854775807 : Int) - (n : Int) < (b.size : Int)) = false := by simp; omega
      go_wp2_with fail
      exact ⟨⟨2, n + b.size, by omega, rfl, by simp, by omega⟩, by simp [intOf]⟩
    · have hn2 : n ≤ 281474976710656 := by omega
      have hnB : (w.alloc (.cells #[.pointer none, .slice none 0 0] 145)).heap[w.heap.size]? = some (.cells #[.pointer none, .slice none 0 0] 145 (0, 0)) := Blk.new w _ _
      have HNB := Lib.hid hnB; clear hnB hn
      go_wp2_with fail
      refine (Try.Builder_Grow_fresh w.heap.size w.heap.size n _ (Nat.le_refl _) HNB.out (by simp) hn2).mono ?_
      rintro e w1 ⟨rfl, hB1, hb1⟩
      have HB1 := Lib.hid hB1; have HW := Lib.hid ((al w _).trans hb1); clear hB1 hb1
      replace HG := Lib.hid (HG.out.below HW.out HG.out.lt)
      clear c0 c1
      have c0 : w1.cell? ⟨g, 0, none⟩ = some (.string a) := by rw [HG.out.cell]; rfl
      go_wp2_with fail
      refine (writeString_any w.heap.size w.heap.size [] a _ (.inr HB1.out) (by simp; omega) HW.out.size).mono ?_
      rintro e w2 ⟨rfl, hB2, hb2⟩
      have HB2 := Lib.hid hB2; replace HG := Lib.hid (HG.out.below hb2 hgl); replace HW := Lib.hid (HW.out.trans hb2); clear hB2 hb2 c0
      go_wp2_with fail
      go_loopw [65] (fun iv wr => ∃ i : Nat, i ≤ 1 ∧ iv = .int .i64 i ∧ Hid (Lib.BuilderAt 145 5 w.heap.size w.heap.size (.pointer (some ⟨w.heap.size, 0, none⟩)) (if i = 0 then Lib.byteCells a.data.toList else Lib.byteCells (a.data.toList ++ [47] ++ b.data.toList)) wr ∧ Blk wr g 9 #[.string a, .string b] ∧ Below w.heap.size w wr)) (fun iv _ => 1 - (intOf iv).toNat)
      case atStart => exact ⟨0, by omega, rfl, Lib.hid ⟨HB2.out, HG.out, HW.out⟩⟩
      case round =>
        obtain ⟨i, hi, rfl, HJ⟩ := hrel
        have hi3 : i = 0 ∨ i = 1 := by omega
        rcases hi3 with rfl | rfl
        · have c1 : wr.cell? ⟨g, 1, none⟩ = some (.string b) := by rw [HJ.out.2.1.cell]; rfl
          have HJB := Lib.hid HJ.out.1
          simp only [if_true] at HJB
          go_wp2_with fail
          refine (writeString_any w.heap.size w.heap.size (Lib.byteCells a.data.toList) ⟨#[47]⟩ _ (.inr HJB.out) (by rw [Lib.byteCells_length, bsz, one_size]; omega) HJ.out.2.2.size).mono ?_
          rintro e w3 ⟨rfl, hB3, hb3⟩
          have HB3 := Lib.hid hB3; have HG3 := Lib.hid (HJ.out.2.1.below hb3 hgl); have HW3 := Lib.hid (HJ.out.2.2.trans hb3); clear hB3 hb3 c1
          go_wp2_with fail
          refine (writeString_any w.heap.size w.heap.size (Lib.byteCells a.data.toList ++ Lib.strCells ⟨#[47]⟩) b _ (.inr HB3.out) (by rw [List.length_append, Lib.byteCells_length, Lib.strCells_length, bsz, one_size]; omega) HW3.out.size).mono ?_
          rintro e w4 ⟨rfl, hB4, hb4⟩
          have HB4 := Lib.hid hB4; have HG4 := Lib.hid (HG3.out.below hb4 hgl); have HW4 := Lib.hid (HW3.out.trans hb4); clear hB4 hb4
          go_wp2_with fail
          refine ⟨⟨1, by omega, rfl, Lib.hid ⟨?_, HG4.out, HW4.out⟩⟩, by simp [intOf]⟩
          rw [if_neg (by omega), Lib.byteCells_append, Lib.byteCells_append]
          exact HB4.out
        · have HJB := Lib.hid HJ.out.1
          simp only [show ¬ (1 = 0) by omega, if_false] at HJB
          go_wp2_with fail
          refine (Try.Builder_String_any w.heap.size w.heap.size (a.data.toList ++ [47] ++ b.data.toList) _ (.inr HJB.out) HJ.out.2.2.size).mono ?_
          rintro e w5 ⟨rfl, hb5⟩
          have HW5 := Lib.hid (HJ.out.2.2.trans hb5); clear hb5
          go_wp2_with fail
          go_ret
          exact ⟨by simp [strs2], HW5.out⟩

set_option maxHeartbeats 2000000 in
theorem qjoin1_any (g : Nat) (a : ByteArray) (w : World) (hb : Blk w g 9 #[.string a]) : Calls Try.prog 67 #[.slice (some ⟨g, 0, none⟩) 1 1] w fun e w' => e = .returned (.string a) ∧ w = w' := by
  have HB := Lib.hid hb; clear hb
  go_enter Try.func67, Try.ntmps67
  go_wp2_with fail
  refine (join1_any g a _ w HB.out).mono ?_
  rintro e w1 ⟨rfl, rfl⟩
  go_wp2_with fail
  go_ret
  exact ⟨rfl, rfl⟩
set_option maxHeartbeats 2000000 in
theorem qjoin2_any (g : Nat) (a b : ByteArray) (w : World) (hg : Blk w g 9 #[.string a, .string b]) (ha : a.size ≤ 1000000) (hb : b.size ≤ 1000000) : Calls Try.prog 67 #[.slice (some ⟨g, 0, none⟩) 2 2] w fun e w' => e = .returned (.string (strs2 a b)) ∧ Below w.heap.size w w' := by
  have HB := Lib.hid hg; clear hg
  go_enter Try.func67, Try.ntmps67
  go_wp2_with fail
  refine (join2_any g a b w HB.out ha hb).mono ?_
  rintro e w1 ⟨rfl, hb1⟩
  have HW := Lib.hid hb1; clear hb1
  go_wp2_with fail
  go_ret
  exact ⟨rfl, HW.out⟩
end Go.Proofs.Ytamcibmjpmibdaa
namespace Go.Proofs.Ytamcibmjpmibdaa

theorem valB_push (b : Nat) (L : List Nat) (x : Nat) : valB b (L ++ [x]) = valB b L + b ^ L.length * x := by rw [valB_append, valB_single]
theorem mem_push {b : Nat} {L : List Nat} {x : Nat} (h : ∀ d ∈ L, d < b) (hx : x < b) : ∀ d ∈ L ++ [x], d < b := by
  intro d hd
  rcases List.mem_append.1 hd with h1 | h1
  · exact h d h1
  · simp at h1; omega
theorem take_all {l : List Nat} {i : Nat} (h : l.length ≤ i) : l.take i = l := List.take_of_length_le h

/-- Small so far. -/
def SmInv (D : List Nat) (f p : Nat) (L : List Nat) (i cr : Nat) : Prop :=
  L.length = i ∧ (∀ d ∈ L, d < 10) ∧ valB 10 L + 10 ^ i * cr = valB 10 (D.take i) * f + p ∧ cr * 10 ^ (i - D.length) ≤ 42949672960 ∧ i ≤ D.length + 11
theorem SmInv.start (D : List Nat) (f p : Nat) (hp : p ≤ 42949672960) : SmInv D f p [] 0 p := by
  refine ⟨rfl, by simp, by simp [valB], by simp; omega, by omega⟩
theorem SmInv.lt {D : List Nat} {f p : Nat} {L : List Nat} {i cr : Nat} (h : SmInv D f p L i cr) : cr ≤ 42949672960 := by
  have h1 := h.2.2.2.1
  have h2 : cr * 1 ≤ cr * 10 ^ (i - D.length) := Nat.mul_le_mul_left _ (Nat.pow_pos (by omega))
  omega
theorem SmInv.inside {D : List Nat} {f p : Nat} {L : List Nat} {i cr s : Nat} (h : SmInv D f p L i cr) (hi : i < D.length) (hD : ∀ d ∈ D, d < 10) (hf : f ≤ 4294967296) (hs : s = cr + nth D i * f) :
    SmInv D f p (L ++ [s % 10]) (i + 1) (s / 10) := by
  obtain ⟨h1, h2, h3, h4, h5⟩ := h
  have hd := hD _ (nth_mem hi)
  have h6 : nth D i * f ≤ 9 * 4294967296 := Nat.mul_le_mul (by omega) hf
  have hc : cr ≤ 42949672960 := by
    rw [show i - D.length = 0 by omega] at h4; simpa using h4
  refine ⟨by simp [h1], mem_push h2 (by omega), ?_, ?_, by omega⟩
  · rw [valB_push, valB_take hi, h1, Nat.pow_succ]
    have h7 : s = 10 * (s / 10) + s % 10 := by omega
    generalize s / 10 = q at *
    generalize s % 10 = r at *
    generalize 10 ^ i = P at *
    grind
  · rw [show i + 1 - D.length = 0 by omega]; omega
theorem SmInv.outside {D : List Nat} {f p : Nat} {L : List Nat} {i cr : Nat} (h : SmInv D f p L i cr) (hi : D.length ≤ i) (hc : 0 < cr) :
    SmInv D f p (L ++ [cr % 10]) (i + 1) (cr / 10) := by
  obtain ⟨h1, h2, h3, h4, h5⟩ := h
  have h6 : i - D.length ≤ 10 := by
    rcases Nat.lt_or_ge 10 (i - D.length) with h | h
    · have h7 : 10 ^ 11 ≤ 10 ^ (i - D.length) := Nat.pow_le_pow_right (by omega) h
      have h8 : 1 * 10 ^ (i - D.length) ≤ cr * 10 ^ (i - D.length) := Nat.mul_le_mul_right _ hc
      omega
    · exact h
  refine ⟨by simp [h1], mem_push h2 (by omega), ?_, ?_, by omega⟩
  · rw [valB_push, take_all (by omega), h1, Nat.pow_succ]
    rw [take_all hi] at h3
    have h7 : cr = 10 * (cr / 10) + cr % 10 := by omega
    generalize cr / 10 = q at *
    generalize cr % 10 = r at *
    generalize 10 ^ i = P at *
    grind
  · rw [show i + 1 - D.length = (i - D.length) + 1 by omega, Nat.pow_succ]
    have h7 : cr / 10 * 10 ≤ cr := by omega
    have h8 := Nat.mul_le_mul_right (10 ^ (i - D.length)) h7
    generalize 10 ^ (i - D.length) = P at *
    generalize cr / 10 = q at *
    have : q * (P * 10) = q * 10 * P := by grind
    omega
theorem SmInv.done {D : List Nat} {f p : Nat} {L : List Nat} {i : Nat} (h : SmInv D f p L i 0) (hi : D.length ≤ i) : valB 10 L = valB 10 D * f + p := by
  obtain ⟨h1, h2, h3, h4, h5⟩ := h
  rw [take_all hi] at h3
  simpa using h3

/-- Add so far. -/
def DaInv (D F : List Nat) (L : List Nat) (i cr : Nat) : Prop :=
  L.length = i ∧ (∀ d ∈ L, d < 10) ∧ valB 10 L + 10 ^ i * cr = valB 10 (D.take i) + valB 10 (F.take i) ∧ cr ≤ 1 ∧ (i ≤ D.length ∨ i ≤ F.length ∨ (i ≤ max D.length F.length + 1 ∧ cr = 0)) ∧
  (i = 0 ∨ (max D.length F.length ≤ i → cr = 1 ∨ nth L (i - 1) ≠ 0))
theorem DaInv.start (D F : List Nat) : DaInv D F [] 0 0 := ⟨rfl, by simp, by simp [valB], by omega, by omega, .inl rfl⟩
theorem nth_push (L : List Nat) (x : Nat) : nth (L ++ [x]) L.length = x := by simp [nth, List.getD]
theorem valB_take' {b : Nat} {l : List Nat} {k : Nat} : valB b (l.take (k + 1)) = valB b (l.take k) + b ^ k * (if k < l.length then nth l k else 0) := by
  by_cases h : k < l.length
  · rw [if_pos h, valB_take h]
  · rw [if_neg h, take_all (by omega), take_all (by omega)]; simp
theorem last_pos {D : List Nat} {V : Nat} (h : Nrm 10 D V) {i : Nat} (hi : i + 1 = D.length) : 0 < nth D i := by
  rcases h.2.2 with h0 | h0
  · subst h0; simp at hi
  · rw [show D.length - 1 = i by omega] at h0; omega
theorem DaInv.step {D F : List Nat} {N M : Nat} {L : List Nat} {i cr s : Nat} (h : DaInv D F L i cr) (hD : Nrm 10 D N) (hF : Nrm 10 F M) (hi : i < D.length ∨ i < F.length ∨ 0 < cr)
    (hs : s = cr + (if i < D.length then nth D i else 0) + (if i < F.length then nth F i else 0)) : DaInv D F (L ++ [s % 10]) (i + 1) (s / 10) := by
  obtain ⟨h1, h2, h3, h4, h5, h6⟩ := h
  have hd : (if i < D.length then nth D i else 0) < 10 := by
    split
    · rename_i h; exact hD.2.1 _ (nth_mem h)
    · omega
  have hf : (if i < F.length then nth F i else 0) < 10 := by
    split
    · rename_i h; exact hF.2.1 _ (nth_mem h)
    · omega
  have hpos : max D.length F.length ≤ i + 1 → 0 < s := by
    intro hm
    by_cases a1 : i < D.length
    · rw [if_pos a1] at hs
      by_cases a2 : i + 1 = D.length
      · have := last_pos hD a2; omega
      · omega
    · by_cases a2 : i < F.length
      · rw [if_pos a2] at hs
        by_cases a3 : i + 1 = F.length
        · have := last_pos hF a3; omega
        · omega
      · omega
  refine ⟨by simp [h1], mem_push h2 (by omega), ?_, by omega, ?_, .inr fun hm => ?_⟩
  · rw [valB_push, valB_take', valB_take', h1, Nat.pow_succ]
    generalize (if i < D.length then nth D i else 0) = x at *
    generalize (if i < F.length then nth F i else 0) = y at *
    have h7 : s = 10 * (s / 10) + s % 10 := by omega
    generalize s / 10 = q at *
    generalize s % 10 = r at *
    generalize 10 ^ i = P at *
    grind
  · by_cases a1 : i < D.length
    · left; omega
    · by_cases a2 : i < F.length
      · right; left; omega
      · right; right
        rw [if_neg a1, if_neg a2] at hs
        omega
  · have h7 := hpos hm
    have h8 : nth (L ++ [s % 10]) (i + 1 - 1) = s % 10 := by rw [show i + 1 - 1 = L.length by omega, nth_push]
    rw [h8]
    omega
theorem DaInv.done {D F : List Nat} {N M : Nat} {L : List Nat} {i : Nat} (h : DaInv D F L i 0) (hD : Nrm 10 D N) (hF : Nrm 10 F M) (hi : D.length ≤ i) (hj : F.length ≤ i) : Nrm 10 L (N + M) := by
  obtain ⟨h1, h2, h3, h4, h5, h6⟩ := h
  rw [take_all hi, take_all hj, hD.1, hF.1] at h3
  refine ⟨by simpa using h3, h2, ?_⟩
  rcases h6 with h0 | h0
  · left; exact List.eq_nil_of_length_eq_zero (by omega)
  · right
    rcases h0 (by omega) with h0 | h0
    · omega
    · rw [h1]; exact h0

/-- Sub so far. -/
def DsInv (D F : List Nat) (L : List Nat) (i br : Nat) : Prop :=
  L.length = i ∧ (∀ d ∈ L, d < 10) ∧ valB 10 L + valB 10 (F.take i) = valB 10 (D.take i) + 10 ^ i * br ∧ br ≤ 1
theorem DsInv.start (D F : List Nat) : DsInv D F [] 0 0 := ⟨rfl, by simp, by simp [valB], by omega⟩
theorem DsInv.step {D F : List Nat} {L : List Nat} {i br x y r br' : Nat} (h : DsInv D F L i br) (hi : i < D.length) (hx : x = nth D i) (hy : y = if i < F.length then nth F i else 0)
    (hb : br' ≤ 1) (hr : r < 10) (he : r + y + br = x + 10 * br') : DsInv D F (L ++ [r]) (i + 1) br' := by
  obtain ⟨h1, h2, h3, h4⟩ := h
  refine ⟨by simp [h1], mem_push h2 hr, ?_, hb⟩
  rw [valB_push, valB_take', valB_take', h1, Nat.pow_succ, ← hy, if_pos hi, ← hx]
  generalize 10 ^ i = P at *
  grind
theorem DsInv.done {D F : List Nat} {N M : Nat} {L : List Nat} {br : Nat} (h : DsInv D F L D.length br) (hD : Nrm 10 D N) (hF : Nrm 10 F M) (hle : M ≤ N) : valB 10 L = N - M := by
  obtain ⟨h1, h2, h3, h4⟩ := h
  have hlen : F.length ≤ D.length := by
    rcases Nat.lt_or_ge D.length F.length with h | h
    · have := hD.len_lt hF (by omega) h; omega
    · exact h
  rw [take_all (Nat.le_refl _), take_all hlen, hD.1, hF.1] at h3
  have h5 := valB_lt h2
  rw [h1] at h5
  rcases Nat.lt_or_ge br 1 with h6 | h6
  · have : br = 0 := by omega
    subst this
    simp at h3; omega
  · have : br = 1 := by omega
    subst this
    rw [Nat.mul_one] at h3
    omega
theorem Nrm.small_lt {D : List Nat} {N b : Nat} (h : Nrm 10 D N) (hb : N < 10 ^ b) : D.length ≤ b := by
  rcases Nat.lt_or_ge b D.length with h1 | h1
  · have h2 := h.pos (by omega)
    have h3 : 10 ^ b ≤ 10 ^ (D.length - 1) := Nat.pow_le_pow_right (by omega) (by omega)
    omega
  · exact h1
end Go.Proofs.Ytamcibmjpmibdaa
namespace Go.Proofs.Ytamcibmjpmibdaa
open Go.RowKit

/-- The bytes of a string, as numbers. -/
def bytesOf (s : ByteArray) : List Nat := s.toList.map UInt8.toNat
theorem bytes_length (s : ByteArray) : (bytesOf s).length = s.size := by
  rw [bytesOf, List.length_map, ByteArray.toList_eq]; cases s; rfl
theorem bytes_get (s : ByteArray) (i : Nat) (h : i < s.size) : (s[i]'h).toNat = nth (bytesOf s) i := by
  have h1 : i < (bytesOf s).length := by rw [bytes_length]; exact h
  rw [nth_eq h1]
  simp only [bytesOf, List.getElem_map]
  congr 1
  have h2 : i < s.data.toList.length := by have := bytes_length s; rw [bytesOf, List.length_map, ByteArray.toList_eq] at this; omega
  have h3 : s.toList[i]'(by rw [ByteArray.toList_eq]; exact h2) = s.data.toList[i] := by simp only [ByteArray.toList_eq]
  rw [h3]
  cases s; rfl
theorem bytes_lt (s : ByteArray) : ∀ b ∈ bytesOf s, b < 256 := by
  intro b hb
  obtain ⟨u, _, rfl⟩ := List.mem_map.1 hb
  exact u.toNat_lt
theorem bytes_nil {s : ByteArray} : bytesOf s = [] ↔ s.toList = [] := by simp [bytesOf]
theorem bytes_inj {s t : ByteArray} (h : bytesOf s = bytesOf t) : s = t := by
  have h1 : s.toList = t.toList := by
    have hi : Function.Injective UInt8.toNat := fun a b h => UInt8.toNat_inj.1 h
    exact (List.map_inj_right (fun _ _ h => hi h)).1 h
  rw [ByteArray.toList_eq, ByteArray.toList_eq] at h1
  cases s with | mk a => cases t with | mk b => cases a; cases b; simp at h1; rw [h1]

/-- The value of the first i decimal characters. -/
def dv (bs : List Nat) : Nat → Nat
  | 0 => 0
  | i + 1 => dv bs i * 10 + (nth bs i - 48)
theorem dv_lt {bs : List Nat} : ∀ i, (∀ j, j < i → nth bs j ≤ 57) → dv bs i < 10 ^ i
  | 0, _ => by simp [dv]
  | i + 1, h => by
    have h1 := dv_lt (bs := bs) i (fun j hj => h j (by omega))
    have h2 := h i (by omega)
    rw [dv, Nat.pow_succ]; omega
/-- A decimal representation without leading zeros. -/
def PGood (bs : List Nat) : Prop := bs ≠ [] ∧ (∀ j, j < bs.length → 48 ≤ nth bs j ∧ nth bs j ≤ 57) ∧ (nth bs 0 = 48 → bs.length = 1)

/-- One digit more, digit by digit of the base. -/
def PaInv (L0 L : List Nat) (d j cr : Nat) : Prop :=
  L.length = L0.length ∧ (∀ x ∈ L, x < 4294967296) ∧ valB 4294967296 (L.take j) + 4294967296 ^ j * cr = 10 * valB 4294967296 (L0.take j) + d ∧ cr ≤ 10 ∧ ∀ t, j ≤ t → t < L0.length → nth L t = nth L0 t
theorem PaInv.start {L0 : List Nat} {d : Nat} (h : ∀ x ∈ L0, x < 4294967296) (hd : d ≤ 9) : PaInv L0 L0 d 0 d :=
  ⟨rfl, h, by simp [valB], by omega, fun _ _ _ => rfl⟩
theorem mem_set' {L : List Nat} {b k x : Nat} (h : ∀ e ∈ L, e < b) (hx : x < b) : ∀ e ∈ L.set k x, e < b := by
  intro e he
  rcases List.mem_or_eq_of_mem_set he with h1 | h1
  · exact h e h1
  · omega
theorem PaInv.step {L0 L : List Nat} {d j cr s : Nat} (h : PaInv L0 L d j cr) (hj : j < L0.length) (h0 : ∀ x ∈ L0, x < 4294967296) (hs : s = cr + 10 * nth L0 j) : PaInv L0 (L.set j (s % 4294967296)) d (j + 1) (s / 4294967296) := by
  obtain ⟨h1, h2, h3, h4, h5⟩ := h
  have hx := h0 _ (nth_mem hj)
  have hb : (4294967296 : Nat) = 2 ^ 32 := rfl
  refine ⟨by simp [h1], mem_set' h2 (Nat.mod_lt _ (by omega)), ?_, by omega, fun t ht1 ht2 => ?_⟩
  · rw [valB_take (by rw [List.length_set]; omega), valB_take hj, nth_set (by omega), if_pos rfl]
    have e1 : (L.set j (s % 4294967296)).take j = L.take j := by rw [List.take_set]; exact List.set_eq_of_length_le (by simp; omega)
    rw [e1, Nat.pow_succ]
    have h7 : s = 4294967296 * (s / 4294967296) + s % 4294967296 := by omega
    generalize s / 4294967296 = q at *
    generalize s % 4294967296 = r at *
    generalize 4294967296 ^ j = P at *
    generalize valB 4294967296 (L.take j) = a at *
    generalize valB 4294967296 (L0.take j) = b at *
    generalize nth L0 j = x at *
    clear h1 h2 h5 hb
    grind
  · rw [nth_set (by omega), if_neg (by omega)]
    exact h5 t (by omega) ht2
theorem PaInv.stop {L0 L : List Nat} {d V : Nat} (h : PaInv L0 L d L0.length 0) (h0 : Nrm 4294967296 L0 V) : Nrm 4294967296 L (V * 10 + d) := by
  obtain ⟨h1, h2, h3, h4, h5⟩ := h
  rw [take_all (by omega), take_all (Nat.le_refl _), h0.1] at h3
  have hv : valB 4294967296 L = V * 10 + d := by omega
  refine ⟨hv, h2, ?_⟩
  rcases Nat.eq_zero_or_pos L.length with hl | hl
  · left; exact List.eq_nil_of_length_eq_zero hl
  · right
    intro hz
    have h6 := h0.pos (by omega)
    have h7 := valB_take (b := 4294967296) (l := L) (k := L.length - 1) (by omega)
    rw [Nat.sub_add_cancel hl, List.take_length, hz, hv] at h7
    have h8 := valB_lt (b := 4294967296) (l := L.take (L.length - 1)) (fun x hx => h2 x (List.mem_of_mem_take hx))
    rw [List.length_take, Nat.min_eq_left (by omega), h1] at h8
    rw [Nat.mul_zero, h1] at h7
    omega
theorem PaInv.grow {L0 L : List Nat} {d V cr : Nat} (h : PaInv L0 L d L0.length cr) (h0 : Nrm 4294967296 L0 V) (hc : 0 < cr) : Nrm 4294967296 (L ++ [cr]) (V * 10 + d) := by
  obtain ⟨h1, h2, h3, h4, h5⟩ := h
  rw [take_all (by omega), take_all (Nat.le_refl _), h0.1] at h3
  refine ⟨by rw [valB_push, h1]; omega, mem_push h2 (by omega), .inr ?_⟩
  rw [List.length_append, List.length_singleton, Nat.add_sub_cancel, nth_push]; omega
end Go.Proofs.Ytamcibmjpmibdaa
namespace Go.Proofs.Ytamcibmjpmibdaa
open Go.RowKit

section
variable {ops : Array Oper} {rest : List Oper} {o : Oper} {a : Act} {w : World} {Q : Exit → Act → World → Prop}
theorem app_nat (hgd : o.guard = none) (s x : Operand) (ho : o.op = .call { callee := .builtin .append, args := #[s, x], argTypes := #[39, 39] })
    (base : Nat) (v : Value) (k : Nat) (L : List Nat) (hs : a.eval s = v) (hown : w.ownsRow base 111 1 v k (U32 L)) (g y : Nat) (hx : a.eval x = .slice (some ⟨g, 0, none⟩) 1 1) (hb : Blk w g 111 #[.int .u32 (y : Int)])
    (hk : k ≤ 1000000) (hbase : base ≤ w.heap.size)
    (h : ∀ v' w', w'.ownsRow base 111 1 v' (k + 1) (U32 (L ++ [y])) → w.grownBy w' v.ownBlock → (v'.ownBlock = v.ownBlock ∨ v'.ownBlock = some w.heap.size) → wpList Try.prog ops Q rest (a.put o.dst v') w') : wpList Try.prog ops Q (o :: rest) a w := by
  obtain ⟨i, hi, hz, hs1, hby⟩ := info_parts info_u32
  have hr : Reads w w.heap.size 1 (some ⟨g, 0, none⟩) 1 [.int .u32 (y : Int)] := ⟨rfl, fun _ => ⟨_, rfl, hb.lt, fun j u hu => by
    have e : (Addr.add ⟨g, 0, none⟩ j) = ⟨g, j, none⟩ := by unfold Addr.add; split <;> simp_all
    rw [e, hb.cell]; simpa using hu⟩⟩
  refine wpList_append_any w hgd s x 39 ho base 111 i _ 1 4 Try.underlying39 hi hz hs1 hby rfl (by omega) v k (U32 L) hs hown w.heap.size _ 1 1 _ hx hr (by simp; rfl) (by simp only [maxLen]; omega) (by omega) hbase ?_
  intro v' w' h1 h2 h3
  exact h v' w' (by simpa [U32] using h1) h2 h3
end
theorem own_cap2 {w : World} {base : Nat} {e : TypeId} {n : Nat} {A : Option Addr} {c : Nat} {xs : List Value} (h : w.ownsRow base e 1 (.slice A n c) n xs) : n ≤ c := by
  rcases h.2 with ⟨h1, h2⟩ | ⟨g, cap, cur, h1, _, _, h3, _⟩
  · omega
  · cases h1; exact h3
theorem own_some {w : World} {base : Nat} {e : TypeId} {n : Nat} {A : Option Addr} {c : Nat} {xs : List Value} (h : w.ownsRow base e 1 (.slice A n c) n xs) (hn : 0 < n) : ∃ g, A = some ⟨g, 0, none⟩ ∧ base ≤ g := by
  rcases h.2 with ⟨h1, h2⟩ | ⟨g, cap, cur, h1, hb, _⟩
  · omega
  · cases h1; exact ⟨g, rfl, hb⟩

def RetParse (w : World) (bs : List Nat) (e : Ending) (w' : World) : Prop :=
  (1200 < bs.length → e = .returned (.tuple #[.slice none 0 0, .int .i64 13]) ∧ Below w.heap.size w w') ∧
  (bs.length ≤ 1200 → ¬ PGood bs → e = .returned (.tuple #[.slice none 0 0, .int .i64 15]) ∧ Below w.heap.size w w') ∧
  (bs.length ≤ 1200 → PGood bs → ∃ A k c, e = .returned (.tuple #[.slice A k c, .int .i64 0]) ∧ Num w' A k c 1201 (dv bs bs.length) ∧ Norm w' A k (dv bs bs.length) ∧ Below w.heap.size w w')
theorem RetParse.long {w : World} {bs : List Nat} (h : 1200 < bs.length) {w' : World} (hb : Below w.heap.size w w') : RetParse w bs (.returned (.tuple #[.slice none 0 0, .int .i64 13])) w' :=
  ⟨fun _ => ⟨rfl, hb⟩, fun h1 => by omega, fun h1 => by omega⟩
theorem RetParse.bad {w : World} {bs : List Nat} (h : bs.length ≤ 1200) (hg : ¬ PGood bs) {w' : World} (hb : Below w.heap.size w w') : RetParse w bs (.returned (.tuple #[.slice none 0 0, .int .i64 15])) w' :=
  ⟨fun h1 => by omega, fun _ _ => ⟨rfl, hb⟩, fun _ h1 => absurd h1 hg⟩
theorem ten_PB (n : Nat) : 10 ^ n ≤ PB n := Nat.pow_le_pow_left (by omega) n

end Go.Proofs.Ytamcibmjpmibdaa
namespace Go.Proofs.Ytamcibmjpmibdaa
open Go.RowKit

theorem bytes_mk (l : List UInt8) : bytesOf ⟨l.toArray⟩ = l.map UInt8.toNat := by simp [bytesOf]
theorem bytes_text {D : List Nat} (h : ∀ d ∈ D, d < 10) (hD : D ≠ []) : bytesOf (textOf D) = D.reverse.map (· + 48) := by
  rw [textOf, if_neg hD, bytes_mk, List.map_map]
  apply List.map_congr_left
  intro d hd
  have := h d (List.mem_reverse.1 hd)
  simp only [Function.comp]
  show (UInt8.ofNat (d + 48)).toNat = d + 48
  rw [UInt8.toNat_ofNat']; omega
theorem bytes_zero : bytesOf (textOf []) = [48] := by
  rw [textOf, if_pos rfl]
  show bytesOf ⟨[48].toArray⟩ = [48]
  rw [bytes_mk]; rfl
theorem dv_prefix (l m : List Nat) : ∀ i, i ≤ l.length → dv (l ++ m) i = dv l i
  | 0, _ => rfl
  | i + 1, h => by
    rw [dv, dv, dv_prefix l m i (by omega)]
    have : nth (l ++ m) i = nth l i := by simp only [nth, List.getD]; rw [List.getElem?_append_left (by omega)]
    rw [this]
theorem dv_rev (D : List Nat) : dv (D.reverse.map (· + 48)) D.length = valB 10 D := by
  induction D with
  | nil => rfl
  | cons d D ih =>
    rw [List.reverse_cons, List.map_append, List.length_cons, dv, dv_prefix _ _ _ (by simp), ih, valB]
    have : nth (D.reverse.map (· + 48) ++ [d].map (· + 48)) D.length = d + 48 := by
      simp only [nth, List.getD]
      rw [List.getElem?_append_right (by simp)]
      simp
    rw [this]; omega
theorem text_good {D : List Nat} {N : Nat} (h : Nrm 10 D N) : PGood (bytesOf (textOf D)) ∧ dv (bytesOf (textOf D)) (bytesOf (textOf D)).length = N := by
  by_cases hD : D = []
  · subst hD
    rw [bytes_zero]
    have : N = 0 := h.1.symm
    refine ⟨⟨by simp, ?_, by simp⟩, by rw [this]; rfl⟩
    intro j hj
    simp at hj; subst hj; simp [nth]
  · rw [bytes_text h.2.1 hD]
    refine ⟨⟨by simpa using hD, fun j hj => ?_, fun h0 => ?_⟩, ?_⟩
    · have := nth_mem hj
      obtain ⟨d, hd, he⟩ := List.mem_map.1 this
      have := h.2.1 d (List.mem_reverse.1 hd)
      omega
    · exfalso
      rcases h.2.2 with h1 | h1
      · exact hD h1
      · apply h1
        have hl : 0 < D.length := List.length_pos_iff.2 hD
        rw [nth_eq (by simp; omega)] at h0
        simp only [List.getElem_map, List.getElem_reverse] at h0
        rw [nth_eq (by omega)]
        simp only [Nat.sub_zero] at h0
        omega
    · have : (D.reverse.map (· + 48)).length = D.length := by simp
      rw [this, dv_rev]; exact h.1
theorem good_text {bs : List Nat} (hg : PGood bs) {D : List Nat} (h : Nrm 10 D (dv bs bs.length)) : bytesOf (textOf D) = bs := by
  obtain ⟨h1, h2, h3⟩ := hg
  obtain ⟨L, hL⟩ : ∃ L, L = (bs.map (· - 48)).reverse := ⟨_, rfl⟩
  have hbs : bs = L.reverse.map (· + 48) := by
    rw [hL, List.reverse_reverse, List.map_map]
    conv => lhs; rw [← List.map_id bs]
    apply List.map_congr_left
    intro b hb
    obtain ⟨i, hi, he⟩ := List.getElem_of_mem hb
    have := h2 i hi
    rw [nth_eq hi, he] at this
    simp only [Function.comp, id]; omega
  have hlen : L.length = bs.length := by rw [hL]; simp
  have hdig : ∀ d ∈ L, d < 10 := by
    intro d hd
    rw [hL] at hd
    obtain ⟨b, hb, rfl⟩ := List.mem_map.1 (List.mem_reverse.1 hd)
    obtain ⟨i, hi, he⟩ := List.getElem_of_mem hb
    have := h2 i hi
    rw [nth_eq hi, he] at this
    omega
  have hval : valB 10 L = dv bs bs.length := by rw [← dv_rev, ← hbs, hlen]
  by_cases hz : nth bs 0 = 48
  · have hl1 := h3 hz
    match hb : bs, hl1 with
    | [b], _ =>
      simp [nth] at hz
      subst hz
      have h0 : D = [] := by
        have : D.length = 0 := (h.zero_iff (by omega)).2 rfl
        exact List.eq_nil_of_length_eq_zero this
      rw [h0, bytes_zero]
  · have hlp : 0 < bs.length := List.length_pos_iff.2 h1
    have hNrm : Nrm 10 L (dv bs bs.length) := by
      refine ⟨hval, hdig, .inr ?_⟩
      intro h4
      apply hz
      have h5 := h2 0 hlp
      rw [nth_eq hlp] at h5 ⊢
      rw [nth_eq (by omega)] at h4
      have h6 : L[L.length - 1]'(by omega) = bs[0] - 48 := by
        simp only [hL, List.getElem_reverse, List.getElem_map]
        congr 2
        simp
      omega
    have := h.unique hNrm (by omega)
    rw [this, bytes_text hdig (fun h => by rw [h] at hlen; simp at hlen; omega), ← hbs]
theorem good_string {s : ByteArray} (hg : PGood (bytesOf s)) {D : List Nat} (h : Nrm 10 D (dv (bytesOf s) (bytesOf s).length)) : textOf D = s := bytes_inj (good_text hg h)
theorem text_size {D : List Nat} {b : Nat} (h : D.length ≤ b) (hb : 1 ≤ b) : (textOf D).size ≤ b := by
  unfold textOf
  split
  · exact hb
  · simp [ByteArray.size]; exact h
end Go.Proofs.Ytamcibmjpmibdaa
