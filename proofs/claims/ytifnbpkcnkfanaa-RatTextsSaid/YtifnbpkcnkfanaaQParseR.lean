/-
  The reference of layer 5: Parse.
-/
import Derived.Test.YtifnbpkcnkfanaaQTextR
namespace Go.Proofs.Ytifnbpkcnkfanaa
open Go.RowKit
set_option linter.unusedSimpArgs false
set_option linter.unusedVariables false

/-- What the reference's Parse answers. -/
def RetRP (w : World) (L : List Nat) (e : Ending) (w' : World) : Prop :=
  Below w.heap.size w w' ∧ (POk L → e = .returned (.tuple #[QL (PVal L), .int .i64 0])) ∧ (¬ POk L → e = .returned (.tuple #[.agg #[.int .i64 0, .int .i64 0], .int .i64 15]))
theorem RetRP.bad {w w' : World} {L : List Nat} (h : ¬ POk L) (hb : Below w.heap.size w w') : RetRP w L (.returned (.tuple #[.agg #[.int .i64 0, .int .i64 0], .int .i64 15])) w' := ⟨hb, fun h1 => absurd h1 h, fun _ => rfl⟩
theorem pL_ne : ∀ {L : List Nat} {k : Nat}, k < pL L → nth L k ≠ 47
  | [], k, h => by simp [pL] at h
  | b :: L, k, h => by
    rw [pL_cons] at h
    by_cases hb : b = 47
    · rw [if_pos hb] at h; omega
    · rw [if_neg hb] at h
      cases k with
      | zero => simpa [nth] using hb
      | succ k =>
        have := pL_ne (L := L) (k := k) (by omega)
        simpa [nth] using this
theorem pL_eq : ∀ {L : List Nat}, pL L < L.length → nth L (pL L) = 47
  | [], h => by simp at h
  | b :: L, h => by
    rw [pL_cons] at h ⊢
    by_cases hb : b = 47
    · rw [if_pos hb]; simpa [nth] using hb
    · rw [if_neg hb] at h ⊢
      have := pL_eq (L := L) (by simp at h; omega)
      simpa [nth] using this
theorem bytes_one (c : UInt8) : bytesOf ⟨#[c]⟩ = [c.toNat] := by simp [bytesOf, ByteArray.toList_eq]
theorem good_zero {l : List Nat} (h : PGood l) : dw l = 0 ↔ l = [48] := by
  constructor
  · intro h0
    have h1 := good_dT h
    rw [show dv l l.length = 0 from h0] at h1
    rw [← h1]
    have h2 : PGood [48] := (pgB_iff _).1 rfl
    exact good_dT h2
  · rintro rfl; rfl
theorem good_onev {l : List Nat} (h : PGood l) : dw l = 1 ↔ l = [49] := by
  constructor
  · intro h0
    have h1 := good_dT h
    rw [show dv l l.length = 1 from h0] at h1
    rw [← h1]
    have h2 : PGood [49] := (pgB_iff _).1 rfl
    exact good_dT h2
  · rintro rfl; rfl
theorem str_is {s : ByteArray} {c : UInt8} : (s.toList == [c]) = decide (bytesOf s = [c.toNat]) := by
  rw [Bool.eq_iff_iff, beq_iff_eq, decide_eq_true_eq]
  constructor
  · intro h; rw [bytesOf, h]; rfl
  · intro h
    have := bytes_inj (h.trans (bytes_one c).symm)
    rw [this]; simp [ByteArray.toList_eq]
/-- The fraction of a sign and two parts. -/
theorem qv_frac' (neg : Bool) (N M : Nat) (hM : M ≠ 0) (hg : Nat.gcd N M = 1) : (qv neg N M).num = (if neg then -(N : Int) else (N : Int)) ∧ (qv neg N M).den = M := by
  rw [qv_num hM, qv_den hM, hg, Nat.div_one, Nat.div_one]
  exact ⟨rfl, rfl⟩
theorem low_parts (N M : Nat) (hM : M ≠ 0) : (((N : Int) : Rat) / ((M : Int) : Rat)).num = ((N / Nat.gcd N M : Nat) : Int) ∧ (((N : Int) : Rat) / ((M : Int) : Rat)).den = M / Nat.gcd N M := by
  have h := qv_frac (N : Int) (M : Int) (by omega)
  rw [show decide ((N : Int) < 0) = false by simp, show decide ((M : Int) < 0) = false by simp, Int.natAbs_natCast, Int.natAbs_natCast] at h
  rw [← h]
  exact ⟨by rw [show ((false != false) : Bool) = false from rfl, qv_num hM]; rfl, qv_den hM⟩
theorem div_lt_self' {M g : Nat} (hM : M ≠ 0) (hg : g ≠ 1) : M / g ≠ M := by
  rcases Nat.lt_or_ge g 2 with h | h
  · have : g = 0 := by omega
    subst this; rw [Nat.div_zero]; omega
  · have := Nat.div_lt_self (show 0 < M by omega) h; omega

set_option maxRecDepth 100000 in
set_option maxHeartbeats 8000000 in
theorem rp_n_h (s : ByteArray) (hs : s.size ≤ 14) (hn : negL (bytesOf s) = true) (hh : hasL (rL (bytesOf s)) = true) (w : World) : Calls Try.prog 34 #[.string s] w (RetRP w (bytesOf s)) := by
  have hiff := ok_iff (bytesOf s)
  have hpv : PVal (bytesOf s) = qv true (dw (fL (rL (bytesOf s)))) (dw (gL (rL (bytesOf s)))) := by rw [PVal, hn, hh]; rfl
  rw [hn, hh] at hiff
  have hrs := restS_bytes s
  have hl := bytes_length s
  have h0 : 0 < s.size := neg_pos hn
  have hg0 := bytes_get s 0 h0
  have t0 : ((nth (bytesOf s) 0 : Int) == 45) = true := by
    have : nth (bytesOf s) 0 = 45 := by simpa [negL] using hn
    simp [this]
  have hS0 : restS s = s.extract 1 s.size := by rw [restS, if_pos hn]
  have hz : (restS s).size ≤ 14 := by rw [← bytes_length, hrs]; have := rL_length (bytesOf s); omega
  obtain ⟨L, hL⟩ : ∃ L, L = bytesOf s := ⟨_, rfl⟩
  rw [← hL] at hiff hpv hrs hh ⊢
  have hlr := bytes_length (restS s)
  have hF := fS_bytes (restS s); have hG := gS_bytes (restS s)
  rw [hrs] at hF hG hlr
  have eF : fS (restS s) = (restS s).extract 0 (pL (rL L)) := by rw [fS, hrs, hh]; rfl
  have eG : gS (restS s) = (restS s).extract (pL (rL L) + 1) (restS s).size := by rw [gS, hrs, hh]; rfl
  have hfl := fL_length (rL L); have hgl := gL_length (rL L)
  have z1 := fS_size (restS s); have z2 := gS_size (restS s)
  rw [hrs] at z1 z2
  have hget := bytes_get (restS s)
  rw [hrs] at hget
  have hP := has_lt hh
  have h47 := pL_eq hP
  have hne := @pL_ne (rL L)
  have HS0 := Lib.hid hS0; clear hS0
  obtain ⟨R, hR⟩ : ∃ R, R = rL L := ⟨_, rfl⟩
  rw [← hR] at hiff hpv hlr hF hG eF eG hfl hgl z1 z2 hget hP h47 hne
  have hbig : ∀ k, k < R.length → nth R k < 256 := fun k hk => by
    have := bytes_lt (restS s) (nth R k) (by rw [hrs, ← hR]; exact nth_mem hk)
    exact this
  clear hh hn hrs hR hL
  generalize pL R = p at *
  have HIFF := Lib.hid hiff; have HPV := Lib.hid hpv; have HF := Lib.hid hF; have HG := Lib.hid hG; have HEF := Lib.hid eF; have HP := Lib.hid hP; have HNE := Lib.hid (fun k => hne (k := k)); have HGET := Lib.hid hget; have HBIG := Lib.hid hbig; have HLR := Lib.hid hlr
  have HEG := Lib.hid eG; have H47 := Lib.hid h47; clear eG h47
  have HZ := Lib.hid (show (fL R).length ≤ 14 ∧ (gL R).length ≤ 14 by omega)
  clear hiff hpv hF hG eF hP hne hget hbig hlr hfl hgl hl
  go_enter Try.func34, Try.ntmps34
  go_upto_region 5 with (fail)
  have hT := GB.made w 35 (.int .i64 0) (.int .i64 0)
  have hW := al w (.cells #[.int .i64 0, .int .i64 0] 35)
  generalize w.alloc (.cells #[.int .i64 0, .int .i64 0] 35) = w1 at hT hW ⊢
  have T2 := Lib.hid hT; have HW := Lib.hid hW; clear hT hW hg0 t0
  rw [← HS0.out]
  generalize restS s = S0 at *
  clear HS0
  go_wp2_with fail
  go_loopw [5, 6, 7, 8] (fun a b c iv wr => ∃ k : Nat, k ≤ S0.size ∧ iv = .int .i64 k ∧ a = .string S0 ∧ b = .string ⟨#[49]⟩ ∧ c = .bool false ∧ Hid (k ≤ p ∧ w1 = wr)) (fun _ _ _ iv _ => S0.size - (intOf iv).toNat)
  case atStart => exact ⟨0, Nat.zero_le _, rfl, rfl, rfl, rfl, Lib.hid ⟨Nat.zero_le _, rfl⟩⟩
  case round =>
    obtain ⟨k, hk, rfl, rfl, rfl, rfl, HJ⟩ := hrel
    obtain ⟨hkp, hwr⟩ := HJ.out
    have HKP := Lib.hid hkp; clear hkp HJ
    subst hwr
    have hlt : k < S0.size := by have h1 := HKP.out; have h2 := HP.out; have h3 := HLR.out; omega
    by_cases hkp : k < p
    · have HKLT := Lib.hid hkp; clear hkp
      have hgi := HGET.out k hlt
      obtain ⟨b, hb⟩ : ∃ b, b = nth R k := ⟨_, rfl⟩
      rw [← hb] at hgi
      have hb2 : b < 256 := by rw [hb]; exact HBIG.out k (by rw [HLR.out]; exact hlt)
      have hb3 : b ≠ 47 := by rw [hb]; exact HNE.out k HKLT.out
      have tb : ((b : Int) == 47) = false := by simp; omega
      have HK2 := Lib.hid (show k + 1 ≤ p from HKLT.out)
      clear hb hb3
      go_wp2_with fail
      refine ⟨⟨k + 1, by omega, by go_num, rfl, rfl, rfl, Lib.hid ⟨HK2.out, by first | rfl | trivial⟩⟩, by simp [intOf]; omega⟩
    · obtain rfl : k = p := by have := HKP.out; omega
      have hgi := HGET.out k hlt
      obtain ⟨b, hb⟩ : ∃ b, b = nth R k := ⟨_, rfl⟩
      rw [← hb] at hgi
      have hb3 : b = 47 := by rw [hb]; exact H47.out
      have tb : ((b : Int) == 47) = true := by simp [hb3]
      have hb2 : b < 256 := by omega
      clear hb hb3 hkp
      go_upto_region 9 with (fail)
      go_quiet (fail)
      rw [← HEF.out, ← HEG.out]
      clear hgi tb hb2 hlt
      have HWN := Lib.hid (below_drewN HW.out nq)
      have T2N := Lib.hid (T2.out.drewN nq)
      clear HW T2
      generalize w1.drewN nq = w2 at *
      generalize fS S0 = S1 at *
      generalize gS S0 = S2 at *
      have HW := HWN; have T2 := T2N; clear HWN T2N
      have y1 : S1.size ≤ 14 := by have := HZ.out; omega
      have y2 : S2.size ≤ 14 := by have := HZ.out; omega
      have l1 : decide ((1200 : Int) < (S1.size : Int)) = false := by simp; omega
      have l2 : decide ((1200 : Int) < (S2.size : Int)) = false := by simp; omega
      go_upto_region 12 with (fail)
      clear l1 l2
      have r0 := T2.out.c0; have r1 := T2.out.c1; have f0 := T2.out.f0; have f1 := T2.out.f1
      by_cases c1 : PGood (fL R)
      case neg =>
        have p1 : pgB (bytesOf S1) = false := by rw [HF.out]; exact pgB_no c1
        have HBAD := Lib.hid (show ¬ POk L from fun h => c1 (HIFF.out.1 h).1)
        clear c1
        go_wp2_with (go_at_call 56; refine (rdigits_any _ (by first | omega | decide) _).mono ?_; rintro e w9 ⟨rfl, rfl⟩)
        refine bodyPost_ret (v := .tuple #[.agg #[.int .i64 0, .int .i64 0], .int .i64 15]) ?_ rfl (RetRP.bad HBAD.out ((HW.out.setCell (p := ⟨w.heap.size, 0, none⟩) (Nat.le_refl _) _).setCell (p := ⟨w.heap.size, 1, none⟩) (Nat.le_refl _) _))
        exact results_cell_tmp Try.results34 _ _ _ _ _ (0, 0) _ rfl ((T2.out.blk.set_ 0 _).set_ 1 _) Try.underlying35 rfl rfl
      have p1 : pgB (bytesOf S1) = true := by rw [HF.out]; exact (pgB_iff _).2 c1
      have C1 := Lib.hid c1; clear c1
      by_cases c2 : PGood (gL R)
      case neg =>
        have p2 : pgB (bytesOf S2) = false := by rw [HG.out]; exact pgB_no c2
        have HBAD := Lib.hid (show ¬ POk L from fun h => c2 ((HIFF.out.1 h).2.1 (by first | rfl | trivial)).1)
        clear c2
        go_wp2_with (go_at_call 56; refine (rdigits_any _ (by first | omega | decide) _).mono ?_; rintro e w9 ⟨rfl, rfl⟩)
        refine bodyPost_ret (v := .tuple #[.agg #[.int .i64 0, .int .i64 0], .int .i64 15]) ?_ rfl (RetRP.bad HBAD.out ((HW.out.setCell (p := ⟨w.heap.size, 0, none⟩) (Nat.le_refl _) _).setCell (p := ⟨w.heap.size, 1, none⟩) (Nat.le_refl _) _))
        exact results_cell_tmp Try.results34 _ _ _ _ _ (0, 0) _ rfl ((T2.out.blk.set_ 0 _).set_ 1 _) Try.underlying35 rfl rfl
      have p2 : pgB (bytesOf S2) = true := by rw [HG.out]; exact (pgB_iff _).2 c2
      have C2 := Lib.hid c2; clear c2
      by_cases c3 : dw (gL R) = 0
      case pos =>
        have q3 : (S2.toList == [48]) = true := by rw [str_is, HG.out]; exact decide_eq_true ((good_zero C2.out).1 c3)
        have HBAD := Lib.hid (show ¬ POk L from fun h => ((HIFF.out.1 h).2.1 (by first | rfl | trivial)).2.1 c3)
        clear c3
        go_wp2_with (go_at_call 56; refine (rdigits_any _ (by first | omega | decide) _).mono ?_; rintro e w9 ⟨rfl, rfl⟩)
        refine bodyPost_ret (v := .tuple #[.agg #[.int .i64 0, .int .i64 0], .int .i64 15]) ?_ rfl (RetRP.bad HBAD.out ((HW.out.setCell (p := ⟨w.heap.size, 0, none⟩) (Nat.le_refl _) _).setCell (p := ⟨w.heap.size, 1, none⟩) (Nat.le_refl _) _))
        exact results_cell_tmp Try.results34 _ _ _ _ _ (0, 0) _ rfl ((T2.out.blk.set_ 0 _).set_ 1 _) Try.underlying35 rfl rfl
      have q3 : (S2.toList == [48]) = false := by rw [str_is, HG.out]; exact decide_eq_false (fun h => c3 ((good_zero C2.out).2 h))
      have C3 := Lib.hid c3; clear c3
      by_cases c4 : dw (gL R) = 1
      case pos =>
        have q4 : (S2.toList == [49]) = true := by rw [str_is, HG.out]; exact decide_eq_true ((good_onev C2.out).1 c4)
        have HBAD := Lib.hid (show ¬ POk L from fun h => ((HIFF.out.1 h).2.1 (by first | rfl | trivial)).2.2 c4)
        clear c4
        go_wp2_with (go_at_call 56; refine (rdigits_any _ (by first | omega | decide) _).mono ?_; rintro e w9 ⟨rfl, rfl⟩)
        refine bodyPost_ret (v := .tuple #[.agg #[.int .i64 0, .int .i64 0], .int .i64 15]) ?_ rfl (RetRP.bad HBAD.out ((HW.out.setCell (p := ⟨w.heap.size, 0, none⟩) (Nat.le_refl _) _).setCell (p := ⟨w.heap.size, 1, none⟩) (Nat.le_refl _) _))
        exact results_cell_tmp Try.results34 _ _ _ _ _ (0, 0) _ rfl ((T2.out.blk.set_ 0 _).set_ 1 _) Try.underlying35 rfl rfl
      have q4 : (S2.toList == [49]) = false := by rw [str_is, HG.out]; exact decide_eq_false (fun h => c4 ((good_onev C2.out).2 h))
      have C4 := Lib.hid c4; clear c4
      by_cases c5 : dw (fL R) = 0
      case pos =>
        have q5 : (S1.toList == [48]) = true := by rw [str_is, HF.out]; exact decide_eq_true ((good_zero C1.out).1 c5)
        have HBAD := Lib.hid (show ¬ POk L from fun h => (HIFF.out.1 h).2.2.1 (by first | rfl | trivial) c5)
        clear c5
        go_wp2_with (go_at_call 56; refine (rdigits_any _ (by first | omega | decide) _).mono ?_; rintro e w9 ⟨rfl, rfl⟩)
        refine bodyPost_ret (v := .tuple #[.agg #[.int .i64 0, .int .i64 0], .int .i64 15]) ?_ rfl (RetRP.bad HBAD.out ((HW.out.setCell (p := ⟨w.heap.size, 0, none⟩) (Nat.le_refl _) _).setCell (p := ⟨w.heap.size, 1, none⟩) (Nat.le_refl _) _))
        exact results_cell_tmp Try.results34 _ _ _ _ _ (0, 0) _ rfl ((T2.out.blk.set_ 0 _).set_ 1 _) Try.underlying35 rfl rfl
      have q5 : (S1.toList == [48]) = false := by rw [str_is, HF.out]; exact decide_eq_false (fun h => c5 ((good_zero C1.out).2 h))
      have C5 := Lib.hid c5; clear c5
      have g1 : ∀ j, j < S1.size → 48 ≤ nth (bytesOf S1) j ∧ nth (bytesOf S1) j ≤ 57 := by
        rw [HF.out, ← bytes_length, HF.out]; exact C1.out.2.1
      have v1 : dv (bytesOf S1) S1.size = dw (fL R) := by rw [← bytes_length, HF.out]; rfl
      have g2 : ∀ j, j < S2.size → 48 ≤ nth (bytesOf S2) j ∧ nth (bytesOf S2) j ≤ 57 := by
        rw [HG.out, ← bytes_length, HG.out]; exact C2.out.2.1
      have v2 : dv (bytesOf S2) S2.size = dw (gL R) := by rw [← bytes_length, HG.out]; rfl
      have V1 := Lib.hid (fun W => rvalue_any S1 (by omega) g1 W)
      have V2 := Lib.hid (fun W => rvalue_any S2 (by first | omega | decide) g2 W)
      rw [v1] at V1; rw [v2] at V2
      have b1 : dw (fL R) < 10 ^ 14 := by
        have h1 := dv_lt (bs := bytesOf S1) S1.size (fun j hj => (g1 j hj).2)
        rw [v1] at h1; exact Nat.lt_of_lt_of_le h1 (Nat.pow_le_pow_right (by omega) (by omega))
      have b1 : dw (fL R) < 100000000000000 := b1
      have b2 : dw (gL R) < 10 ^ 14 := by
        have h1 := dv_lt (bs := bytesOf S2) S2.size (fun j hj => (g2 j hj).2)
        rw [v2] at h1; exact Nat.lt_of_lt_of_le h1 (Nat.pow_le_pow_right (by omega) (by omega))
      have b2 : dw (gL R) < 100000000000000 := b2
      clear g1 g2 v1 v2
      obtain ⟨M, hM⟩ : ∃ M, M = dw (gL R) := ⟨_, rfl⟩
      have C34 := Lib.hid (show M ≠ 0 ∧ M ≠ 1 from ⟨by rw [hM]; exact C3.out, by rw [hM]; exact C4.out⟩)
      have HOK := Lib.hid (show Nat.gcd (dw (fL R)) M = 1 → POk L from fun h => HIFF.out.2 ⟨C1.out, fun _ => ⟨C2.out, C3.out, C4.out⟩, fun _ => C5.out, fun _ => by rw [← hM]; exact h⟩)
      have HNO := Lib.hid (show Nat.gcd (dw (fL R)) M ≠ 1 → ¬ POk L from fun h h2 => h (by rw [hM]; exact (HIFF.out.1 h2).2.2.2 (by first | rfl | trivial)))
      have HPM := Lib.hid (show PVal L = qv true (dw (fL R)) M by rw [HPV.out, hM])
      rw [← hM] at V2 b2
      clear C3 C4 hM HPV HIFF
      have hM0 : M ≠ 0 := C34.out.1
      generalize dw (fL R) = N at *
      have hlp := low_parts N M (by omega)
      have hlow := rlow_any (w := w2) (N : Int) (M : Nat) (by omega) (by omega) (by omega) (by omega) (by omega)
      generalize ((N : Int) : Rat) / (((M : Nat) : Int) : Rat) = y at hlp hlow
      rw [hlp.1, hlp.2] at hlow
      clear hlp
      by_cases hgc : Nat.gcd N M = 1
      case neg =>
        have HBAD := Lib.hid (HNO.out hgc)
        have hdn := div_lt_self' hM0 hgc
        generalize N / Nat.gcd N M = G1 at *
        generalize M / Nat.gcd N M = G2 at *
        have HLOW := Lib.hid hlow; clear hlow hgc HOK HPM HNO hM0 C34
        have tm : ((G2 : Int) != (M : Int)) = true := by simp; omega
        by_cases hn1 : G1 = N
        all_goals
          have tn : ((G1 : Int) != (N : Int)) = !decide (G1 = N) := by by_cases h : G1 = N <;> simp [h]; try omega
          first | rw [decide_eq_true hn1] at tn | rw [decide_eq_false hn1] at tn
          simp only [Bool.not_true, Bool.not_false] at tn
          clear hn1 hdn
          go_upto_region 15 with (first | (go_at_call 56; refine (rdigits_any _ (by first | omega | decide) _).mono ?_; rintro e w9 ⟨rfl, rfl⟩) | (go_at_call 57; (first | (with_reducible refine (V1.out _).mono ?_) | (with_reducible refine (V2.out _).mono ?_)); rintro e w9 ⟨rfl, rfl⟩))
          go_wp2_with fail
          refine HLOW.out.mono ?_
          rintro e w5 ⟨rfl, hb⟩
          replace T2 := Lib.hid (T2.out.new hb)
          replace HW := Lib.hid (bthen HW.out hb HW.out.size)
          clear r0 r1 f0 f1 hb
          have r0 := T2.out.c0; have r1 := T2.out.c1; have f0 := T2.out.f0; have f1 := T2.out.f1
          have lt2 := T2.out.lt
          go_wp2_with fail
          refine bodyPost_ret (v := .tuple #[.agg #[.int .i64 0, .int .i64 0], .int .i64 15]) ?_ rfl (RetRP.bad HBAD.out (((HW.out.setCell (p := ⟨w.heap.size, 0, none⟩) (Nat.le_refl _) _).setCell (p := ⟨w.heap.size, 1, none⟩) (Nat.le_refl _) _).alloc (by rw [size_setCell, size_setCell]; exact HW.out.size) _))
          exact results_cell_tmp Try.results34 _ _ _ _ _ (0, 0) _ rfl (((T2.out.blk.set_ 0 _).set_ 1 _).alloc _) Try.underlying35 rfl rfl
      have HV := Lib.hid (qv_frac' true N M (by omega) hgc)
      have HVL := Lib.hid (show QL (PVal L) = .agg #[.int .i64 (-(N : Int)), .int .i64 ((M : Nat) : Int)] by rw [QL, HPM.out, HV.out.1, HV.out.2]; rfl)
      have HOK2 := Lib.hid (HOK.out hgc)
      rw [hgc, Nat.div_one, Nat.div_one] at hlow
      have HLOW := Lib.hid hlow; clear hlow hgc HOK HV HPM HNO hM0 C34
      have tn : ((N : Int) != (N : Int)) = false := by simp
      have tm : ((M : Int) != (M : Int)) = false := by simp
      go_upto_region 15 with (first | (go_at_call 56; refine (rdigits_any _ (by first | omega | decide) _).mono ?_; rintro e w9 ⟨rfl, rfl⟩) | (go_at_call 57; (first | (with_reducible refine (V1.out _).mono ?_) | (with_reducible refine (V2.out _).mono ?_)); rintro e w9 ⟨rfl, rfl⟩))
      go_wp2_with fail
      refine HLOW.out.mono ?_
      rintro e w5 ⟨rfl, hb⟩
      replace T2 := Lib.hid (T2.out.new hb)
      replace HW := Lib.hid (bthen HW.out hb HW.out.size)
      clear r0 r1 f0 f1 hb
      have r0 := T2.out.c0; have r1 := T2.out.c1; have f0 := T2.out.f0; have f1 := T2.out.f1
      have lt2 := T2.out.lt
      go_wp2_with fail
      refine bodyPost_ret (v := .tuple #[.agg #[.int .i64 (-(N : Int)), .int .i64 (M : Int)], .int .i64 0]) ?_ rfl ⟨((HW.out.setCell (p := ⟨w.heap.size, 0, none⟩) (Nat.le_refl _) _).setCell (p := ⟨w.heap.size, 1, none⟩) (Nat.le_refl _) _).alloc (by rw [size_setCell, size_setCell]; exact HW.out.size) _, fun _ => by rw [HVL.out] <;> rfl, fun h => absurd HOK2.out h⟩
      exact results_cell_tmp Try.results34 _ _ _ _ _ (0, 0) _ rfl (((T2.out.blk.set_ 0 _).set_ 1 _).alloc _) Try.underlying35 rfl rfl
set_option maxRecDepth 100000 in
set_option maxHeartbeats 8000000 in
theorem rp_n_o (s : ByteArray) (hs : s.size ≤ 14) (hn : negL (bytesOf s) = true) (hh : hasL (rL (bytesOf s)) = false) (w : World) : Calls Try.prog 34 #[.string s] w (RetRP w (bytesOf s)) := by
  have hiff := ok_iff (bytesOf s)
  have hpv : PVal (bytesOf s) = qv true (dw (fL (rL (bytesOf s)))) 0 := by rw [PVal, hn, hh]; rfl
  rw [hn, hh] at hiff
  have hrs := restS_bytes s
  have hl := bytes_length s
  have h0 : 0 < s.size := neg_pos hn
  have hg0 := bytes_get s 0 h0
  have t0 : ((nth (bytesOf s) 0 : Int) == 45) = true := by
    have : nth (bytesOf s) 0 = 45 := by simpa [negL] using hn
    simp [this]
  have hS0 : restS s = s.extract 1 s.size := by rw [restS, if_pos hn]
  have hz : (restS s).size ≤ 14 := by rw [← bytes_length, hrs]; have := rL_length (bytesOf s); omega
  obtain ⟨L, hL⟩ : ∃ L, L = bytesOf s := ⟨_, rfl⟩
  rw [← hL] at hiff hpv hrs hh ⊢
  have hlr := bytes_length (restS s)
  have hF := fS_bytes (restS s); have hG := gS_bytes (restS s)
  rw [hrs] at hF hG hlr
  have eF : fS (restS s) = restS s := by rw [fS, hrs, hh]; rfl
  have hfl := fL_length (rL L); have hgl := gL_length (rL L)
  have z1 := fS_size (restS s); have z2 := gS_size (restS s)
  rw [hrs] at z1 z2
  have hget := bytes_get (restS s)
  rw [hrs] at hget
  have hP := (show pL (rL L) = (rL L).length by have := pL_le (rL L); have h2 : ¬ pL (rL L) < (rL L).length := fun h => (by rw [hasL, decide_eq_true h] at hh; cases hh); omega)
  have hne := @pL_ne (rL L)
  have HS0 := Lib.hid hS0; clear hS0
  obtain ⟨R, hR⟩ : ∃ R, R = rL L := ⟨_, rfl⟩
  rw [← hR] at hiff hpv hlr hF hG hfl hgl z1 z2 hget hP hne
  have hbig : ∀ k, k < R.length → nth R k < 256 := fun k hk => by
    have := bytes_lt (restS s) (nth R k) (by rw [hrs, ← hR]; exact nth_mem hk)
    exact this
  clear hh hn hrs hR hL
  generalize pL R = p at *
  have HIFF := Lib.hid hiff; have HPV := Lib.hid hpv; have HF := Lib.hid hF; have HG := Lib.hid hG; have HEF := Lib.hid eF; have HP := Lib.hid hP; have HNE := Lib.hid (fun k => hne (k := k)); have HGET := Lib.hid hget; have HBIG := Lib.hid hbig; have HLR := Lib.hid hlr
  have HZ := Lib.hid (show (fL R).length ≤ 14 ∧ (gL R).length ≤ 14 by omega)
  clear hiff hpv hF hG eF hP hne hget hbig hlr hfl hgl hl
  go_enter Try.func34, Try.ntmps34
  go_upto_region 5 with (fail)
  have hT := GB.made w 35 (.int .i64 0) (.int .i64 0)
  have hW := al w (.cells #[.int .i64 0, .int .i64 0] 35)
  generalize w.alloc (.cells #[.int .i64 0, .int .i64 0] 35) = w1 at hT hW ⊢
  have T2 := Lib.hid hT; have HW := Lib.hid hW; clear hT hW hg0 t0
  rw [← HS0.out]
  generalize restS s = S0 at *
  clear HS0
  go_wp2_with fail
  go_loopw [5, 6, 7, 8] (fun a b c iv wr => ∃ k : Nat, k ≤ S0.size ∧ iv = .int .i64 k ∧ a = .string S0 ∧ b = .string ⟨#[49]⟩ ∧ c = .bool false ∧ Hid (k ≤ p ∧ w1 = wr)) (fun _ _ _ iv _ => S0.size - (intOf iv).toNat)
  case atStart => exact ⟨0, Nat.zero_le _, rfl, rfl, rfl, rfl, Lib.hid ⟨Nat.zero_le _, rfl⟩⟩
  case round =>
    obtain ⟨k, hk, rfl, rfl, rfl, rfl, HJ⟩ := hrel
    obtain ⟨hkp, hwr⟩ := HJ.out
    have HKP := Lib.hid hkp; clear hkp HJ
    subst hwr
    by_cases hlt : k < S0.size
    · have HKLT := Lib.hid (show k < p by rw [HP.out, HLR.out]; exact hlt)
      have hgi := HGET.out k hlt
      obtain ⟨b, hb⟩ : ∃ b, b = nth R k := ⟨_, rfl⟩
      rw [← hb] at hgi
      have hb2 : b < 256 := by rw [hb]; exact HBIG.out k (by rw [HLR.out]; exact hlt)
      have hb3 : b ≠ 47 := by rw [hb]; exact HNE.out k HKLT.out
      have tb : ((b : Int) == 47) = false := by simp; omega
      have HK2 := Lib.hid (show k + 1 ≤ p from HKLT.out)
      clear hb hb3
      go_wp2_with fail
      refine ⟨⟨k + 1, by omega, by go_num, rfl, rfl, rfl, Lib.hid ⟨HK2.out, by first | rfl | trivial⟩⟩, by simp [intOf]; omega⟩
    · obtain rfl : k = S0.size := by omega
      have q1 : fS S0 = S0 := HEF.out
      replace HF := Lib.hid (show bytesOf S0 = fL R by have := HF.out; rw [q1] at this; exact this)
      clear q1
      have y1 : S0.size ≤ 14 := by omega
      have l1 : decide ((1200 : Int) < (S0.size : Int)) = false := by simp; omega
      go_upto_region 12 with (fail)
      clear l1
      have r0 := T2.out.c0; have r1 := T2.out.c1; have f0 := T2.out.f0; have f1 := T2.out.f1
      by_cases c1 : PGood (fL R)
      case neg =>
        have p1 : pgB (bytesOf S0) = false := by rw [HF.out]; exact pgB_no c1
        have HBAD := Lib.hid (show ¬ POk L from fun h => c1 (HIFF.out.1 h).1)
        clear c1
        go_wp2_with (go_at_call 56; refine (rdigits_any _ (by first | omega | decide) _).mono ?_; rintro e w9 ⟨rfl, rfl⟩)
        refine bodyPost_ret (v := .tuple #[.agg #[.int .i64 0, .int .i64 0], .int .i64 15]) ?_ rfl (RetRP.bad HBAD.out ((HW.out.setCell (p := ⟨w.heap.size, 0, none⟩) (Nat.le_refl _) _).setCell (p := ⟨w.heap.size, 1, none⟩) (Nat.le_refl _) _))
        exact results_cell_tmp Try.results34 _ _ _ _ _ (0, 0) _ rfl ((T2.out.blk.set_ 0 _).set_ 1 _) Try.underlying35 rfl rfl
      have p1 : pgB (bytesOf S0) = true := by rw [HF.out]; exact (pgB_iff _).2 c1
      have C1 := Lib.hid c1; clear c1
      have p2 : pgB (bytesOf ⟨#[49]⟩) = true := by rw [bytes_one]; rfl
      have q3 : ((ByteArray.mk #[49]).toList == [48]) = false := by rw [str_is, bytes_one]; rfl
      by_cases c5 : dw (fL R) = 0
      case pos =>
        have q5 : (S0.toList == [48]) = true := by rw [str_is, HF.out]; exact decide_eq_true ((good_zero C1.out).1 c5)
        have HBAD := Lib.hid (show ¬ POk L from fun h => (HIFF.out.1 h).2.2.1 (by first | rfl | trivial) c5)
        clear c5
        go_wp2_with (go_at_call 56; refine (rdigits_any _ (by first | omega | decide) _).mono ?_; rintro e w9 ⟨rfl, rfl⟩)
        refine bodyPost_ret (v := .tuple #[.agg #[.int .i64 0, .int .i64 0], .int .i64 15]) ?_ rfl (RetRP.bad HBAD.out ((HW.out.setCell (p := ⟨w.heap.size, 0, none⟩) (Nat.le_refl _) _).setCell (p := ⟨w.heap.size, 1, none⟩) (Nat.le_refl _) _))
        exact results_cell_tmp Try.results34 _ _ _ _ _ (0, 0) _ rfl ((T2.out.blk.set_ 0 _).set_ 1 _) Try.underlying35 rfl rfl
      have q5 : (S0.toList == [48]) = false := by rw [str_is, HF.out]; exact decide_eq_false (fun h => c5 ((good_zero C1.out).2 h))
      have C5 := Lib.hid c5; clear c5
      have g1 : ∀ j, j < S0.size → 48 ≤ nth (bytesOf S0) j ∧ nth (bytesOf S0) j ≤ 57 := by
        rw [HF.out, ← bytes_length, HF.out]; exact C1.out.2.1
      have v1 : dv (bytesOf S0) S0.size = dw (fL R) := by rw [← bytes_length, HF.out]; rfl
      have g2 : ∀ j, j < (ByteArray.mk #[49]).size → 48 ≤ nth (bytesOf ⟨#[49]⟩) j ∧ nth (bytesOf ⟨#[49]⟩) j ≤ 57 := by
        rw [bytes_one]; intro j hj; obtain rfl : j = 0 := by have : (ByteArray.mk #[49]).size = 1 := rfl
                                                             omega
        simp [nth]
      have v2 : dv (bytesOf ⟨#[49]⟩) (ByteArray.mk #[49]).size = 1 := by rw [bytes_one]; rfl
      have V1 := Lib.hid (fun W => rvalue_any S0 (by omega) g1 W)
      have V2 := Lib.hid (fun W => rvalue_any (ByteArray.mk #[49]) (by first | omega | decide) g2 W)
      rw [v1] at V1; rw [v2] at V2
      have b1 : dw (fL R) < 10 ^ 14 := by
        have h1 := dv_lt (bs := bytesOf S0) S0.size (fun j hj => (g1 j hj).2)
        rw [v1] at h1; exact Nat.lt_of_lt_of_le h1 (Nat.pow_le_pow_right (by omega) (by omega))
      have b1 : dw (fL R) < 100000000000000 := b1
      clear g1 g2 v1 v2
      have HOK := Lib.hid (show Nat.gcd (dw (fL R)) 1 = 1 → POk L from fun _ => HIFF.out.2 ⟨C1.out, fun h => by (cases h), fun _ => C5.out, (fun h => by cases h)⟩)
      have HPM := Lib.hid (show PVal L = qv true (dw (fL R)) 1 by rw [HPV.out, qv_den0])
      clear HPV HIFF
      generalize dw (fL R) = N at *
      have hlp := low_parts N 1 (by omega)
      have hlow := rlow_any (w := w1) (N : Int) (1 : Nat) (by omega) (by omega) (by omega) (by omega) (by omega)
      generalize ((N : Int) : Rat) / (((1 : Nat) : Int) : Rat) = y at hlp hlow
      rw [hlp.1, hlp.2] at hlow
      clear hlp
      have hgc : Nat.gcd N 1 = 1 := Nat.gcd_one_right N
      have HV := Lib.hid (qv_frac' true N 1 (by omega) hgc)
      have HVL := Lib.hid (show QL (PVal L) = .agg #[.int .i64 (-(N : Int)), .int .i64 ((1 : Nat) : Int)] by rw [QL, HPM.out, HV.out.1, HV.out.2]; rfl)
      have HOK2 := Lib.hid (HOK.out hgc)
      rw [hgc, Nat.div_one, Nat.div_one] at hlow
      have HLOW := Lib.hid hlow; clear hlow hgc HOK HV HPM
      have tn : ((N : Int) != (N : Int)) = false := by simp
      go_upto_region 15 with (first | (go_at_call 56; refine (rdigits_any _ (by first | omega | decide) _).mono ?_; rintro e w9 ⟨rfl, rfl⟩) | (go_at_call 57; (first | (with_reducible refine (V1.out _).mono ?_) | (with_reducible refine (V2.out _).mono ?_)); rintro e w9 ⟨rfl, rfl⟩))
      go_wp2_with fail
      refine HLOW.out.mono ?_
      rintro e w5 ⟨rfl, hb⟩
      replace T2 := Lib.hid (T2.out.new hb)
      replace HW := Lib.hid (bthen HW.out hb HW.out.size)
      clear r0 r1 f0 f1 hb
      have r0 := T2.out.c0; have r1 := T2.out.c1; have f0 := T2.out.f0; have f1 := T2.out.f1
      have lt2 := T2.out.lt
      go_wp2_with fail
      refine bodyPost_ret (v := .tuple #[.agg #[.int .i64 (-(N : Int)), .int .i64 1], .int .i64 0]) ?_ rfl ⟨((HW.out.setCell (p := ⟨w.heap.size, 0, none⟩) (Nat.le_refl _) _).setCell (p := ⟨w.heap.size, 1, none⟩) (Nat.le_refl _) _).alloc (by rw [size_setCell, size_setCell]; exact HW.out.size) _, fun _ => by rw [HVL.out] <;> rfl, fun h => absurd HOK2.out h⟩
      exact results_cell_tmp Try.results34 _ _ _ _ _ (0, 0) _ rfl (((T2.out.blk.set_ 0 _).set_ 1 _).alloc _) Try.underlying35 rfl rfl
set_option maxRecDepth 100000 in
set_option maxHeartbeats 8000000 in
theorem rp_p_h (S0 : ByteArray) (hs : S0.size ≤ 14) (hn : negL (bytesOf S0) = false) (hh : hasL (rL (bytesOf S0)) = true) (h0 : 0 < S0.size) (w : World) : Calls Try.prog 34 #[.string S0] w (RetRP w (bytesOf S0)) := by
  have hiff := ok_iff (bytesOf S0)
  have hpv : PVal (bytesOf S0) = qv false (dw (fL (rL (bytesOf S0)))) (dw (gL (rL (bytesOf S0)))) := by rw [PVal, hn, hh]; rfl
  rw [hn, hh] at hiff
  have hrs := restS_bytes S0
  have hl := bytes_length S0
  have hg0 := bytes_get S0 0 h0
  have t0 : ((nth (bytesOf S0) 0 : Int) == 45) = false := by
    have : nth (bytesOf S0) 0 ≠ 45 := by simpa [negL] using hn
    simp; omega
  have hS0 : restS S0 = S0 := by rw [restS, hn]; rfl
  have hz : (restS S0).size ≤ 14 := by rw [← bytes_length, hrs]; have := rL_length (bytesOf S0); omega
  obtain ⟨L, hL⟩ : ∃ L, L = bytesOf S0 := ⟨_, rfl⟩
  rw [← hL] at hiff hpv hrs hh ⊢
  have hlr := bytes_length (restS S0)
  have hF := fS_bytes (restS S0); have hG := gS_bytes (restS S0)
  rw [hrs] at hF hG hlr
  have eF : fS (restS S0) = (restS S0).extract 0 (pL (rL L)) := by rw [fS, hrs, hh]; rfl
  have eG : gS (restS S0) = (restS S0).extract (pL (rL L) + 1) (restS S0).size := by rw [gS, hrs, hh]; rfl
  have hfl := fL_length (rL L); have hgl := gL_length (rL L)
  have z1 := fS_size (restS S0); have z2 := gS_size (restS S0)
  rw [hrs] at z1 z2
  have hget := bytes_get (restS S0)
  rw [hrs] at hget
  have hP := has_lt hh
  have h47 := pL_eq hP
  have hne := @pL_ne (rL L)
  rw [hS0] at hz hlr hF hG eF eG z1 z2 hget hrs; clear hS0
  obtain ⟨R, hR⟩ : ∃ R, R = rL L := ⟨_, rfl⟩
  rw [← hR] at hiff hpv hlr hF hG eF eG hfl hgl z1 z2 hget hP h47 hne
  have hbig : ∀ k, k < R.length → nth R k < 256 := fun k hk => by
    have := bytes_lt (S0) (nth R k) (by rw [hrs, ← hR]; exact nth_mem hk)
    exact this
  clear hh hn hrs hR hL
  generalize pL R = p at *
  have HIFF := Lib.hid hiff; have HPV := Lib.hid hpv; have HF := Lib.hid hF; have HG := Lib.hid hG; have HEF := Lib.hid eF; have HP := Lib.hid hP; have HNE := Lib.hid (fun k => hne (k := k)); have HGET := Lib.hid hget; have HBIG := Lib.hid hbig; have HLR := Lib.hid hlr
  have HEG := Lib.hid eG; have H47 := Lib.hid h47; clear eG h47
  have HZ := Lib.hid (show (fL R).length ≤ 14 ∧ (gL R).length ≤ 14 by omega)
  clear hiff hpv hF hG eF hP hne hget hbig hlr hfl hgl hl
  go_enter Try.func34, Try.ntmps34
  go_upto_region 5 with (fail)
  have hT := GB.made w 35 (.int .i64 0) (.int .i64 0)
  have hW := al w (.cells #[.int .i64 0, .int .i64 0] 35)
  generalize w.alloc (.cells #[.int .i64 0, .int .i64 0] 35) = w1 at hT hW ⊢
  have T2 := Lib.hid hT; have HW := Lib.hid hW; clear hT hW hg0 t0
  go_wp2_with fail
  go_loopw [5, 6, 7, 8] (fun a b c iv wr => ∃ k : Nat, k ≤ S0.size ∧ iv = .int .i64 k ∧ a = .string S0 ∧ b = .string ⟨#[49]⟩ ∧ c = .bool false ∧ Hid (k ≤ p ∧ w1 = wr)) (fun _ _ _ iv _ => S0.size - (intOf iv).toNat)
  case atStart => exact ⟨0, Nat.zero_le _, rfl, rfl, rfl, rfl, Lib.hid ⟨Nat.zero_le _, rfl⟩⟩
  case round =>
    obtain ⟨k, hk, rfl, rfl, rfl, rfl, HJ⟩ := hrel
    obtain ⟨hkp, hwr⟩ := HJ.out
    have HKP := Lib.hid hkp; clear hkp HJ
    subst hwr
    have hlt : k < S0.size := by have h1 := HKP.out; have h2 := HP.out; have h3 := HLR.out; omega
    by_cases hkp : k < p
    · have HKLT := Lib.hid hkp; clear hkp
      have hgi := HGET.out k hlt
      obtain ⟨b, hb⟩ : ∃ b, b = nth R k := ⟨_, rfl⟩
      rw [← hb] at hgi
      have hb2 : b < 256 := by rw [hb]; exact HBIG.out k (by rw [HLR.out]; exact hlt)
      have hb3 : b ≠ 47 := by rw [hb]; exact HNE.out k HKLT.out
      have tb : ((b : Int) == 47) = false := by simp; omega
      have HK2 := Lib.hid (show k + 1 ≤ p from HKLT.out)
      clear hb hb3
      go_wp2_with fail
      refine ⟨⟨k + 1, by omega, by go_num, rfl, rfl, rfl, Lib.hid ⟨HK2.out, by first | rfl | trivial⟩⟩, by simp [intOf]; omega⟩
    · obtain rfl : k = p := by have := HKP.out; omega
      have hgi := HGET.out k hlt
      obtain ⟨b, hb⟩ : ∃ b, b = nth R k := ⟨_, rfl⟩
      rw [← hb] at hgi
      have hb3 : b = 47 := by rw [hb]; exact H47.out
      have tb : ((b : Int) == 47) = true := by simp [hb3]
      have hb2 : b < 256 := by omega
      clear hb hb3 hkp
      go_upto_region 9 with (fail)
      go_quiet (fail)
      rw [← HEF.out, ← HEG.out]
      clear hgi tb hb2 hlt
      have HWN := Lib.hid (below_drewN HW.out nq)
      have T2N := Lib.hid (T2.out.drewN nq)
      clear HW T2
      generalize w1.drewN nq = w2 at *
      generalize fS S0 = S1 at *
      generalize gS S0 = S2 at *
      have HW := HWN; have T2 := T2N; clear HWN T2N
      have y1 : S1.size ≤ 14 := by have := HZ.out; omega
      have y2 : S2.size ≤ 14 := by have := HZ.out; omega
      have l1 : decide ((1200 : Int) < (S1.size : Int)) = false := by simp; omega
      have l2 : decide ((1200 : Int) < (S2.size : Int)) = false := by simp; omega
      go_upto_region 12 with (fail)
      clear l1 l2
      have r0 := T2.out.c0; have r1 := T2.out.c1; have f0 := T2.out.f0; have f1 := T2.out.f1
      by_cases c1 : PGood (fL R)
      case neg =>
        have p1 : pgB (bytesOf S1) = false := by rw [HF.out]; exact pgB_no c1
        have HBAD := Lib.hid (show ¬ POk L from fun h => c1 (HIFF.out.1 h).1)
        clear c1
        go_wp2_with (go_at_call 56; refine (rdigits_any _ (by first | omega | decide) _).mono ?_; rintro e w9 ⟨rfl, rfl⟩)
        refine bodyPost_ret (v := .tuple #[.agg #[.int .i64 0, .int .i64 0], .int .i64 15]) ?_ rfl (RetRP.bad HBAD.out ((HW.out.setCell (p := ⟨w.heap.size, 0, none⟩) (Nat.le_refl _) _).setCell (p := ⟨w.heap.size, 1, none⟩) (Nat.le_refl _) _))
        exact results_cell_tmp Try.results34 _ _ _ _ _ (0, 0) _ rfl ((T2.out.blk.set_ 0 _).set_ 1 _) Try.underlying35 rfl rfl
      have p1 : pgB (bytesOf S1) = true := by rw [HF.out]; exact (pgB_iff _).2 c1
      have C1 := Lib.hid c1; clear c1
      by_cases c2 : PGood (gL R)
      case neg =>
        have p2 : pgB (bytesOf S2) = false := by rw [HG.out]; exact pgB_no c2
        have HBAD := Lib.hid (show ¬ POk L from fun h => c2 ((HIFF.out.1 h).2.1 (by first | rfl | trivial)).1)
        clear c2
        go_wp2_with (go_at_call 56; refine (rdigits_any _ (by first | omega | decide) _).mono ?_; rintro e w9 ⟨rfl, rfl⟩)
        refine bodyPost_ret (v := .tuple #[.agg #[.int .i64 0, .int .i64 0], .int .i64 15]) ?_ rfl (RetRP.bad HBAD.out ((HW.out.setCell (p := ⟨w.heap.size, 0, none⟩) (Nat.le_refl _) _).setCell (p := ⟨w.heap.size, 1, none⟩) (Nat.le_refl _) _))
        exact results_cell_tmp Try.results34 _ _ _ _ _ (0, 0) _ rfl ((T2.out.blk.set_ 0 _).set_ 1 _) Try.underlying35 rfl rfl
      have p2 : pgB (bytesOf S2) = true := by rw [HG.out]; exact (pgB_iff _).2 c2
      have C2 := Lib.hid c2; clear c2
      by_cases c3 : dw (gL R) = 0
      case pos =>
        have q3 : (S2.toList == [48]) = true := by rw [str_is, HG.out]; exact decide_eq_true ((good_zero C2.out).1 c3)
        have HBAD := Lib.hid (show ¬ POk L from fun h => ((HIFF.out.1 h).2.1 (by first | rfl | trivial)).2.1 c3)
        clear c3
        go_wp2_with (go_at_call 56; refine (rdigits_any _ (by first | omega | decide) _).mono ?_; rintro e w9 ⟨rfl, rfl⟩)
        refine bodyPost_ret (v := .tuple #[.agg #[.int .i64 0, .int .i64 0], .int .i64 15]) ?_ rfl (RetRP.bad HBAD.out ((HW.out.setCell (p := ⟨w.heap.size, 0, none⟩) (Nat.le_refl _) _).setCell (p := ⟨w.heap.size, 1, none⟩) (Nat.le_refl _) _))
        exact results_cell_tmp Try.results34 _ _ _ _ _ (0, 0) _ rfl ((T2.out.blk.set_ 0 _).set_ 1 _) Try.underlying35 rfl rfl
      have q3 : (S2.toList == [48]) = false := by rw [str_is, HG.out]; exact decide_eq_false (fun h => c3 ((good_zero C2.out).2 h))
      have C3 := Lib.hid c3; clear c3
      by_cases c4 : dw (gL R) = 1
      case pos =>
        have q4 : (S2.toList == [49]) = true := by rw [str_is, HG.out]; exact decide_eq_true ((good_onev C2.out).1 c4)
        have HBAD := Lib.hid (show ¬ POk L from fun h => ((HIFF.out.1 h).2.1 (by first | rfl | trivial)).2.2 c4)
        clear c4
        go_wp2_with (go_at_call 56; refine (rdigits_any _ (by first | omega | decide) _).mono ?_; rintro e w9 ⟨rfl, rfl⟩)
        refine bodyPost_ret (v := .tuple #[.agg #[.int .i64 0, .int .i64 0], .int .i64 15]) ?_ rfl (RetRP.bad HBAD.out ((HW.out.setCell (p := ⟨w.heap.size, 0, none⟩) (Nat.le_refl _) _).setCell (p := ⟨w.heap.size, 1, none⟩) (Nat.le_refl _) _))
        exact results_cell_tmp Try.results34 _ _ _ _ _ (0, 0) _ rfl ((T2.out.blk.set_ 0 _).set_ 1 _) Try.underlying35 rfl rfl
      have q4 : (S2.toList == [49]) = false := by rw [str_is, HG.out]; exact decide_eq_false (fun h => c4 ((good_onev C2.out).2 h))
      have C4 := Lib.hid c4; clear c4
      have g1 : ∀ j, j < S1.size → 48 ≤ nth (bytesOf S1) j ∧ nth (bytesOf S1) j ≤ 57 := by
        rw [HF.out, ← bytes_length, HF.out]; exact C1.out.2.1
      have v1 : dv (bytesOf S1) S1.size = dw (fL R) := by rw [← bytes_length, HF.out]; rfl
      have g2 : ∀ j, j < S2.size → 48 ≤ nth (bytesOf S2) j ∧ nth (bytesOf S2) j ≤ 57 := by
        rw [HG.out, ← bytes_length, HG.out]; exact C2.out.2.1
      have v2 : dv (bytesOf S2) S2.size = dw (gL R) := by rw [← bytes_length, HG.out]; rfl
      have V1 := Lib.hid (fun W => rvalue_any S1 (by omega) g1 W)
      have V2 := Lib.hid (fun W => rvalue_any S2 (by first | omega | decide) g2 W)
      rw [v1] at V1; rw [v2] at V2
      have b1 : dw (fL R) < 10 ^ 14 := by
        have h1 := dv_lt (bs := bytesOf S1) S1.size (fun j hj => (g1 j hj).2)
        rw [v1] at h1; exact Nat.lt_of_lt_of_le h1 (Nat.pow_le_pow_right (by omega) (by omega))
      have b1 : dw (fL R) < 100000000000000 := b1
      have b2 : dw (gL R) < 10 ^ 14 := by
        have h1 := dv_lt (bs := bytesOf S2) S2.size (fun j hj => (g2 j hj).2)
        rw [v2] at h1; exact Nat.lt_of_lt_of_le h1 (Nat.pow_le_pow_right (by omega) (by omega))
      have b2 : dw (gL R) < 100000000000000 := b2
      clear g1 g2 v1 v2
      obtain ⟨M, hM⟩ : ∃ M, M = dw (gL R) := ⟨_, rfl⟩
      have C34 := Lib.hid (show M ≠ 0 ∧ M ≠ 1 from ⟨by rw [hM]; exact C3.out, by rw [hM]; exact C4.out⟩)
      have HOK := Lib.hid (show Nat.gcd (dw (fL R)) M = 1 → POk L from fun h => HIFF.out.2 ⟨C1.out, fun _ => ⟨C2.out, C3.out, C4.out⟩, (fun h => by cases h), fun _ => by rw [← hM]; exact h⟩)
      have HNO := Lib.hid (show Nat.gcd (dw (fL R)) M ≠ 1 → ¬ POk L from fun h h2 => h (by rw [hM]; exact (HIFF.out.1 h2).2.2.2 (by first | rfl | trivial)))
      have HPM := Lib.hid (show PVal L = qv false (dw (fL R)) M by rw [HPV.out, hM])
      rw [← hM] at V2 b2
      clear C3 C4 hM HPV HIFF
      have hM0 : M ≠ 0 := C34.out.1
      generalize dw (fL R) = N at *
      have hlp := low_parts N M (by omega)
      have hlow := rlow_any (w := w2) (N : Int) (M : Nat) (by omega) (by omega) (by omega) (by omega) (by omega)
      generalize ((N : Int) : Rat) / (((M : Nat) : Int) : Rat) = y at hlp hlow
      rw [hlp.1, hlp.2] at hlow
      clear hlp
      by_cases hgc : Nat.gcd N M = 1
      case neg =>
        have HBAD := Lib.hid (HNO.out hgc)
        have hdn := div_lt_self' hM0 hgc
        generalize N / Nat.gcd N M = G1 at *
        generalize M / Nat.gcd N M = G2 at *
        have HLOW := Lib.hid hlow; clear hlow hgc HOK HPM HNO hM0 C34
        have tm : ((G2 : Int) != (M : Int)) = true := by simp; omega
        by_cases hn1 : G1 = N
        all_goals
          have tn : ((G1 : Int) != (N : Int)) = !decide (G1 = N) := by by_cases h : G1 = N <;> simp [h]; try omega
          first | rw [decide_eq_true hn1] at tn | rw [decide_eq_false hn1] at tn
          simp only [Bool.not_true, Bool.not_false] at tn
          clear hn1 hdn
          go_upto_region 15 with (first | (go_at_call 56; refine (rdigits_any _ (by first | omega | decide) _).mono ?_; rintro e w9 ⟨rfl, rfl⟩) | (go_at_call 57; (first | (with_reducible refine (V1.out _).mono ?_) | (with_reducible refine (V2.out _).mono ?_)); rintro e w9 ⟨rfl, rfl⟩))
          go_wp2_with fail
          refine HLOW.out.mono ?_
          rintro e w5 ⟨rfl, hb⟩
          replace T2 := Lib.hid (T2.out.new hb)
          replace HW := Lib.hid (bthen HW.out hb HW.out.size)
          clear r0 r1 f0 f1 hb
          have r0 := T2.out.c0; have r1 := T2.out.c1; have f0 := T2.out.f0; have f1 := T2.out.f1
          have lt2 := T2.out.lt
          go_wp2_with fail
          refine bodyPost_ret (v := .tuple #[.agg #[.int .i64 0, .int .i64 0], .int .i64 15]) ?_ rfl (RetRP.bad HBAD.out (((HW.out.setCell (p := ⟨w.heap.size, 0, none⟩) (Nat.le_refl _) _).setCell (p := ⟨w.heap.size, 1, none⟩) (Nat.le_refl _) _).alloc (by rw [size_setCell, size_setCell]; exact HW.out.size) _))
          exact results_cell_tmp Try.results34 _ _ _ _ _ (0, 0) _ rfl (((T2.out.blk.set_ 0 _).set_ 1 _).alloc _) Try.underlying35 rfl rfl
      have HV := Lib.hid (qv_frac' false N M (by omega) hgc)
      have HVL := Lib.hid (show QL (PVal L) = .agg #[.int .i64 ((N : Int)), .int .i64 ((M : Nat) : Int)] by rw [QL, HPM.out, HV.out.1, HV.out.2]; rfl)
      have HOK2 := Lib.hid (HOK.out hgc)
      rw [hgc, Nat.div_one, Nat.div_one] at hlow
      have HLOW := Lib.hid hlow; clear hlow hgc HOK HV HPM HNO hM0 C34
      have tn : ((N : Int) != (N : Int)) = false := by simp
      have tm : ((M : Int) != (M : Int)) = false := by simp
      go_upto_region 15 with (first | (go_at_call 56; refine (rdigits_any _ (by first | omega | decide) _).mono ?_; rintro e w9 ⟨rfl, rfl⟩) | (go_at_call 57; (first | (with_reducible refine (V1.out _).mono ?_) | (with_reducible refine (V2.out _).mono ?_)); rintro e w9 ⟨rfl, rfl⟩))
      go_wp2_with fail
      refine HLOW.out.mono ?_
      rintro e w5 ⟨rfl, hb⟩
      replace T2 := Lib.hid (T2.out.new hb)
      replace HW := Lib.hid (bthen HW.out hb HW.out.size)
      clear r0 r1 f0 f1 hb
      have r0 := T2.out.c0; have r1 := T2.out.c1; have f0 := T2.out.f0; have f1 := T2.out.f1
      have lt2 := T2.out.lt
      go_wp2_with fail
      refine bodyPost_ret (v := .tuple #[.agg #[.int .i64 ((N : Int)), .int .i64 (M : Int)], .int .i64 0]) ?_ rfl ⟨((HW.out.setCell (p := ⟨w.heap.size, 0, none⟩) (Nat.le_refl _) _).setCell (p := ⟨w.heap.size, 1, none⟩) (Nat.le_refl _) _).alloc (by rw [size_setCell, size_setCell]; exact HW.out.size) _, fun _ => by rw [HVL.out] <;> rfl, fun h => absurd HOK2.out h⟩
      exact results_cell_tmp Try.results34 _ _ _ _ _ (0, 0) _ rfl (((T2.out.blk.set_ 0 _).set_ 1 _).alloc _) Try.underlying35 rfl rfl
set_option maxRecDepth 100000 in
set_option maxHeartbeats 8000000 in
theorem rp_p_o (S0 : ByteArray) (hs : S0.size ≤ 14) (hn : negL (bytesOf S0) = false) (hh : hasL (rL (bytesOf S0)) = false) (h0 : 0 < S0.size) (w : World) : Calls Try.prog 34 #[.string S0] w (RetRP w (bytesOf S0)) := by
  have hiff := ok_iff (bytesOf S0)
  have hpv : PVal (bytesOf S0) = qv false (dw (fL (rL (bytesOf S0)))) 0 := by rw [PVal, hn, hh]; rfl
  rw [hn, hh] at hiff
  have hrs := restS_bytes S0
  have hl := bytes_length S0
  have hg0 := bytes_get S0 0 h0
  have t0 : ((nth (bytesOf S0) 0 : Int) == 45) = false := by
    have : nth (bytesOf S0) 0 ≠ 45 := by simpa [negL] using hn
    simp; omega
  have hS0 : restS S0 = S0 := by rw [restS, hn]; rfl
  have hz : (restS S0).size ≤ 14 := by rw [← bytes_length, hrs]; have := rL_length (bytesOf S0); omega
  obtain ⟨L, hL⟩ : ∃ L, L = bytesOf S0 := ⟨_, rfl⟩
  rw [← hL] at hiff hpv hrs hh ⊢
  have hlr := bytes_length (restS S0)
  have hF := fS_bytes (restS S0); have hG := gS_bytes (restS S0)
  rw [hrs] at hF hG hlr
  have eF : fS (restS S0) = restS S0 := by rw [fS, hrs, hh]; rfl
  have hfl := fL_length (rL L); have hgl := gL_length (rL L)
  have z1 := fS_size (restS S0); have z2 := gS_size (restS S0)
  rw [hrs] at z1 z2
  have hget := bytes_get (restS S0)
  rw [hrs] at hget
  have hP := (show pL (rL L) = (rL L).length by have := pL_le (rL L); have h2 : ¬ pL (rL L) < (rL L).length := fun h => (by rw [hasL, decide_eq_true h] at hh; cases hh); omega)
  have hne := @pL_ne (rL L)
  rw [hS0] at hz hlr hF hG eF z1 z2 hget hrs; clear hS0
  obtain ⟨R, hR⟩ : ∃ R, R = rL L := ⟨_, rfl⟩
  rw [← hR] at hiff hpv hlr hF hG hfl hgl z1 z2 hget hP hne
  have hbig : ∀ k, k < R.length → nth R k < 256 := fun k hk => by
    have := bytes_lt (S0) (nth R k) (by rw [hrs, ← hR]; exact nth_mem hk)
    exact this
  clear hh hn hrs hR hL
  generalize pL R = p at *
  have HIFF := Lib.hid hiff; have HPV := Lib.hid hpv; have HF := Lib.hid hF; have HG := Lib.hid hG; have HEF := Lib.hid eF; have HP := Lib.hid hP; have HNE := Lib.hid (fun k => hne (k := k)); have HGET := Lib.hid hget; have HBIG := Lib.hid hbig; have HLR := Lib.hid hlr
  have HZ := Lib.hid (show (fL R).length ≤ 14 ∧ (gL R).length ≤ 14 by omega)
  clear hiff hpv hF hG eF hP hne hget hbig hlr hfl hgl hl
  go_enter Try.func34, Try.ntmps34
  go_upto_region 5 with (fail)
  have hT := GB.made w 35 (.int .i64 0) (.int .i64 0)
  have hW := al w (.cells #[.int .i64 0, .int .i64 0] 35)
  generalize w.alloc (.cells #[.int .i64 0, .int .i64 0] 35) = w1 at hT hW ⊢
  have T2 := Lib.hid hT; have HW := Lib.hid hW; clear hT hW hg0 t0
  go_wp2_with fail
  go_loopw [5, 6, 7, 8] (fun a b c iv wr => ∃ k : Nat, k ≤ S0.size ∧ iv = .int .i64 k ∧ a = .string S0 ∧ b = .string ⟨#[49]⟩ ∧ c = .bool false ∧ Hid (k ≤ p ∧ w1 = wr)) (fun _ _ _ iv _ => S0.size - (intOf iv).toNat)
  case atStart => exact ⟨0, Nat.zero_le _, rfl, rfl, rfl, rfl, Lib.hid ⟨Nat.zero_le _, rfl⟩⟩
  case round =>
    obtain ⟨k, hk, rfl, rfl, rfl, rfl, HJ⟩ := hrel
    obtain ⟨hkp, hwr⟩ := HJ.out
    have HKP := Lib.hid hkp; clear hkp HJ
    subst hwr
    by_cases hlt : k < S0.size
    · have HKLT := Lib.hid (show k < p by rw [HP.out, HLR.out]; exact hlt)
      have hgi := HGET.out k hlt
      obtain ⟨b, hb⟩ : ∃ b, b = nth R k := ⟨_, rfl⟩
      rw [← hb] at hgi
      have hb2 : b < 256 := by rw [hb]; exact HBIG.out k (by rw [HLR.out]; exact hlt)
      have hb3 : b ≠ 47 := by rw [hb]; exact HNE.out k HKLT.out
      have tb : ((b : Int) == 47) = false := by simp; omega
      have HK2 := Lib.hid (show k + 1 ≤ p from HKLT.out)
      clear hb hb3
      go_wp2_with fail
      refine ⟨⟨k + 1, by omega, by go_num, rfl, rfl, rfl, Lib.hid ⟨HK2.out, by first | rfl | trivial⟩⟩, by simp [intOf]; omega⟩
    · obtain rfl : k = S0.size := by omega
      have q1 : fS S0 = S0 := HEF.out
      replace HF := Lib.hid (show bytesOf S0 = fL R by have := HF.out; rw [q1] at this; exact this)
      clear q1
      have y1 : S0.size ≤ 14 := by omega
      have l1 : decide ((1200 : Int) < (S0.size : Int)) = false := by simp; omega
      go_upto_region 12 with (fail)
      clear l1
      have r0 := T2.out.c0; have r1 := T2.out.c1; have f0 := T2.out.f0; have f1 := T2.out.f1
      by_cases c1 : PGood (fL R)
      case neg =>
        have p1 : pgB (bytesOf S0) = false := by rw [HF.out]; exact pgB_no c1
        have HBAD := Lib.hid (show ¬ POk L from fun h => c1 (HIFF.out.1 h).1)
        clear c1
        go_wp2_with (go_at_call 56; refine (rdigits_any _ (by first | omega | decide) _).mono ?_; rintro e w9 ⟨rfl, rfl⟩)
        refine bodyPost_ret (v := .tuple #[.agg #[.int .i64 0, .int .i64 0], .int .i64 15]) ?_ rfl (RetRP.bad HBAD.out ((HW.out.setCell (p := ⟨w.heap.size, 0, none⟩) (Nat.le_refl _) _).setCell (p := ⟨w.heap.size, 1, none⟩) (Nat.le_refl _) _))
        exact results_cell_tmp Try.results34 _ _ _ _ _ (0, 0) _ rfl ((T2.out.blk.set_ 0 _).set_ 1 _) Try.underlying35 rfl rfl
      have p1 : pgB (bytesOf S0) = true := by rw [HF.out]; exact (pgB_iff _).2 c1
      have C1 := Lib.hid c1; clear c1
      have p2 : pgB (bytesOf ⟨#[49]⟩) = true := by rw [bytes_one]; rfl
      have q3 : ((ByteArray.mk #[49]).toList == [48]) = false := by rw [str_is, bytes_one]; rfl
      have g1 : ∀ j, j < S0.size → 48 ≤ nth (bytesOf S0) j ∧ nth (bytesOf S0) j ≤ 57 := by
        rw [HF.out, ← bytes_length, HF.out]; exact C1.out.2.1
      have v1 : dv (bytesOf S0) S0.size = dw (fL R) := by rw [← bytes_length, HF.out]; rfl
      have g2 : ∀ j, j < (ByteArray.mk #[49]).size → 48 ≤ nth (bytesOf ⟨#[49]⟩) j ∧ nth (bytesOf ⟨#[49]⟩) j ≤ 57 := by
        rw [bytes_one]; intro j hj; obtain rfl : j = 0 := by have : (ByteArray.mk #[49]).size = 1 := rfl
                                                             omega
        simp [nth]
      have v2 : dv (bytesOf ⟨#[49]⟩) (ByteArray.mk #[49]).size = 1 := by rw [bytes_one]; rfl
      have V1 := Lib.hid (fun W => rvalue_any S0 (by omega) g1 W)
      have V2 := Lib.hid (fun W => rvalue_any (ByteArray.mk #[49]) (by first | omega | decide) g2 W)
      rw [v1] at V1; rw [v2] at V2
      have b1 : dw (fL R) < 10 ^ 14 := by
        have h1 := dv_lt (bs := bytesOf S0) S0.size (fun j hj => (g1 j hj).2)
        rw [v1] at h1; exact Nat.lt_of_lt_of_le h1 (Nat.pow_le_pow_right (by omega) (by omega))
      have b1 : dw (fL R) < 100000000000000 := b1
      clear g1 g2 v1 v2
      have HOK := Lib.hid (show Nat.gcd (dw (fL R)) 1 = 1 → POk L from fun _ => HIFF.out.2 ⟨C1.out, fun h => by (cases h), (fun h => by cases h), (fun h => by cases h)⟩)
      have HPM := Lib.hid (show PVal L = qv false (dw (fL R)) 1 by rw [HPV.out, qv_den0])
      clear HPV HIFF
      generalize dw (fL R) = N at *
      have hlp := low_parts N 1 (by omega)
      have hlow := rlow_any (w := w1) (N : Int) (1 : Nat) (by omega) (by omega) (by omega) (by omega) (by omega)
      generalize ((N : Int) : Rat) / (((1 : Nat) : Int) : Rat) = y at hlp hlow
      rw [hlp.1, hlp.2] at hlow
      clear hlp
      have hgc : Nat.gcd N 1 = 1 := Nat.gcd_one_right N
      have HV := Lib.hid (qv_frac' false N 1 (by omega) hgc)
      have HVL := Lib.hid (show QL (PVal L) = .agg #[.int .i64 ((N : Int)), .int .i64 ((1 : Nat) : Int)] by rw [QL, HPM.out, HV.out.1, HV.out.2]; rfl)
      have HOK2 := Lib.hid (HOK.out hgc)
      rw [hgc, Nat.div_one, Nat.div_one] at hlow
      have HLOW := Lib.hid hlow; clear hlow hgc HOK HV HPM
      have tn : ((N : Int) != (N : Int)) = false := by simp
      go_upto_region 15 with (first | (go_at_call 56; refine (rdigits_any _ (by first | omega | decide) _).mono ?_; rintro e w9 ⟨rfl, rfl⟩) | (go_at_call 57; (first | (with_reducible refine (V1.out _).mono ?_) | (with_reducible refine (V2.out _).mono ?_)); rintro e w9 ⟨rfl, rfl⟩))
      go_wp2_with fail
      refine HLOW.out.mono ?_
      rintro e w5 ⟨rfl, hb⟩
      replace T2 := Lib.hid (T2.out.new hb)
      replace HW := Lib.hid (bthen HW.out hb HW.out.size)
      clear r0 r1 f0 f1 hb
      have r0 := T2.out.c0; have r1 := T2.out.c1; have f0 := T2.out.f0; have f1 := T2.out.f1
      have lt2 := T2.out.lt
      go_wp2_with fail
      refine bodyPost_ret (v := .tuple #[.agg #[.int .i64 ((N : Int)), .int .i64 1], .int .i64 0]) ?_ rfl ⟨((HW.out.setCell (p := ⟨w.heap.size, 0, none⟩) (Nat.le_refl _) _).setCell (p := ⟨w.heap.size, 1, none⟩) (Nat.le_refl _) _).alloc (by rw [size_setCell, size_setCell]; exact HW.out.size) _, fun _ => by rw [HVL.out] <;> rfl, fun h => absurd HOK2.out h⟩
      exact results_cell_tmp Try.results34 _ _ _ _ _ (0, 0) _ rfl (((T2.out.blk.set_ 0 _).set_ 1 _).alloc _) Try.underlying35 rfl rfl
set_option maxRecDepth 100000 in
set_option maxHeartbeats 8000000 in
theorem rp_p_o_e (S0 : ByteArray) (hs : S0.size ≤ 14) (hn : negL (bytesOf S0) = false) (hh : hasL (rL (bytesOf S0)) = false) (h0 : S0.size = 0) (w : World) : Calls Try.prog 34 #[.string S0] w (RetRP w (bytesOf S0)) := by
  have hiff := ok_iff (bytesOf S0)
  have hpv : PVal (bytesOf S0) = qv false (dw (fL (rL (bytesOf S0)))) 0 := by rw [PVal, hn, hh]; rfl
  rw [hn, hh] at hiff
  have hrs := restS_bytes S0
  have hl := bytes_length S0
  have hS0 : restS S0 = S0 := by rw [restS, hn]; rfl
  have hz : (restS S0).size ≤ 14 := by rw [← bytes_length, hrs]; have := rL_length (bytesOf S0); omega
  obtain ⟨L, hL⟩ : ∃ L, L = bytesOf S0 := ⟨_, rfl⟩
  rw [← hL] at hiff hpv hrs hh ⊢
  have hlr := bytes_length (restS S0)
  have hF := fS_bytes (restS S0); have hG := gS_bytes (restS S0)
  rw [hrs] at hF hG hlr
  have eF : fS (restS S0) = restS S0 := by rw [fS, hrs, hh]; rfl
  have hfl := fL_length (rL L); have hgl := gL_length (rL L)
  have z1 := fS_size (restS S0); have z2 := gS_size (restS S0)
  rw [hrs] at z1 z2
  have hget := bytes_get (restS S0)
  rw [hrs] at hget
  have hP := (show pL (rL L) = (rL L).length by have := pL_le (rL L); have h2 : ¬ pL (rL L) < (rL L).length := fun h => (by rw [hasL, decide_eq_true h] at hh; cases hh); omega)
  have hne := @pL_ne (rL L)
  rw [hS0] at hz hlr hF hG eF z1 z2 hget hrs; clear hS0
  obtain ⟨R, hR⟩ : ∃ R, R = rL L := ⟨_, rfl⟩
  rw [← hR] at hiff hpv hlr hF hG hfl hgl z1 z2 hget hP hne
  have hbig : ∀ k, k < R.length → nth R k < 256 := fun k hk => by
    have := bytes_lt (S0) (nth R k) (by rw [hrs, ← hR]; exact nth_mem hk)
    exact this
  clear hh hn hrs hR hL
  generalize pL R = p at *
  have HIFF := Lib.hid hiff; have HPV := Lib.hid hpv; have HF := Lib.hid hF; have HG := Lib.hid hG; have HEF := Lib.hid eF; have HP := Lib.hid hP; have HNE := Lib.hid (fun k => hne (k := k)); have HGET := Lib.hid hget; have HBIG := Lib.hid hbig; have HLR := Lib.hid hlr
  have HZ := Lib.hid (show (fL R).length ≤ 14 ∧ (gL R).length ≤ 14 by omega)
  clear hiff hpv hF hG eF hP hne hget hbig hlr hfl hgl hl
  go_enter Try.func34, Try.ntmps34
  go_upto_region 5 with (fail)
  have hT := GB.made w 35 (.int .i64 0) (.int .i64 0)
  have hW := al w (.cells #[.int .i64 0, .int .i64 0] 35)
  generalize w.alloc (.cells #[.int .i64 0, .int .i64 0] 35) = w1 at hT hW ⊢
  have T2 := Lib.hid hT; have HW := Lib.hid hW; clear hT hW
  go_wp2_with fail
  go_loopw [5, 6, 7, 8] (fun a b c iv wr => ∃ k : Nat, k ≤ S0.size ∧ iv = .int .i64 k ∧ a = .string S0 ∧ b = .string ⟨#[49]⟩ ∧ c = .bool false ∧ Hid (k ≤ p ∧ w1 = wr)) (fun _ _ _ iv _ => S0.size - (intOf iv).toNat)
  case atStart => exact ⟨0, Nat.zero_le _, rfl, rfl, rfl, rfl, Lib.hid ⟨Nat.zero_le _, rfl⟩⟩
  case round =>
    obtain ⟨k, hk, rfl, rfl, rfl, rfl, HJ⟩ := hrel
    obtain ⟨hkp, hwr⟩ := HJ.out
    have HKP := Lib.hid hkp; clear hkp HJ
    subst hwr
    by_cases hlt : k < S0.size
    · exfalso; omega
    · obtain rfl : k = S0.size := by omega
      have q1 : fS S0 = S0 := HEF.out
      replace HF := Lib.hid (show bytesOf S0 = fL R by have := HF.out; rw [q1] at this; exact this)
      clear q1
      have y1 : S0.size ≤ 14 := by omega
      have l1 : decide ((1200 : Int) < (S0.size : Int)) = false := by simp; omega
      go_upto_region 12 with (fail)
      clear l1
      have r0 := T2.out.c0; have r1 := T2.out.c1; have f0 := T2.out.f0; have f1 := T2.out.f1
      by_cases c1 : PGood (fL R)
      case neg =>
        have p1 : pgB (bytesOf S0) = false := by rw [HF.out]; exact pgB_no c1
        have HBAD := Lib.hid (show ¬ POk L from fun h => c1 (HIFF.out.1 h).1)
        clear c1
        go_wp2_with (go_at_call 56; refine (rdigits_any _ (by first | omega | decide) _).mono ?_; rintro e w9 ⟨rfl, rfl⟩)
        refine bodyPost_ret (v := .tuple #[.agg #[.int .i64 0, .int .i64 0], .int .i64 15]) ?_ rfl (RetRP.bad HBAD.out ((HW.out.setCell (p := ⟨w.heap.size, 0, none⟩) (Nat.le_refl _) _).setCell (p := ⟨w.heap.size, 1, none⟩) (Nat.le_refl _) _))
        exact results_cell_tmp Try.results34 _ _ _ _ _ (0, 0) _ rfl ((T2.out.blk.set_ 0 _).set_ 1 _) Try.underlying35 rfl rfl
      have p1 : pgB (bytesOf S0) = true := by rw [HF.out]; exact (pgB_iff _).2 c1
      have C1 := Lib.hid c1; clear c1
      have p2 : pgB (bytesOf ⟨#[49]⟩) = true := by rw [bytes_one]; rfl
      have q3 : ((ByteArray.mk #[49]).toList == [48]) = false := by rw [str_is, bytes_one]; rfl
      have g1 : ∀ j, j < S0.size → 48 ≤ nth (bytesOf S0) j ∧ nth (bytesOf S0) j ≤ 57 := by
        rw [HF.out, ← bytes_length, HF.out]; exact C1.out.2.1
      have v1 : dv (bytesOf S0) S0.size = dw (fL R) := by rw [← bytes_length, HF.out]; rfl
      have g2 : ∀ j, j < (ByteArray.mk #[49]).size → 48 ≤ nth (bytesOf ⟨#[49]⟩) j ∧ nth (bytesOf ⟨#[49]⟩) j ≤ 57 := by
        rw [bytes_one]; intro j hj; obtain rfl : j = 0 := by have : (ByteArray.mk #[49]).size = 1 := rfl
                                                             omega
        simp [nth]
      have v2 : dv (bytesOf ⟨#[49]⟩) (ByteArray.mk #[49]).size = 1 := by rw [bytes_one]; rfl
      have V1 := Lib.hid (fun W => rvalue_any S0 (by omega) g1 W)
      have V2 := Lib.hid (fun W => rvalue_any (ByteArray.mk #[49]) (by first | omega | decide) g2 W)
      rw [v1] at V1; rw [v2] at V2
      have b1 : dw (fL R) < 10 ^ 14 := by
        have h1 := dv_lt (bs := bytesOf S0) S0.size (fun j hj => (g1 j hj).2)
        rw [v1] at h1; exact Nat.lt_of_lt_of_le h1 (Nat.pow_le_pow_right (by omega) (by omega))
      have b1 : dw (fL R) < 100000000000000 := b1
      clear g1 g2 v1 v2
      have HOK := Lib.hid (show Nat.gcd (dw (fL R)) 1 = 1 → POk L from fun _ => HIFF.out.2 ⟨C1.out, fun h => by (cases h), (fun h => by cases h), (fun h => by cases h)⟩)
      have HPM := Lib.hid (show PVal L = qv false (dw (fL R)) 1 by rw [HPV.out, qv_den0])
      clear HPV HIFF
      generalize dw (fL R) = N at *
      have hlp := low_parts N 1 (by omega)
      have hlow := rlow_any (w := w1) (N : Int) (1 : Nat) (by omega) (by omega) (by omega) (by omega) (by omega)
      generalize ((N : Int) : Rat) / (((1 : Nat) : Int) : Rat) = y at hlp hlow
      rw [hlp.1, hlp.2] at hlow
      clear hlp
      have hgc : Nat.gcd N 1 = 1 := Nat.gcd_one_right N
      have HV := Lib.hid (qv_frac' false N 1 (by omega) hgc)
      have HVL := Lib.hid (show QL (PVal L) = .agg #[.int .i64 ((N : Int)), .int .i64 ((1 : Nat) : Int)] by rw [QL, HPM.out, HV.out.1, HV.out.2]; rfl)
      have HOK2 := Lib.hid (HOK.out hgc)
      rw [hgc, Nat.div_one, Nat.div_one] at hlow
      have HLOW := Lib.hid hlow; clear hlow hgc HOK HV HPM
      have tn : ((N : Int) != (N : Int)) = false := by simp
      go_upto_region 15 with (first | (go_at_call 56; refine (rdigits_any _ (by first | omega | decide) _).mono ?_; rintro e w9 ⟨rfl, rfl⟩) | (go_at_call 57; (first | (with_reducible refine (V1.out _).mono ?_) | (with_reducible refine (V2.out _).mono ?_)); rintro e w9 ⟨rfl, rfl⟩))
      go_wp2_with fail
      refine HLOW.out.mono ?_
      rintro e w5 ⟨rfl, hb⟩
      replace T2 := Lib.hid (T2.out.new hb)
      replace HW := Lib.hid (bthen HW.out hb HW.out.size)
      clear r0 r1 f0 f1 hb
      have r0 := T2.out.c0; have r1 := T2.out.c1; have f0 := T2.out.f0; have f1 := T2.out.f1
      have lt2 := T2.out.lt
      go_wp2_with fail
      refine bodyPost_ret (v := .tuple #[.agg #[.int .i64 ((N : Int)), .int .i64 1], .int .i64 0]) ?_ rfl ⟨((HW.out.setCell (p := ⟨w.heap.size, 0, none⟩) (Nat.le_refl _) _).setCell (p := ⟨w.heap.size, 1, none⟩) (Nat.le_refl _) _).alloc (by rw [size_setCell, size_setCell]; exact HW.out.size) _, fun _ => by rw [HVL.out] <;> rfl, fun h => absurd HOK2.out h⟩
      exact results_cell_tmp Try.results34 _ _ _ _ _ (0, 0) _ rfl (((T2.out.blk.set_ 0 _).set_ 1 _).alloc _) Try.underlying35 rfl rfl
theorem rqparse_any (s : ByteArray) (hs : s.size ≤ 14) (w : World) : Calls Try.prog 34 #[.string s] w (RetRP w (bytesOf s)) := by
  cases hn : negL (bytesOf s) with
  | true =>
    cases hh : hasL (rL (bytesOf s)) with
    | true => exact rp_n_h s hs hn hh w
    | false => exact rp_n_o s hs hn hh w
  | false =>
    rcases Nat.eq_zero_or_pos s.size with h0 | h0
    · have hb : bytesOf s = [] := List.eq_nil_of_length_eq_zero (by rw [bytes_length]; exact h0)
      exact rp_p_o_e s hs hn (by rw [hb]; rfl) h0 w
    · cases hh : hasL (rL (bytesOf s)) with
      | true => exact rp_p_h s hs hn hh h0 w
      | false => exact rp_p_o s hs hn hh h0 w
end Go.Proofs.Ytifnbpkcnkfanaa
