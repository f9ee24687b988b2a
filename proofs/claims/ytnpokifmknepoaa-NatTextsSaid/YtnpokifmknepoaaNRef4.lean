/-
  Contracts of the reference of layer 4, fourth part: Mul, DivMod, Bits.
-/
import Derived.Test.YtnpokifmknepoaaNRef3
namespace Go.Proofs.Ytnpokifmknepoaa
open Go.RowKit

theorem DN.lt {w : World} {A : Option Addr} {k c N : Nat} (h : DN w A k c N) : N < 10 ^ k := by
  obtain ⟨h1, D, h2, h3⟩ := h
  have h4 := h3.len
  rw [ints_length] at h4
  rw [h4]; exact h2.lt
theorem RetRTrim.of_dn {A : Option Addr} {n c N : Nat} {w : World} (h : DN w A n c N) : Calls Try.prog 43 #[.slice A n c] w (RetRTrim A c N w) := by
  obtain ⟨h1, D, h2, h3⟩ := h
  have := rtrim_any A D n c h1 w h3 h2.2.1
  rw [h2.1] at this
  exact this
theorem dec_drop_lt {D : List Nat} (h : ∀ d ∈ D, d < 10) (a : Nat) : valB 10 (D.drop a) < 10 ^ D.length := by
  have h1 := valB_lt (b := 10) (l := D.drop a) (fun d hd => h d (List.mem_of_mem_drop hd))
  have h3 : 10 ^ (D.drop a).length ≤ 10 ^ D.length := Nat.pow_le_pow_right (by omega) (by simp)
  omega

set_option maxHeartbeats 4000000 in
theorem rmul_any (A : Option Addr) (n c N : Nat) (B : Option Addr) (m d M : Nat) (w : World) (hr : DN w A n c N) (hs : DN w B m d M) (hn : n ≤ 100000) (hm : m ≤ 100000) :
    Calls Try.prog 29 #[.slice A n c, .slice B m d] w (RetD w (N * M)) := by
  have HA := Lib.hid hr; clear hr
  obtain ⟨hd, F, hM, hY⟩ := hs
  have hf : m = F.length := by rw [hY.len, ints_length]
  have H2 := Lib.hid hY; clear hY
  have HF := Lib.hid hf; clear hf
  have N2 := Lib.hid hM; clear hM
  go_enter Try.func29, Try.ntmps29
  go_wp2_with fail
  go_loopw [5, 6] (fun ov iv wr => ∃ (a : Int) (B : Option Addr) (k c : Nat), -1 ≤ a ∧ a < m ∧ iv = .int .i64 a ∧ ov = .slice B k c ∧ Hid (DN wr B k c (N * valB 10 (F.drop (a + 1).toNat)) ∧ Below w.heap.size w wr)) (fun _ iv _ => (intOf iv + 1).toNat)
  case atStart =>
    refine ⟨(m : Int) - 1, none, 0, 0, by omega, by omega, rfl, rfl, Lib.hid ⟨?_, Below.refl _ _⟩⟩
    have h1 := HF.out
    rw [show ((m : Int) - 1 + 1).toNat = m by omega, List.drop_of_length_le (by omega)]
    exact nil_dn _
  case round =>
    obtain ⟨a, B', k, cc, ha, ha2, rfl, rfl, HJ⟩ := hrel
    by_cases ha3 : 0 ≤ a
    · obtain ⟨a, rfl⟩ := Int.eq_ofNat_of_zero_le ha3
      have hk : k ≤ n + m := HJ.out.1.len (by
        have h1 := HA.out.lt
        have h2 := dec_drop_lt N2.out.2.1 ((a : Int) + 1).toNat
        rw [← HF.out] at h2
        rw [Nat.pow_add]
        exact Nat.mul_lt_mul_of_lt_of_lt h1 h2)
      go_wp2_with fail
      refine (small_any B' k cc 10 0 _ wr HJ.out.1 (by omega) (by omega) (by omega)).mono ?_
      rintro e w1 ⟨A1, k1, c1, rfl, h1, hb⟩
      have hk1 : k1 ≤ n + m + 1 := h1.len (by
        have h2 := HJ.out.1.lt
        have h3 : 10 ^ k ≤ 10 ^ (n + m) := Nat.pow_le_pow_right (by omega) hk
        rw [Nat.pow_succ]; omega)
      have H1 := Lib.hid h1; clear h1
      have HB := Lib.hid (bthen HJ.out.2 hb HJ.out.2.size); clear hb
      obtain ⟨ad, rfl, hb1, hcell⟩ := (H2.out.below HB.out).dig (show a < m by omega)
      have f10 := N2.out.2.1 _ (nth_mem (show a < F.length by rw [← HF.out]; omega))
      go_wp2_with fail
      refine (small_any A n c (nth F a) 0 N w1 (HA.out.new HB.out) (by omega) (by omega) (by omega)).mono ?_
      rintro e w2 ⟨A2, k2, c2, rfl, h2, hb⟩
      have hk2 : k2 ≤ n + 1 := h2.len (by
        have h3 := HA.out.lt
        have h4 : N * nth F a ≤ N * 9 := Nat.mul_le_mul_left _ (by omega)
        rw [Nat.pow_succ]; omega)
      have H3 := Lib.hid h2; clear h2
      replace H1 := Lib.hid (H1.out.new hb)
      replace HB := Lib.hid (bthen HB.out hb HB.out.size); clear hb
      clear hcell hb1
      go_wp2_with fail
      refine (radd_any A1 k1 c1 _ A2 k2 c2 _ w2 H1.out H3.out (by omega) (by omega)).mono ?_
      rintro e w3 ⟨A3, k3, c3, rfl, h3, hb⟩
      have H4 := Lib.hid h3; clear h3
      replace HB := Lib.hid (bthen HB.out hb HB.out.size); clear hb
      go_wp2_with fail
      refine ⟨⟨(a : Int) - 1, A3, k3, c3, by omega, by omega, by go_num, rfl, Lib.hid ⟨?_, HB.out⟩⟩, by simp [intOf]⟩
      have h := H4.out
      rw [show ((a : Int) + 1).toNat = a + 1 by omega] at h
      rw [show ((a : Int) - 1 + 1).toNat = a by omega, valB_drop (by have := HF.out; omega)]
      have e : N * (nth F a + 10 * valB 10 (F.drop (a + 1))) = N * valB 10 (F.drop (a + 1)) * 10 + 0 + (N * nth F a + 0) := by
        generalize valB 10 (F.drop (a + 1)) = V
        generalize nth F a = y
        grind
      rw [e]
      exact h
    · have ha4 : a = -1 := by omega
      subst ha4
      go_wp2_with fail
      refine (RetRTrim.of_dn HJ.out.1).mono ?_
      rintro e w4 ⟨k4, rfl, hdn, rfl⟩
      have H4 := Lib.hid hdn; clear hdn
      go_wp2_with fail
      go_ret
      refine ⟨B', k4, cc, rfl, ?_, HJ.out.2⟩
      have h := H4.out
      rw [show ((-1 : Int) + 1).toNat = 0 from rfl, List.drop_zero, N2.out.1] at h
      exact h

def RetDD (w : World) (N M : Nat) (e : Ending) (w' : World) : Prop :=
  ∃ A k c A' k' c', e = .returned (.tuple #[.slice A k c, .slice A' k' c']) ∧ DN w' A k c (N / M) ∧ DN w' A' k' c' (N % M) ∧ Below w.heap.size w w'
theorem div_next {T M x : Nat} (hM : 0 < M) : (x + 10 * T) / M = T / M * 10 + (T % M * 10 + x) / M ∧ (x + 10 * T) % M = (T % M * 10 + x) % M := by
  have h1 := Nat.div_add_mod T M
  have h2 : x + 10 * T = T % M * 10 + x + M * (T / M * 10) := by
    generalize T / M = q at *
    generalize T % M = r at *
    grind
  rw [h2, Nat.add_mul_div_left _ _ hM, Nat.add_mul_mod_self_left]
  exact ⟨by omega, rfl⟩

set_option maxHeartbeats 4000000 in
theorem rdm_any (A : Option Addr) (n c N : Nat) (B : Option Addr) (m d M : Nat) (w : World) (hr : DN w A n c N) (hs : DN w B m d M) (hn : n ≤ 100000) (hm : m ≤ 100000) (hM0 : 0 < M) :
    Calls Try.prog 31 #[.slice A n c, .slice B m d] w (RetDD w N M) := by
  have HBn := Lib.hid hs; clear hs
  obtain ⟨hd, D, hN, hX⟩ := hr
  have hl : n = D.length := by rw [hX.len, ints_length]
  have H1 := Lib.hid hX; clear hX
  have HL := Lib.hid hl; clear hl
  have N1 := Lib.hid hN; clear hN
  have HM := Lib.hid hM0; clear hM0
  go_enter Try.func31, Try.ntmps31
  go_wp2_with fail
  go_loopw [6, 7, 8, 9] (fun qv rv iv _ wr => ∃ (a : Int) (B : Option Addr) (k c : Nat) (B' : Option Addr) (k' c' : Nat), -1 ≤ a ∧ a < n ∧ iv = .int .i64 a ∧ qv = .slice B k c ∧ rv = .slice B' k' c' ∧ Hid (DN wr B k c (valB 10 (D.drop (a + 1).toNat) / M) ∧ DN wr B' k' c' (valB 10 (D.drop (a + 1).toNat) % M) ∧ Below w.heap.size w wr)) (fun _ _ iv _ _ => (intOf iv + 1).toNat)
  case atStart =>
    refine ⟨(n : Int) - 1, none, 0, 0, none, 0, 0, by omega, by omega, rfl, rfl, rfl, Lib.hid ⟨?_, ?_, Below.refl _ _⟩⟩
    all_goals
      have h1 := HL.out
      rw [show ((n : Int) - 1 + 1).toNat = n by omega, List.drop_of_length_le (by omega)]
      simp only [valB, Nat.zero_div, Nat.zero_mod]
      exact nil_dn _
  case round =>
    obtain ⟨a, Bq, kq, cq, Br, kr, cr, ha, ha2, rfl, rfl, rfl, HJ⟩ := hrel
    by_cases ha3 : 0 ≤ a
    · obtain ⟨a, rfl⟩ := Int.eq_ofNat_of_zero_le ha3
      have hkr : kr ≤ m := HJ.out.2.1.len (Nat.lt_trans (Nat.mod_lt _ HM.out) HBn.out.lt)
      have hkq : kq ≤ n := HJ.out.1.len (Nat.lt_of_le_of_lt (Nat.div_le_self _ _) (by rw [HL.out]; exact dec_drop_lt N1.out.2.1 _))
      obtain ⟨ad, rfl, hb1, hcell⟩ := (H1.out.below HJ.out.2.2).dig (show a < n by omega)
      have d10 := N1.out.2.1 _ (nth_mem (show a < D.length by rw [← HL.out]; omega))
      have hnx := div_next (T := valB 10 (D.drop (a + 1))) (x := nth D a) HM.out
      rw [← valB_drop (by have := HL.out; omega)] at hnx
      have HNX := Lib.hid hnx; clear hnx
      have hJ := HJ.out; clear HJ
      rw [show ((a : Int) + 1).toNat = a + 1 by omega] at hJ
      have HJ := Lib.hid hJ; clear hJ
      have hrl := Nat.mod_lt (valB 10 (D.drop (a + 1))) HM.out
      generalize valB 10 (D.drop (a + 1)) = T at *
      generalize T % M = R0 at *
      generalize T / M = Q0 at *
      have HRL := Lib.hid hrl; clear hrl
      go_wp2_with fail
      refine (small_any Br kr cr 10 (nth D a) _ wr HJ.out.2.1 (by omega) (by omega) (by omega)).mono ?_
      generalize nth D a = x at *
      rintro e w1 ⟨A1, k1, c1, rfl, h1, hb⟩
      have HR1 := Lib.hid h1; clear h1
      have HQ1 := Lib.hid (HJ.out.1.new hb)
      have HB := Lib.hid (bthen HJ.out.2.2 hb HJ.out.2.2.size); clear hb
      clear HJ hcell hb1
      have hr1 : R0 * 10 + x < 10 * M := by have := HRL.out; omega
      obtain ⟨R1, hR1⟩ : ∃ R1, R1 = R0 * 10 + x := ⟨_, rfl⟩
      rw [← hR1] at HR1 hr1 HNX
      have HLT := Lib.hid hr1; clear hr1 hR1
      go_wp2_with fail
      go_loopw [7, 9] (fun rv dv wr => ∃ (B' : Option Addr) (k' c' dd R : Nat), rv = .slice B' k' c' ∧ dv = .int .i64 dd ∧ dd ≤ 9 ∧ Hid (R + dd * M = R1 ∧ DN wr B' k' c' R ∧ Below w1.heap.size w1 wr)) (fun _ dv _ => 20 - (intOf dv).toNat)
      case atStart => exact ⟨A1, k1, c1, 0, R1, rfl, rfl, by omega, Lib.hid ⟨by omega, HR1.out, Below.refl _ _⟩⟩
      case round =>
        obtain ⟨B', k', c', dd, R, rfl, rfl, hdd, HI⟩ := hrel
        go_wp2_with fail
        refine (rcmp_any B' k' c' R B m d M _ HI.out.2.1 (HBn.out.new (bthen HB.out HI.out.2.2 HB.out.size))).mono ?_
        rintro e w2 ⟨rfl, hb⟩
        have HB2 := Lib.hid (bthen HI.out.2.2 hb HI.out.2.2.size)
        have HD2 := Lib.hid (HI.out.2.1.new hb)
        have HE := Lib.hid HI.out.1
        clear hb HI
        by_cases hlt : R < M
        · rw [cmpN_neg hlt]
          have HLT2 := Lib.hid hlt; clear hlt
          go_wp2_with fail
          refine (small_any Bq kq cq 10 dd _ w2 (HQ1.out.new HB2.out) (by omega) (by omega) (by omega)).mono ?_
          rintro e w3 ⟨A3, k3, c3, rfl, h3, hb⟩
          have H3 := Lib.hid h3; clear h3
          have HD3 := Lib.hid (HD2.out.new hb)
          have HB3 := Lib.hid (bthen HB.out (bthen HB2.out hb HB2.out.size) HB.out.size); clear hb
          go_wp2_with fail
          have e1 : R1 / M = dd := by
            rw [← HE.out, Nat.mul_comm, Nat.add_mul_div_left _ _ HM.out, Nat.div_eq_of_lt HLT2.out]; omega
          have e2 : R1 % M = R := by
            rw [← HE.out, Nat.mul_comm, Nat.add_mul_mod_self_left, Nat.mod_eq_of_lt HLT2.out]
          refine ⟨⟨(a : Int) - 1, A3, k3, c3, B', k', c', by omega, by omega, by go_num, rfl, rfl, Lib.hid ⟨?_, ?_, HB3.out⟩⟩, by simp [intOf]⟩
          · rw [show ((a : Int) - 1 + 1).toNat = a by omega, HNX.out.1, e1]; exact H3.out
          · rw [show ((a : Int) - 1 + 1).toNat = a by omega, HNX.out.2, e2]; exact HD3.out
        · have hge := (cmpN_nonneg (show M ≤ R by omega)).1
          have hge2 := (cmpN_nonneg (show M ≤ R by omega)).2
          have HLT2 := Lib.hid (show M ≤ R by omega); clear hlt
          generalize cmpN R M = z at *
          have tz : decide (0 ≤ z) = true := by simp; omega
          have hdd2 : dd + 1 ≤ 9 := by
            rcases Nat.lt_or_ge dd 9 with h | h
            · omega
            · have h1 := HE.out
              have h2 := HLT.out
              have h3 := HLT2.out
              obtain rfl : dd = 9 := by omega
              omega
          have hk' : k' ≤ m + 1 := HD2.out.len (by
            have h1 := HE.out
            have h2 := HLT.out
            have h3 := HBn.out.lt
            rw [Nat.pow_succ]
            have : R ≤ R1 := by rw [← h1]; exact Nat.le_add_right _ _
            omega)
          go_wp2_with fail
          refine (rsub_any B' k' c' R B m d M _ HD2.out (HBn.out.new (bthen HB.out HB2.out HB.out.size)) (by omega) (by omega)).mono ?_
          rintro e w3 ⟨-, h2⟩
          obtain ⟨A3, k3, c3, rfl, h3, hb⟩ := h2 HLT2.out
          have H3 := Lib.hid h3; clear h3 h2
          replace HB2 := Lib.hid (bthen HB2.out hb HB2.out.size); clear hb
          go_wp2_with fail
          refine ⟨⟨A3, k3, c3, dd + 1, R - M, rfl, by simp, hdd2, Lib.hid ⟨?_, H3.out, HB2.out⟩⟩, by simp [intOf]; omega⟩
          have h1 := HE.out
          have h3 := HLT2.out
          rw [Nat.succ_mul]; omega
    · have ha4 : a = -1 := by omega
      subst ha4
      go_wp2_with fail
      refine bodyPost_end (results_tmp2 rfl _ _ _) rfl ?_
      have h := HJ.out
      rw [show ((-1 : Int) + 1).toNat = 0 from rfl, List.drop_zero, N1.out.1] at h
      exact ⟨Bq, kq, cq, Br, kr, cr, rfl, h.1, h.2.1, h.2.2⟩
end Go.Proofs.Ytnpokifmknepoaa
