/-
Contract of cover.newton.
Contracts of cover.Bound and Within. Printed by gen/scv.py.
law29.awake. Printed by gen/scv.py.
The walk of CoverSubsets. Printed by gen/scv.py.
-/
import Derived.Test.YtpnklmgfdihjfaaK15
import Derived.Test.YtpnklmgfdihjfaaK14
import Derived.Test.YtpnklmgfdihjfaaK13
namespace Go.Proofs.Ytpnklmgfdihjfaa
open Go.RowKit
set_option linter.unusedVariables false
set_option linter.unusedSimpArgs false

theorem pow_bits {P b k : Nat} (h : P < 2 ^ b) {y : Nat} (hy : y ^ (k + 1) ≤ P) : y ≤ 2 ^ ((b + k) / (k + 1)) := by
  refine Classical.byContradiction fun hc => ?_
  have h1 : (2 ^ ((b + k) / (k + 1))) ^ (k + 1) ≤ y ^ (k + 1) := Nat.pow_le_pow_left (by omega) _
  rw [← Nat.pow_mul] at h1
  have h2 : b ≤ (b + k) / (k + 1) * (k + 1) := by
    have := Nat.div_add_mod (b + k) (k + 1)
    have := Nat.mod_lt (b + k) (show 0 < k + 1 by omega)
    rw [Nat.mul_comm]; omega
  have h3 := Nat.pow_le_pow_right (show 0 < 2 by decide) h2
  omega
set_option maxRecDepth 100000 in
set_option maxHeartbeats 8000000 in
theorem newton_any {A : Option Addr} {n c a P k : Nat} {w : World} (ha : Num w A n c a P) (hk : 1 ≤ k ∧ k ≤ 8) (ha5 : a ≤ 500) (hP : 1 ≤ P) :
    Calls Try.prog 83 #[.slice A n c, .int .i64 ((k : Int) + 1)] w (fun e w' => ∃ (A' : Option Addr) (n' c' r : Nat), e = .returned (.slice A' n' c') ∧ Num w' A' n' c' 600 r ∧ IsRoot P (k + 1) r ∧ Below w.heap.size w w') := by
  have HA := Lib.hid ha; clear ha
  have ek : (k : Int) + 1 - 1 = (k : Int) := by omega
  go_enter Try.func83, Try.ntmps83
  go_wp2_with fail
  refine (bits_n HA.out).mono ?_
  rintro e w1 ⟨b, rfl, hbits, hb3, rfl⟩
  have hPb : P < 2 ^ b := by rcases hbits with ⟨rfl, rfl⟩ | ⟨-, -, h⟩; exact Nat.one_pos; exact h
  have hb32 : b ≤ 32 * a := by
    refine Classical.byContradiction fun hc => ?_
    rcases hbits with ⟨-, h⟩ | ⟨h1, h2, h3⟩
    · omega
    · have h4 := HA.out.2.2.2.1
      have h5 : 2 ^ (32 * a) ≤ 2 ^ (b - 1) := Nat.pow_le_pow_right (by decide) (by omega)
      have h6 : PB a = 2 ^ (32 * a) := by unfold PB; rw [Nat.pow_mul]
      omega
  have HPb := Lib.hid hPb; clear hbits hPb
  obtain ⟨i, hi⟩ : ∃ i, i = (b + k) / (k + 1) := ⟨_, rfl⟩
  have hq : Int.tdiv ((b : Int) + k) ((k : Int) + 1) = (i : Int) := by
    rw [hi, show (b : Int) + k = ((b + k : Nat) : Int) by omega, show (k : Int) + 1 = ((k + 1 : Nat) : Int) by omega, ← Int.ofNat_tdiv]
  have eb : (b : Int) + ((k : Int) + 1) - 1 = (b : Int) + k := by omega
  have hib : i ≤ b := by
    rw [hi]
    have : (b + k) / (k + 1) < b + 1 := by
      rw [Nat.div_lt_iff_lt_mul (by omega), Nat.add_mul, Nat.mul_add]
      have := Nat.zero_le (b * k)
      omega
    omega
  have HI := Lib.hid hi; clear hi
  go_wp2_with fail
  refine (bit_any i (by omega) w).mono ?_
  rintro e w2 ⟨A0, n0, c0, rfl, h0, hb⟩
  obtain ⟨K, hK⟩ : ∃ K, K = i / 32 + 1 := ⟨_, rfl⟩
  rw [← hK] at h0
  have hK5 : K ≤ 501 := by omega
  have HS := Lib.hid (show Num w2 A0 n0 c0 K (2 ^ i) ∧ 0 < 2 ^ i ∧ (∀ y, y ^ (k + 1) ≤ P → y ≤ 2 ^ i) ∧ Num w2 A n c a P ∧ Below w.heap.size w w2 from ⟨h0, Nat.pow_pos (by decide), fun y hy => by rw [HI.out]; exact pow_bits HPb.out hy, HA.out.new hb, hb⟩)
  clear h0 hb hK hq eb hib HI HPb hb32 hb3 HA
  go_wp2_with fail
  go_loopg [5] (2 ^ i + 1) (fun g xv wr => ∃ (A1 : Option Addr) (n1 c1 x : Nat), xv = .slice A1 n1 c1 ∧ x < g ∧ Hid (Num wr A1 n1 c1 K x ∧ 0 < x ∧ (∀ y, y ^ (k + 1) ≤ P → y ≤ x) ∧ Num wr A n c a P ∧ Below w.heap.size w wr))
  case atStart => exact ⟨A0, n0, c0, 2 ^ i, rfl, by omega, HS⟩
  case round =>
    obtain ⟨A1, n1, c1, x, rfl, hxg, HI⟩ := hrel
    clear HS
    obtain ⟨G, hG⟩ : ∃ G, G = gk := ⟨_, rfl⟩
    subst hG
    go_wp2_with fail
    refine (of_n 1 (by omega) _).mono ?_
    rintro e w3 ⟨A2, n2, c2, rfl, h2, -, hb⟩
    have HJ := Lib.hid (show Num w3 A1 n1 c1 K x ∧ 0 < x ∧ (∀ y, y ^ (k + 1) ≤ P → y ≤ x) ∧ Num w3 A n c a P ∧ Below w.heap.size w w3 from ⟨HI.out.1.new hb, HI.out.2.1, HI.out.2.2.1, HI.out.2.2.2.1.new hb, bthen HI.out.2.2.2.2 hb HI.out.2.2.2.2.size⟩)
    have HO := Lib.hid h2
    clear h2 hb HI
    go_wp2_with fail
    go_loopg [25, 6] k (fun g iv bv wq => ∃ (j : Nat) (A3 : Option Addr) (n3 c3 : Nat), iv = .int .i64 j ∧ bv = .slice A3 n3 c3 ∧ j + g = k ∧ Hid (Num wq A3 n3 c3 (2 + j * K) (x ^ j) ∧ Below w3.heap.size w3 wq))
    case atStart => exact ⟨0, A2, n2, c2, rfl, rfl, by omega, Lib.hid ⟨by rw [Nat.zero_mul, Nat.pow_zero]; exact HO.out, Below.refl _ _⟩⟩
    case round =>
      obtain ⟨j, A3, n3, c3, rfl, rfl, hjk, HL⟩ := hrel
      clear HO
      have hjK : j * K ≤ 8 * 501 := Nat.mul_le_mul (by omega) hK5
      by_cases hj : j < k
      · have j1 : ((j : Int) < (k : Int)) := by omega
        go_wp2_with fail
        refine (mul_n HL.out.1 (HJ.out.1.new HL.out.2) (by omega)).mono ?_
        rintro e w4 ⟨A4, n4, c4, rfl, h4, -, hb⟩
        have HL2 := Lib.hid (show Num w4 A4 n4 c4 (2 + (j + 1) * K) (x ^ (j + 1)) ∧ Below w3.heap.size w3 w4 from ⟨by rw [Nat.pow_succ, Nat.add_mul, Nat.one_mul, ← Nat.add_assoc]; exact h4, bthen HL.out.2 hb HL.out.2.size⟩)
        clear h4 hb HL
        go_wp2_with fail
        go_roundg (gk - 1)
        case measure => omega
        case rel => exact ⟨j + 1, A4, n4, c4, by go_num, rfl, by omega, HL2⟩
      · obtain rfl : k = j := by omega
        go_wp2_with fail
        refine (dm_n (HJ.out.2.2.2.1.new HL.out.2) HL.out.1 (by omega) (by omega)).mono ?_
        rintro e w4 ⟨-, h4⟩
        obtain ⟨A4, n4, c4, A5, n5, c5, rfl, ⟨h4, -⟩, -, hb⟩ := h4 (by have := Nat.pow_pos (n := k) HJ.out.2.1; omega)
        have hb34 := bthen HL.out.2 hb HL.out.2.size
        have HM := Lib.hid (show Num w4 A4 n4 c4 a (P / x ^ k) ∧ Num w4 A1 n1 c1 K x ∧ Num w4 A n c a P ∧ Below w.heap.size w w4 from ⟨h4, HJ.out.1.new hb34, HJ.out.2.2.2.1.new hb34, bthen HJ.out.2.2.2.2 hb34 HJ.out.2.2.2.2.size⟩)
        have HF := Lib.hid (show 0 < x ∧ (∀ y, y ^ (k + 1) ≤ P → y ≤ x) from ⟨HJ.out.2.1, HJ.out.2.2.1⟩)
        clear h4 hb hb34 HL HJ
        have e1 : IntKind.u64.wrap (k : Int) = (k : Int) := IntWalk.u64_in _ (by omega)
        have e2 : IntKind.u64.wrap ((k : Int) + 1) = ((k + 1 : Nat) : Int) := by rw [IntWalk.u64_in _ (by omega)]; omega
        go_wp2_with fail
        refine (of_n k (by omega) _).mono ?_
        rintro e w5 ⟨A6, n6, c6, rfl, h6, -, hb⟩
        have HM2 := Lib.hid (show Num w5 A4 n4 c4 a (P / x ^ k) ∧ Num w5 A1 n1 c1 K x ∧ Num w5 A n c a P ∧ Below w.heap.size w w5 from ⟨HM.out.1.new hb, HM.out.2.1.new hb, HM.out.2.2.1.new hb, bthen HM.out.2.2.2 hb HM.out.2.2.2.size⟩)
        have H6 := Lib.hid h6
        clear h6 hb HM
        go_wp2_with fail
        refine (mul_n H6.out HM2.out.2.1 (by omega)).mono ?_
        rintro e w6 ⟨A7, n7, c7, rfl, h7, -, hb⟩
        have HM3 := Lib.hid (show Num w6 A4 n4 c4 a (P / x ^ k) ∧ Num w6 A1 n1 c1 K x ∧ Num w6 A n c a P ∧ Below w.heap.size w w6 from ⟨HM2.out.1.new hb, HM2.out.2.1.new hb, HM2.out.2.2.1.new hb, bthen HM2.out.2.2.2 hb HM2.out.2.2.2.size⟩)
        have H7 := Lib.hid h7
        clear h7 hb HM2 H6
        go_wp2_with fail
        refine (add_n H7.out HM3.out.1 (by omega)).mono ?_
        rintro e w7 ⟨A8, n8, c8, rfl, h8, -, hb⟩
        have HM4 := Lib.hid (show Num w7 A1 n1 c1 K x ∧ Num w7 A n c a P ∧ Below w.heap.size w w7 from ⟨HM3.out.2.1.new hb, HM3.out.2.2.1.new hb, bthen HM3.out.2.2.2 hb HM3.out.2.2.2.size⟩)
        have H8 := Lib.hid h8
        clear h8 hb HM3 H7
        go_wp2_with fail
        refine (of_n (k + 1) (by omega) _).mono ?_
        rintro e w8 ⟨A9, n9, c9, rfl, h9, -, hb⟩
        have HM5 := Lib.hid (show Num w8 A1 n1 c1 K x ∧ Num w8 A n c a P ∧ Below w.heap.size w w8 ∧ Num w8 A8 n8 c8 (2 + K + a) (k * x + P / x ^ k) from ⟨HM4.out.1.new hb, HM4.out.2.1.new hb, bthen HM4.out.2.2 hb HM4.out.2.2.size, H8.out.new hb⟩)
        have H9 := Lib.hid h9
        clear h9 hb HM4 H8
        go_wp2_with fail
        refine (dm_n HM5.out.2.2.2 H9.out (by omega) (by omega)).mono ?_
        rintro e wa ⟨-, ha⟩
        obtain ⟨Aa, na, ca, Ab, nb, cb, rfl, ⟨ha, -⟩, -, hb⟩ := ha (by omega)
        have HM6 := Lib.hid (show Num wa A1 n1 c1 K x ∧ Num wa A n c a P ∧ Below w.heap.size w wa ∧ Num wa Aa na ca (2 + K + a) (nstep P k x) from ⟨HM5.out.1.new hb, HM5.out.2.1.new hb, bthen HM5.out.2.2.1 hb HM5.out.2.2.1.size, ha⟩)
        clear ha hb HM5 H9
        go_wp2_with fail
        refine (cmp_n HM6.out.2.2.2 HM6.out.1).mono ?_
        rintro e wb ⟨rfl, hb⟩
        have HM7 := Lib.hid (show Num wb A1 n1 c1 K x ∧ Num wb A n c a P ∧ Below w.heap.size w wb ∧ Num wb Aa na ca (2 + K + a) (nstep P k x) from ⟨HM6.out.1.new hb, HM6.out.2.1.new hb, bthen HM6.out.2.2.1 hb HM6.out.2.2.1.size, HM6.out.2.2.2.new hb⟩)
        clear hb HM6 e1 e2
        by_cases hs : x ≤ nstep P k x
        · have t0 : (cmpN (nstep P k x) x ≥ 0) := by unfold cmpN; split; omega; split <;> omega
          have HS2 := Lib.hid hs; clear hs
          go_wp2_with fail
          go_ret
          exact ⟨_, _, _, x, rfl, HM7.out.1.more (by omega), IsRoot.of_max (nstep_stop HF.out.1 HS2.out) HF.out.2, HM7.out.2.2.1⟩
        · have t0 : ¬ (cmpN (nstep P k x) x ≥ 0) := by unfold cmpN; rw [if_pos (by omega)]; omega
          have hlt : nstep P k x < x := by omega
          have HS2 := Lib.hid hs; clear hs
          have HN := Lib.hid (show Num wb Aa na ca K (nstep P k x) ∧ 0 < nstep P k x ∧ (∀ y, y ^ (k + 1) ≤ P → y ≤ nstep P k x) ∧ Num wb A n c a P ∧ Below w.heap.size w wb from ⟨HM7.out.2.2.2.up (Nat.lt_trans hlt HM7.out.1.2.2.2.1) HM7.out.1.2.1, nstep_ge (y := 1) HF.out.1 (by rw [Nat.one_pow]; exact hP), fun y hy => nstep_ge HF.out.1 hy, HM7.out.2.1, HM7.out.2.2.1⟩)
          go_wp2_with fail
          go_roundg (nstep P k x + 1)
          case measure => omega
          case rel => exact ⟨Aa, na, ca, nstep P k x, rfl, by omega, HN⟩
set_option maxRecDepth 100000 in
set_option maxHeartbeats 8000000 in
/-- root, for exponents up to 9. -/
theorem root_any {A : Option Addr} {n c a P k : Nat} {w : World} (ha : Num w A n c a P) (hk : k ≤ 8) (ha5 : a ≤ 500) :
    Calls Try.prog 46 #[.slice A n c, .int .i64 ((k : Int) + 1)] w (fun e w' => ∃ (A' : Option Addr) (n' c' r : Nat), e = .returned (.slice A' n' c') ∧ Num w' A' n' c' 600 r ∧ IsRoot P (k + 1) r ∧ Below w.heap.size w w') := by
  have HA := Lib.hid ha; clear ha
  go_enter Try.func46, Try.ntmps46
  go_wp2_with fail
  refine (bits_n HA.out).mono ?_
  rintro e w1 ⟨b, rfl, hbits, hb3, rfl⟩
  by_cases hb1 : b ≤ 1
  · have t0 : decide ((b : Int) ≤ 1) = true := by simp; omega
    have hP1 : P ≤ 1 := by
      rcases hbits with ⟨rfl, _⟩ | ⟨h1, h2, h3⟩
      · omega
      · have : b = 1 := by omega
        subst this
        omega
    have HP1 := Lib.hid hP1; clear hbits hP1
    go_wp2_with fail
    refine (norm_n HA.out (by omega)).mono ?_
    rintro e w2 ⟨A2, n2, c2, rfl, h2, -, hb⟩
    have H2 := Lib.hid (show Num w2 A2 n2 c2 600 P ∧ Below w.heap.size w w2 from ⟨h2.more (by omega), hb⟩)
    clear h2 hb
    go_wp2_with fail
    go_ret
    exact ⟨_, _, _, P, rfl, H2.out.1, root_small (by omega) HP1.out, H2.out.2⟩
  · have t0 : decide ((b : Int) ≤ 1) = false := by simp; omega
    have hP2 : 2 ≤ P ∧ P < 2 ^ b := by
      rcases hbits with ⟨_, h⟩ | ⟨h1, h2, h3⟩
      · omega
      · exact ⟨Nat.le_trans (show 2 ≤ 2 ^ (b - 1) from Nat.le_trans (show 2 ≤ 2 ^ 1 by decide) (Nat.pow_le_pow_right (by decide) (by omega))) h2, h3⟩
    have HP2 := Lib.hid hP2; clear hbits hP2
    by_cases hk0 : k = 0
    · subst hk0
      go_wp2_with fail
      refine (norm_n HA.out (by omega)).mono ?_
      rintro e w2 ⟨A2, n2, c2, rfl, h2, -, hb⟩
      have H2 := Lib.hid (show Num w2 A2 n2 c2 600 P ∧ Below w.heap.size w w2 from ⟨h2.more (by omega), hb⟩)
      clear h2 hb
      go_wp2_with fail
      go_ret
      exact ⟨_, _, _, P, rfl, H2.out.1, root_exp1 P, H2.out.2⟩
    · have t1 : ((k : Int) + 1 == 1) = false := by simp; omega
      by_cases hkb : b ≤ k + 1
      · have t2 : ((k : Int) + 1 ≥ (b : Int)) := by omega
        go_wp2_with fail
        refine (of_n 1 (by omega) _).mono ?_
        rintro e w2 ⟨A2, n2, c2, rfl, h2, -, hb⟩
        have H2 := Lib.hid (show Num w2 A2 n2 c2 600 1 ∧ Below w.heap.size w w2 from ⟨h2.more (by omega), hb⟩)
        clear h2 hb
        go_wp2_with fail
        go_ret
        exact ⟨_, _, _, 1, rfl, H2.out.1, root_one (by have := HP2.out.1; omega) (Nat.lt_of_lt_of_le HP2.out.2 (Nat.pow_le_pow_right (by decide) hkb)), H2.out.2⟩
      · have t2 : ¬ ((k : Int) + 1 ≥ (b : Int)) := by omega
        have t3 : ((k : Int) + 1 ≤ 64) := by omega
        go_wp2_with fail
        refine (newton_any HA.out (by omega) ha5 (by have := HP2.out.1; omega)).mono ?_
        rintro e w2 ⟨A2, n2, c2, r, rfl, h2, h3, hb⟩
        have H2 := Lib.hid (show Num w2 A2 n2 c2 600 r ∧ IsRoot P (k + 1) r ∧ Below w.heap.size w w2 from ⟨h2, h3, hb⟩)
        clear h2 h3 hb
        go_wp2_with fail
        go_ret
        exact ⟨_, _, _, r, rfl, H2.out.1, H2.out.2.1, H2.out.2.2⟩
end Go.Proofs.Ytpnklmgfdihjfaa
namespace Go.Proofs.Ytpnklmgfdihjfaa
open Go.RowKit
set_option linter.unusedVariables false
set_option linter.unusedSimpArgs false

theorem SzR.zero {l m : Nat} {xs : List Int} {W : Nat → Rat} (h : SzR l m xs W 0) : l = m ∧ ∀ j, j < m → 0 ≤ inth xs j ∧ 0 ≤ W j := by
  have e : l = m := by
    by_cases e : l = m
    · exact e
    · have := h.1 e; omega
  refine ⟨e, fun j hj => ?_⟩
  by_cases h0 : 0 ≤ inth xs j ∧ 0 ≤ W j
  · exact h0
  · have := h.2.1 e ⟨j, hj, h0⟩; omega
/-- What a bound needs of weights and sizes. -/
def BdP (m : Nat) (W : Nat → Rat) (xs : List Int) : Prop := dlcm W m ≤ 9 ∧ ∀ i, i < m → inth xs i ≤ 1000000 ∧ expW (W i) (dlcm W m) ≤ 1000 ∧ (inth xs i).toNat ^ expW (W i) (dlcm W m) < PB 60
/-- What Bound answers. -/
def BndR (l m : Nat) (xs : List Int) (W : Nat → Rat) (v : Value) (w : World) : Prop := (∃ z : Int, z ≠ 0 ∧ SzR l m xs W z ∧ v = .tuple #[.slice none 0 0, .int .i64 z]) ∨ (l = m ∧ (∀ j, j < m → 0 ≤ inth xs j ∧ 0 ≤ W j) ∧ ∃ (A : Option Addr) (k c r : Nat), v = .tuple #[.slice A k c, .int .i64 0] ∧ Num w A k c 600 r ∧ IsRoot (prodP xs W (dlcm W m) m) (dlcm W m) r)
/-- What Within answers. -/
def WinR (N l m : Nat) (xs : List Int) (W : Nat → Rat) (v : Value) : Prop := (∃ z : Int, z ≠ 0 ∧ SzR l m xs W z ∧ v = .tuple #[.bool false, .int .i64 z]) ∨ (l = m ∧ (∀ j, j < m → 0 ≤ inth xs j ∧ 0 ≤ W j) ∧ v = .tuple #[.bool (decide (N ^ dlcm W m ≤ prodP xs W (dlcm W m) m)), .int .i64 0])
theorem nine2 {n : Nat} (h : n ≤ 9) : n < PB 2 := Nat.lt_of_le_of_lt h (by rw [PB]; decide)
theorem cmp_le0 {N M : Nat} : decide (cmpN N M ≤ 0) = decide (N ≤ M) := by
  unfold cmpN
  by_cases h : N < M
  · rw [if_pos h]; simp; omega
  · rw [if_neg h]
    by_cases h2 : M < N
    · rw [if_pos h2]; simp; omega
    · rw [if_neg h2]; simp; omega
set_option maxRecDepth 100000 in
set_option maxHeartbeats 8000000 in
theorem cvbound_any (l m np cw cp cx b : Nat) (AW AP AX : Option Addr) (s0 : Bool) (A0 B0 : Option Addr) (k0 c0 m0 d0 : Nat) (W : Nat → Rat) (xs : List Int) (w : World) (hW : Rs w w.heap.size AW m (PW w b W)) (hX : Xs w w.heap.size AX l xs) (hl : l ≤ 1000) (hm : m ≤ 8) (hb : 2 + b ≤ 4900) (hBd : l = m → (∀ j, j < m → 0 ≤ inth xs j ∧ 0 ≤ W j) → BdP m W xs) :
    Calls Try.prog 17 #[.agg #[.slice AW m cw, .slice AP np cp, .bool s0, .slice A0 k0 c0, .slice B0 m0 d0], .slice AX l cx] w (RV w (BndR l m xs W)) := by
  have HW := Lib.hid hW; have HX := Lib.hid hX; have HBd := Lib.hid hBd
  clear hW hX hBd
  go_enter Try.func17, Try.ntmps17
  go_upto_region 1 with (fail)
  have hbw := al w (.cells #[.slice AW m cw, .slice AP np cp, .bool s0, .slice A0 k0 c0, .slice B0 m0 d0] 33)
  have HCv := Lib.hid (Blk.new w 33 #[.slice AW m cw, .slice AP np cp, .bool s0, .slice A0 k0 c0, .slice B0 m0 d0])
  have HB := Lib.hid hbw
  replace HW := Lib.hid (Rs.newW HW.out hbw)
  replace HX := Lib.hid (HX.out.new hbw)
  clear hbw
  generalize w.alloc (.cells #[.slice AW m cw, .slice AP np cp, .bool s0, .slice A0 k0 c0, .slice B0 m0 d0] 33) = w1 at *
  obtain ⟨g4, hg4⟩ : ∃ g4, g4 = w.heap.size := ⟨_, rfl⟩
  rw [← hg4] at HCv ⊢
  have HGg4 := Lib.hid (show w.heap.size ≤ g4 from by omega)
  clear hg4
  have x0 := Blk.at0 HCv.out (Below.refl _ _); have x1 := Blk.at1 HCv.out (Below.refl _ _); have x2 := Blk.at2 HCv.out (Below.refl _ _); have x3 := Blk.at3 HCv.out (Below.refl _ _); have x4 := Blk.at4 HCv.out (Below.refl _ _)
  go_wp2_with fail
  refine (sizes_any l m np cw cp cx b AW AP AX s0 A0 B0 k0 c0 m0 d0 W xs w1 HW.out HX.out (by omega)).mono ?_
  rintro e w2 ⟨z, rfl, hz, hb⟩
  clear x0 x1 x2 x3 x4
  have HSz := Lib.hid hz; clear hz
  replace HW := Lib.hid (Rs.newW HW.out hb)
  replace HX := Lib.hid (HX.out.new hb)
  replace HB := Lib.hid (bthen HB.out hb HB.out.size)
  replace HCv := Lib.hid (HCv.out.keep hb)
  clear hb
  by_cases hz0 : z = 0
  rotate_left
  · have t0 : (z != 0) = true := by simpa using hz0
    go_wp2_with fail
    first | exact bodyPost_ret (results_tmp2 rfl _ _ _) rfl ⟨_, rfl, .inl ⟨z, hz0, HSz.out, rfl⟩, HB.out⟩ | exact bodyPost_end (results_tmp2 rfl _ _ _) rfl ⟨_, rfl, .inl ⟨z, hz0, HSz.out, rfl⟩, HB.out⟩
  subst hz0
  obtain ⟨hlm, hok⟩ := HSz.out.zero
  subst hlm
  have HOk := Lib.hid hok
  obtain ⟨hd9, hbd⟩ := HBd.out rfl hok
  obtain ⟨D, hD⟩ : ∃ D, D = dlcm W l := ⟨_, rfl⟩
  rw [← hD] at hd9 hbd
  have HD := Lib.hid hD; have HBe := Lib.hid hbd
  have HD9 := Lib.hid hd9; have HD0 := Lib.hid (show D ≠ 0 by rw [hD]; exact dlcm_ne W l)
  clear hD hbd hok HBd hd9
  have x0 := Blk.at0 HCv.out (Below.refl _ _)
  go_wp2_with fail
  refine (denom_any l cw b AW W w2 HW.out (by omega) (by omega) (by rw [← HD.out]; exact nine2 HD9.out)).mono ?_
  rintro e w3 ⟨A1, n1, c1, rfl, h1, hb⟩
  clear x0
  rw [← HD.out] at h1
  have HDn := Lib.hid h1; clear h1
  replace HW := Lib.hid (Rs.newW HW.out hb)
  replace HX := Lib.hid (HX.out.new hb)
  replace HB := Lib.hid (bthen HB.out hb HB.out.size)
  replace HCv := Lib.hid (HCv.out.keep hb)
  clear hb
  go_wp2_with fail
  refine (exponent_ok HDn.out (by have := HD9.out; omega)).mono ?_
  rintro e w4 ⟨rfl, rfl⟩
  have x0 := Blk.at0 HCv.out (Below.refl _ _)
  go_wp2_with fail
  refine (prod_any l cw b D l cx n1 c1 AW AX A1 W xs _ HW.out HX.out HDn.out (by omega) (by omega) (fun i hi => ⟨⟨(HOk.out i hi).1, (HBe.out i hi).1⟩, (HBe.out i hi).2⟩)).mono ?_
  rintro e w5 ⟨v5, rfl, ⟨A5, n5, c5, rfl, h5⟩, hb⟩
  clear x0
  have HQ := Lib.hid h5; clear h5
  replace HW := Lib.hid (Rs.newW HW.out hb)
  replace HX := Lib.hid (HX.out.new hb)
  replace HB := Lib.hid (bthen HB.out hb HB.out.size)
  replace HCv := Lib.hid (HCv.out.keep hb)
  replace HDn := Lib.hid (HDn.out.new hb)
  clear hb
  obtain ⟨k, hk⟩ : ∃ k, k + 1 = D := ⟨D - 1, by have := HD0.out; omega⟩
  have hk8 : k ≤ 8 := by have := HD9.out; omega
  have HK := Lib.hid hk
  have ek : ((D : Nat) : Int) = (k : Int) + 1 := by omega
  rw [ek]
  clear hk ek
  go_wp2_with fail
  refine (root_any HQ.out hk8 (by omega)).mono ?_
  rintro e w6 ⟨A6, n6, c6, r, rfl, h6, hr, hb⟩
  have HR := Lib.hid h6; have HRt := Lib.hid hr; clear h6 hr
  replace HW := Lib.hid (Rs.newW HW.out hb)
  replace HX := Lib.hid (HX.out.new hb)
  replace HB := Lib.hid (bthen HB.out hb HB.out.size)
  replace HCv := Lib.hid (HCv.out.keep hb)
  replace HDn := Lib.hid (HDn.out.new hb)
  replace HQ := Lib.hid (HQ.out.new hb)
  clear hb
  go_wp2_with fail
  first | exact bodyPost_ret (results_tmp2 rfl _ _ _) rfl ⟨_, rfl, .inr ⟨rfl, HOk.out, _, _, _, r, rfl, HR.out, by rw [← HD.out]; have hq := HRt.out; rw [HK.out] at hq; exact hq⟩, HB.out⟩ | exact bodyPost_end (results_tmp2 rfl _ _ _) rfl ⟨_, rfl, .inr ⟨rfl, HOk.out, _, _, _, r, rfl, HR.out, by rw [← HD.out]; have hq := HRt.out; rw [HK.out] at hq; exact hq⟩, HB.out⟩
set_option maxRecDepth 100000 in
set_option maxHeartbeats 8000000 in
theorem cvwithin_any (AC : Option Addr) (nC cC a N : Nat) (l m np cw cp cx b : Nat) (AW AP AX : Option Addr) (s0 : Bool) (A0 B0 : Option Addr) (k0 c0 m0 d0 : Nat) (W : Nat → Rat) (xs : List Int) (w : World) (hW : Rs w w.heap.size AW m (PW w b W)) (hX : Xs w w.heap.size AX l xs) (hl : l ≤ 1000) (hm : m ≤ 8) (hb : 2 + b ≤ 4900) (hBd : l = m → (∀ j, j < m → 0 ≤ inth xs j ∧ 0 ≤ W j) → BdP m W xs) (hC : Num w AC nC cC a N) (hF : l = m → (∀ j, j < m → 0 ≤ inth xs j ∧ 0 ≤ W j) → N ^ dlcm W m < bigP) :
    Calls Try.prog 16 #[.slice AC nC cC, .agg #[.slice AW m cw, .slice AP np cp, .bool s0, .slice A0 k0 c0, .slice B0 m0 d0], .slice AX l cx] w (RV w (fun v _ => WinR N l m xs W v)) := by
  have HW := Lib.hid hW; have HX := Lib.hid hX; have HBd := Lib.hid hBd; have HC := Lib.hid hC; have HF := Lib.hid hF
  clear hW hX hBd hC hF
  go_enter Try.func16, Try.ntmps16
  go_upto_region 1 with (fail)
  have hbw := al w (.cells #[.slice AW m cw, .slice AP np cp, .bool s0, .slice A0 k0 c0, .slice B0 m0 d0] 33)
  have HCv := Lib.hid (Blk.new w 33 #[.slice AW m cw, .slice AP np cp, .bool s0, .slice A0 k0 c0, .slice B0 m0 d0])
  have HB := Lib.hid hbw
  replace HW := Lib.hid (Rs.newW HW.out hbw)
  replace HX := Lib.hid (HX.out.new hbw)
  replace HC := Lib.hid (HC.out.new hbw)
  clear hbw
  generalize w.alloc (.cells #[.slice AW m cw, .slice AP np cp, .bool s0, .slice A0 k0 c0, .slice B0 m0 d0] 33) = w1 at *
  obtain ⟨g4, hg4⟩ : ∃ g4, g4 = w.heap.size := ⟨_, rfl⟩
  rw [← hg4] at HCv ⊢
  have HGg4 := Lib.hid (show w.heap.size ≤ g4 from by omega)
  clear hg4
  have x0 := Blk.at0 HCv.out (Below.refl _ _); have x1 := Blk.at1 HCv.out (Below.refl _ _); have x2 := Blk.at2 HCv.out (Below.refl _ _); have x3 := Blk.at3 HCv.out (Below.refl _ _); have x4 := Blk.at4 HCv.out (Below.refl _ _)
  go_wp2_with fail
  refine (sizes_any l m np cw cp cx b AW AP AX s0 A0 B0 k0 c0 m0 d0 W xs w1 HW.out HX.out (by omega)).mono ?_
  rintro e w2 ⟨z, rfl, hz, hb⟩
  clear x0 x1 x2 x3 x4
  have HSz := Lib.hid hz; clear hz
  replace HW := Lib.hid (Rs.newW HW.out hb)
  replace HX := Lib.hid (HX.out.new hb)
  replace HC := Lib.hid (HC.out.new hb)
  replace HB := Lib.hid (bthen HB.out hb HB.out.size)
  replace HCv := Lib.hid (HCv.out.keep hb)
  clear hb
  by_cases hz0 : z = 0
  rotate_left
  · have t0 : (z != 0) = true := by simpa using hz0
    go_wp2_with fail
    first | exact bodyPost_ret (results_tmp2 rfl _ _ _) rfl ⟨_, rfl, .inl ⟨z, hz0, HSz.out, rfl⟩, HB.out⟩ | exact bodyPost_end (results_tmp2 rfl _ _ _) rfl ⟨_, rfl, .inl ⟨z, hz0, HSz.out, rfl⟩, HB.out⟩
  subst hz0
  obtain ⟨hlm, hok⟩ := HSz.out.zero
  subst hlm
  have HOk := Lib.hid hok
  obtain ⟨hd9, hbd⟩ := HBd.out rfl hok
  obtain ⟨D, hD⟩ : ∃ D, D = dlcm W l := ⟨_, rfl⟩
  rw [← hD] at hd9 hbd
  have HD := Lib.hid hD; have HBe := Lib.hid hbd
  have HD9 := Lib.hid hd9; have HD0 := Lib.hid (show D ≠ 0 by rw [hD]; exact dlcm_ne W l)
  clear hD hbd hok HBd hd9
  have HF2 := Lib.hid (show N ^ D < bigP by rw [HD.out]; exact HF.out rfl HOk.out)
  clear HF
  have x0 := Blk.at0 HCv.out (Below.refl _ _)
  go_wp2_with fail
  refine (denom_any l cw b AW W w2 HW.out (by omega) (by omega) (by rw [← HD.out]; exact nine2 HD9.out)).mono ?_
  rintro e w3 ⟨A1, n1, c1, rfl, h1, hb⟩
  clear x0
  rw [← HD.out] at h1
  have HDn := Lib.hid h1; clear h1
  replace HW := Lib.hid (Rs.newW HW.out hb)
  replace HX := Lib.hid (HX.out.new hb)
  replace HC := Lib.hid (HC.out.new hb)
  replace HB := Lib.hid (bthen HB.out hb HB.out.size)
  replace HCv := Lib.hid (HCv.out.keep hb)
  clear hb
  go_wp2_with fail
  refine (pow_nv ⟨_, _, _, rfl, HC.out⟩ ⟨_, _, _, rfl, HDn.out⟩ (by have := HD9.out; omega) HF2.out).mono ?_
  rintro e w4 ⟨v4, rfl, ⟨A14, n4, c4, rfl, h4⟩, hb⟩
  have HP := Lib.hid h4; clear h4
  replace HW := Lib.hid (Rs.newW HW.out hb)
  replace HX := Lib.hid (HX.out.new hb)
  replace HC := Lib.hid (HC.out.new hb)
  replace HB := Lib.hid (bthen HB.out hb HB.out.size)
  replace HCv := Lib.hid (HCv.out.keep hb)
  replace HDn := Lib.hid (HDn.out.new hb)
  clear hb
  have x0 := Blk.at0 HCv.out (Below.refl _ _)
  go_wp2_with fail
  refine (prod_any l cw b D l cx n1 c1 AW AX A1 W xs _ HW.out HX.out HDn.out (by omega) (by omega) (fun i hi => ⟨⟨(HOk.out i hi).1, (HBe.out i hi).1⟩, (HBe.out i hi).2⟩)).mono ?_
  rintro e w5 ⟨v5, rfl, ⟨A5, n5, c5, rfl, h5⟩, hb⟩
  clear x0
  have HQ := Lib.hid h5; clear h5
  replace HW := Lib.hid (Rs.newW HW.out hb)
  replace HX := Lib.hid (HX.out.new hb)
  replace HC := Lib.hid (HC.out.new hb)
  replace HB := Lib.hid (bthen HB.out hb HB.out.size)
  replace HCv := Lib.hid (HCv.out.keep hb)
  replace HDn := Lib.hid (HDn.out.new hb)
  replace HP := Lib.hid (HP.out.new hb)
  clear hb
  go_wp2_with fail
  refine (cmp_n HP.out HQ.out).mono ?_
  rintro e w6 ⟨rfl, hb⟩
  replace HW := Lib.hid (Rs.newW HW.out hb)
  replace HX := Lib.hid (HX.out.new hb)
  replace HC := Lib.hid (HC.out.new hb)
  replace HB := Lib.hid (bthen HB.out hb HB.out.size)
  replace HCv := Lib.hid (HCv.out.keep hb)
  replace HDn := Lib.hid (HDn.out.new hb)
  replace HP := Lib.hid (HP.out.new hb)
  replace HQ := Lib.hid (HQ.out.new hb)
  clear hb
  have t0 := cmp_le0 (N := N ^ D) (M := prodP xs W D l)
  go_wp2_with fail
  first | exact bodyPost_ret (results_tmp2 rfl _ _ _) rfl ⟨_, rfl, .inr ⟨rfl, HOk.out, by rw [← HD.out]; rfl⟩, HB.out⟩ | exact bodyPost_end (results_tmp2 rfl _ _ _) rfl ⟨_, rfl, .inr ⟨rfl, HOk.out, by rw [← HD.out]; rfl⟩, HB.out⟩
end Go.Proofs.Ytpnklmgfdihjfaa
namespace Go.Proofs.Ytpnklmgfdihjfaa
open Go.RowKit
set_option linter.unusedVariables false
set_option linter.unusedSimpArgs false

/-- The weights of the triangle. -/
def TriW (W : Nat → Rat) : Prop := W 0 = 1 / 2 ∧ W 1 = 1 / 2 ∧ W 2 = 1 / 2
theorem half_den : ((1 : Rat) / 2).den = 2 := by decide +kernel
theorem half_exp : expW (1 / 2) 2 = 1 := by decide +kernel
theorem TriW.d {W : Nat → Rat} (h : TriW W) : dlcm W 3 = 2 := by
  show Nat.lcm (Nat.lcm (Nat.lcm 1 (W 0).den) (W 1).den) (W 2).den = 2
  rw [h.1, h.2.1, h.2.2, half_den]; rfl
theorem TriW.p {W : Nat → Rat} (h : TriW W) (x y z : Int) : prodP [x, y, z] W 2 3 = x.toNat * y.toNat * z.toNat := by
  show 1 * x.toNat ^ expW (W 0) 2 * y.toNat ^ expW (W 1) 2 * z.toNat ^ expW (W 2) 2 = _
  rw [h.1, h.2.1, h.2.2, half_exp, Nat.pow_one, Nat.pow_one, Nat.pow_one, Nat.one_mul]
theorem TriW.ok {W : Nat → Rat} (h : TriW W) {x y z : Int} (hx : 0 ≤ x) (hy : 0 ≤ y) (hz : 0 ≤ z) : ∀ j, j < 3 → 0 ≤ inth [x, y, z] j ∧ 0 ≤ W j
  | 0, _ => ⟨hx, by rw [h.1]; decide +kernel⟩
  | 1, _ => ⟨hy, by rw [h.2.1]; decide +kernel⟩
  | 2, _ => ⟨hz, by rw [h.2.2]; decide +kernel⟩
  | n + 3, hj => absurd hj (by omega)
theorem small60 {n : Nat} (h : n ≤ 1000) : n ^ 1 < PB 60 := by
  rw [Nat.pow_one]
  exact Nat.lt_of_lt_of_le (show n < PB 1 by rw [PB]; omega) (PB_mono (by omega))
theorem TriW.bd {W : Nat → Rat} (h : TriW W) {x y z : Int} (hx : x ≤ 1000) (hy : y ≤ 1000) (hz : z ≤ 1000) : BdP 3 W [x, y, z] := by
  refine ⟨by rw [h.d]; decide, ?_⟩
  rw [h.d]
  intro i hi
  match i, hi with
  | 0, _ => exact ⟨show x ≤ 1000000 by omega, by rw [h.1, half_exp]; decide, by rw [h.1, half_exp]; exact small60 (show x.toNat ≤ 1000 by omega)⟩
  | 1, _ => exact ⟨show y ≤ 1000000 by omega, by rw [h.2.1, half_exp]; decide, by rw [h.2.1, half_exp]; exact small60 (show y.toNat ≤ 1000 by omega)⟩
  | 2, _ => exact ⟨show z ≤ 1000000 by omega, by rw [h.2.2, half_exp]; decide, by rw [h.2.2, half_exp]; exact small60 (show z.toNat ≤ 1000 by omega)⟩
  | n + 3, hj => exact absurd hj (by omega)
theorem bnd_tri {W : Nat → Rat} {v : Value} {w : World} (h : BndR 3 3 [2, 3, 4] W v w) (ht : TriW W) : PwV 600 4 v w := by
  rcases h with ⟨z, hz, hs, -⟩ | ⟨-, -, A, k, c, r, h1, h2, h3⟩
  · exact absurd (hs.2.2 rfl (ht.ok (by decide) (by decide) (by decide))) hz
  · rw [ht.d, ht.p] at h3
    obtain rfl := IsRoot.unique h3 (show IsRoot _ 2 4 by unfold IsRoot; decide) (by decide)
    exact ⟨A, k, c, h1, h2⟩
theorem win_tri {N : Nat} {W : Nat → Rat} {v : Value} (h : WinR N 3 3 [4, 4, 4] W v) (ht : TriW W) : v = .tuple #[.bool (decide (N ^ 2 ≤ 64)), .int .i64 0] := by
  rcases h with ⟨z, hz, hs, -⟩ | ⟨-, -, h1⟩
  · exact absurd (hs.2.2 rfl (ht.ok (by decide) (by decide) (by decide))) hz
  · rw [ht.d, ht.p] at h1
    exact h1
theorem CovOK.es {n m s : Nat} {es es' : Nat → Nat} {W P : Nat → Rat} {v : Rat} (h : CovOK n m es s W P v) (he : ∀ i, i < m → es i = es' i) : CovOK n m es' s W P v :=
  ⟨h.w0, h.p0, h.pz, fun x hx hb => by rw [← sm_congr (f := fun i => if (es i).testBit x then W i else 0) (fun i hi => by rw [he i hi])]; exact h.cov x hx hb, fun i hi => by have := h.pac i hi; rw [he i hi] at this; exact this, h.ws, h.ps⟩
theorem tri_es : ∀ i, i < 3 → nth [3, 6, 5] i = triE i
  | 0, _ => rfl
  | 1, _ => rfl
  | 2, _ => rfl
  | n + 3, h => absurd h (by omega)
theorem cmp_nv {w : World} {a b N M : Nat} {u v : Value} (h : Nv a N u w) (h' : Nv b M v w) : Calls Try.prog 18 #[u, v] w (RV w (fun z _ => z = .int .i64 (cmpN N M))) := by
  obtain ⟨A, k, c, rfl, h⟩ := h
  obtain ⟨B, m, d, rfl, h'⟩ := h'
  refine (cmp_n h h').mono ?_
  rintro e w2 ⟨rfl, hb⟩
  exact ⟨_, rfl, rfl, hb⟩
theorem gives_bs_i3 {o : Oper} {a : Act} {w : World} {x y z : Int} (ho : o.op = .buildSlice 45 3 #[(0, .const (.int .i64 x)), (1, .const (.int .i64 y)), (2, .const (.int .i64 z))]) : gives Try.prog o a.eval w (fun v w' => (∃ g : Nat, v = .slice (some ⟨g, 0, none⟩) 3 3 ∧ Blk w' g 3 #[.int .i64 x, .int .i64 y, .int .i64 z]) ∧ Below w.heap.size w w') := by
  have hr : (execOp a.eval o).run Try.prog w = .ok (.value (.slice (some ⟨w.heap.size, 0, none⟩) 3 3)) (w.alloc (.cells #[.int .i64 x, .int .i64 y, .int .i64 z] 3)) := by
    unfold execOp
    rw [ho]
    go_simp
  unfold gives
  rw [hr]
  exact ⟨⟨_, rfl, Blk.new _ _ _⟩, al _ _⟩
theorem xs3 {w : World} {g : Nat} {x y z : Int} (h : Blk w g 3 #[.int .i64 x, .int .i64 y, .int .i64 z]) (hx : -1000 ≤ x ∧ x ≤ 1000) (hy : -1000 ≤ y ∧ y ≤ 1000) (hz : -1000 ≤ z ∧ z ≤ 1000) : Xs w w.heap.size (some ⟨g, 0, none⟩) 3 [x, y, z] :=
  Xs.of_blk (l := [x, y, z]) h (by simp) (by
    intro u hu
    simp only [List.mem_cons, List.not_mem_nil, or_false] at hu
    rcases hu with rfl | rfl | rfl <;> omega)
set_option maxRecDepth 100000 in
set_option maxHeartbeats 8000000 in
theorem awake29_any (w : World) : Calls Try.prog 10 #[] w fun e w' => e = .returned (.bool true) ∧ Below w.heap.size w w' := by
  go_enter Try.func10, Try.ntmps10
  go_upto_region 2 with (fail)
  have hbw := bthen (al w (.cells #[.int .u32 3, .int .u32 6, .int .u32 5] 25)) (al _ (.cells #[.int .i64 3, .slice (some ⟨w.heap.size, 0, none⟩) 3 3] 24)) (by simp)
  have HE3 := Lib.hid ((Blk.new w 25 #[.int .u32 3, .int .u32 6, .int .u32 5]).keep (al _ (.cells #[.int .i64 3, .slice (some ⟨w.heap.size, 0, none⟩) 3 3] 24)))
  have HG := Lib.hid (Blk.new (w.alloc (.cells #[.int .u32 3, .int .u32 6, .int .u32 5] 25)) 24 #[.int .i64 3, .slice (some ⟨w.heap.size, 0, none⟩) 3 3])
  rw [show (w.alloc (.cells #[.int .u32 3, .int .u32 6, .int .u32 5] 25)).heap.size = w.heap.size + 1 from by simp] at HG
  have HB := Lib.hid hbw
  clear hbw
  generalize (w.alloc (.cells #[.int .u32 3, .int .u32 6, .int .u32 5] 25)).alloc (.cells #[.int .i64 3, .slice (some ⟨w.heap.size, 0, none⟩) 3 3] 24) = w1 at *
  obtain ⟨g9, hg9⟩ : ∃ g9, g9 = w.heap.size := ⟨_, rfl⟩
  obtain ⟨g1, hg1⟩ : ∃ g1, g1 = w.heap.size + 1 := ⟨_, rfl⟩
  rw [← hg1] at HG ⊢
  rw [← hg9] at HE3 HG ⊢
  have HGg9 := Lib.hid (show w.heap.size ≤ g9 ∧ w.heap.size ≤ g1 from by omega)
  clear hg9 hg1
  have x0 := Blk.at0 HG.out (Below.refl _ _); have x1 := Blk.at1 HG.out (Below.refl _ _)
  go_wp2_with fail
  refine (cvof_any 3 7 3 3 (some ⟨g9, 0, none⟩) [3, 6, 5] w1 (Es.of_blk (l := [3, 6, 5]) HE3.out (by decide) (by decide)) (by omega) (fun _ => ⟨by omega, by omega⟩)).mono ?_
  rintro e w2 ⟨v, rfl, hv, hb⟩
  obtain ⟨u, rfl, W, P, x, hok, AW, cw, AP, cp, s0, A0, k0, c0, B0, m0, d0, rfl, hW, -, hV⟩ := hv.2.2.2 (by decide) (by decide) (by decide)
  clear hv x0 x1
  have htri := tri_cov (hok.es tri_es)
  obtain ⟨rfl, ht0⟩ := htri
  have HT := Lib.hid (show TriW W from ht0); clear ht0 hok
  have HW := Lib.hid hW; have HV := Lib.hid hV; clear hW hV
  clear HE3 HG
  replace HB := Lib.hid (bthen HB.out hb HB.out.size)
  clear hb
  go_upto_region 3 with (fail)
  have hbw := al w2 (.cells #[.slice AW 3 cw, .slice AP 3 cp, .bool s0, .slice A0 k0 c0, .slice B0 m0 d0] 33)
  have HC := Lib.hid (Blk.new w2 33 #[.slice AW 3 cw, .slice AP 3 cp, .bool s0, .slice A0 k0 c0, .slice B0 m0 d0])
  replace HB := Lib.hid (bthen HB.out hbw HB.out.size)
  replace HW := Lib.hid (Rs.newW HW.out hbw)
  replace HV := Lib.hid (HV.out.new hbw)
  clear hbw
  generalize w2.alloc (.cells #[.slice AW 3 cw, .slice AP 3 cp, .bool s0, .slice A0 k0 c0, .slice B0 m0 d0] 33) = w3 at *
  obtain ⟨g2, hg2⟩ : ∃ g2, g2 = w2.heap.size := ⟨_, rfl⟩
  rw [← hg2] at HC ⊢
  have HGg2 := Lib.hid (show w2.heap.size ≤ g2 from by omega)
  clear hg2
  refine wp_region_seq (kss := [[], [], [(0, 18), (1, 19)], [(2, 20)], [(3, 17)], [(3, 17)], [(4, 21)], [(5, 22)]]) [(2, .pointer (some ⟨g2, 0, none⟩))] [EV (.agg #[.slice AW 3 cw, .slice AP 3 cp, .bool s0, .slice A0 k0 c0, .slice B0 m0 d0]), fun zz w' => ∃ g : Nat, zz = .slice (some ⟨g, 0, none⟩) 3 3 ∧ Blk w' g 3 #[.int .i64 2, .int .i64 3, .int .i64 4], PwV (600) (4), PwV (600) (4), Nv (600) (4), EV (.int .i64 0), Nv (600) (4), EV (.int .i64 0)] (by kernel_rfl) ⟨rfl, trivial⟩ ?_ ?_ ?_
  · exact ⟨eI, fun _ _ _ ⟨g, h1, h2⟩ hb => ⟨g, h1, h2.keep hb⟩, fun _ _ _ h hb => PwV.new h hb, fun _ _ _ h hb => PwV.new h hb, fun _ _ _ h hb => Nv.new h hb, eI, fun _ _ _ h hb => Nv.new h hb, eI, trivial⟩
  · refine ⟨?_, ?_, ?_, ?_, ?_, ?_, ?_, ?_, trivial⟩
    · exact fun aa ww hb he hd => ob_plain rfl (load_cov rfl he.1 (Blk.keep HC.out hb))
    · exact fun aa ww hb he hd => ob_plain rfl (gives_bs_i3 rfl)
    · exact fun aa ww hb he hd => ob_plain rfl (by obtain ⟨g8, e8, h8⟩ := hd.2.1; exact gives_call2 _ _ _ _ rfl (by kernel_rfl) (by rw [show aa.eval (.tmp 18) = _ from hd.1, show aa.eval (.tmp 19) = _ from e8]; exact (cvbound_any 3 3 3 cw cp 3 60 AW AP (some ⟨g8, 0, none⟩) s0 A0 B0 k0 c0 m0 d0 W [2, 3, 4] _ (Rs.newW HW.out hb) (xs3 h8 (by omega) (by omega) (by omega)) (by omega) (by omega) (by omega) (fun _ _ => HT.out.bd (by omega) (by omega) (by omega))).mono (fun _ _ ⟨v, h1, h2, h3⟩ => ⟨v, h1, bnd_tri h2 HT.out, h3⟩)))
    · exact fun _ _ _ he hd => ob_mv rfl rfl hd.1
    · exact fun aa ww hb he hd => ob_plain rfl (ext_pw rfl hd.1)
    · exact fun aa ww hb he hd => ob_plain rfl (ext_pw1 rfl hd.1)
    · exact fun aa ww hb he hd => ob_plain rfl (gives_assign _ rfl ⟨hd.1, Below.refl _ _⟩)
    · exact fun aa ww hb he hd => ob_plain rfl (gives_assign _ rfl ⟨hd.1, Below.refl _ _⟩)
  intro vs w4 hb hR
  have r4 : Nv (600) (4) (vs 6) w4 := hR 6 (by decide)
  have e5 : vs 7 = .int .i64 0 := hR 7 (by decide)
  clear hR
  simp only [putsL, Nat.zero_add, Nat.reduceAdd, List.take_succ_cons, List.take_zero, Act.put, List.setIfInBounds_toArray, List.set_cons_zero, List.set_cons_succ]
  rw [e5]
  clear e5
  obtain ⟨A14, k4, c4, e4, h4⟩ := r4
  rw [e4]
  clear e4
  have HN4 := Lib.hid h4; clear h4
  replace HB := Lib.hid (bthen HB.out hb HB.out.size)
  replace HW := Lib.hid (Rs.newW HW.out hb)
  replace HV := Lib.hid (HV.out.new hb)
  replace HC := Lib.hid (HC.out.keep hb)
  clear hb
  go_upto_region 4 with (fail)
  refine wp_region_each (kss := [[], [], [], [(0, 24), (1, 25), (2, 26)], [(3, 27)], [(4, 23)], [(4, 23)], [(5, 28)], [(6, 29)]]) [(2, .pointer (some ⟨g2, 0, none⟩))] [Nv (2) (8), EV (.agg #[.slice AW 3 cw, .slice AP 3 cp, .bool s0, .slice A0 k0 c0, .slice B0 m0 d0]), fun zz w' => ∃ g : Nat, zz = .slice (some ⟨g, 0, none⟩) 3 3 ∧ Blk w' g 3 #[.int .i64 4, .int .i64 4, .int .i64 4], EV (.tuple #[.bool true, .int .i64 0]), EV (.tuple #[.bool true, .int .i64 0]), EV (.bool true), EV (.int .i64 0), EV (.bool true), EV (.int .i64 0)] (by kernel_rfl) (by kernel_rfl) ⟨rfl, trivial⟩ ?_ ?_ ?_
  · exact ⟨fun _ _ _ h hb => Nv.new h hb, eI, fun _ _ _ ⟨g, h1, h2⟩ hb => ⟨g, h1, h2.keep hb⟩, eI, eI, eI, eI, eI, eI, trivial⟩
  · refine ⟨?_, ?_, ?_, ?_, ?_, ?_, ?_, ?_, ?_, trivial⟩
    · exact fun aa ww hb he hd => ob_plain rfl (gives_call1 _ _ _ rfl (by kernel_rfl) (nof_v (8) (by omega) _ rfl _))
    · exact fun aa ww hb he hd => ob_plain rfl (load_cov rfl he.1 (Blk.keep HC.out hb))
    · exact fun aa ww hb he hd => ob_plain rfl (gives_bs_i3 rfl)
    · exact fun aa ww hb he hd => ob_plain rfl (by obtain ⟨A7, k7, c7, e7, h7⟩ := hd.1; obtain ⟨g8, e8, h8⟩ := hd.2.2.1; exact gives_call3 _ _ _ _ _ rfl (by kernel_rfl) (by rw [show aa.eval (.tmp 24) = _ from e7, show aa.eval (.tmp 25) = _ from hd.2.1, show aa.eval (.tmp 26) = _ from e8]; exact (cvwithin_any A7 k7 c7 2 8 3 3 3 cw cp 3 60 AW AP (some ⟨g8, 0, none⟩) s0 A0 B0 k0 c0 m0 d0 W [4, 4, 4] _ (Rs.newW HW.out hb) (xs3 h8 (by omega) (by omega) (by omega)) (by omega) (by omega) (by omega) (fun _ _ => HT.out.bd (by omega) (by omega) (by omega)) h7 (fun _ _ => by rw [HT.out.d]; exact Nat.lt_of_lt_of_le (Nat.lt_of_lt_of_le (show _ < PB 1 by rw [PB]; decide) (PB_mono (by omega))) big60)).mono (fun _ _ ⟨v, h1, h2, h3⟩ => ⟨v, h1, win_tri h2 HT.out, h3⟩)))
    · exact fun _ _ _ he hd => ob_mv rfl rfl hd.1
    · exact fun aa ww hb he hd => ob_plain rfl (ext_c rfl hd.1 rfl)
    · exact fun aa ww hb he hd => ob_plain rfl (ext_c rfl hd.1 rfl)
    · exact fun aa ww hb he hd => ob_plain rfl (gives_assign _ rfl ⟨hd.1, Below.refl _ _⟩)
    · exact fun aa ww hb he hd => ob_plain rfl (gives_assign _ rfl ⟨hd.1, Below.refl _ _⟩)
  intro vs w5 hb hR
  have e6 : vs 7 = .bool true := hR 7 (by decide)
  have e7 : vs 8 = .int .i64 0 := hR 8 (by decide)
  clear hR
  simp only [putsL, Nat.zero_add, Nat.reduceAdd, List.take_succ_cons, List.take_zero, Act.put, List.setIfInBounds_toArray, List.set_cons_zero, List.set_cons_succ]
  rw [e6, e7]
  clear e6 e7
  replace HB := Lib.hid (bthen HB.out hb HB.out.size)
  replace HW := Lib.hid (Rs.newW HW.out hb)
  replace HV := Lib.hid (HV.out.new hb)
  replace HC := Lib.hid (HC.out.keep hb)
  replace HN4 := Lib.hid (HN4.out.new hb)
  clear hb
  go_upto_region 5 with (fail)
  refine wp_region_each (kss := [[], [], [], [(0, 31), (1, 32), (2, 33)], [(3, 34)], [(4, 30)], [(4, 30)], [(5, 35)], [(6, 36)]]) [(2, .pointer (some ⟨g2, 0, none⟩))] [Nv (2) (9), EV (.agg #[.slice AW 3 cw, .slice AP 3 cp, .bool s0, .slice A0 k0 c0, .slice B0 m0 d0]), fun zz w' => ∃ g : Nat, zz = .slice (some ⟨g, 0, none⟩) 3 3 ∧ Blk w' g 3 #[.int .i64 4, .int .i64 4, .int .i64 4], EV (.tuple #[.bool false, .int .i64 0]), EV (.tuple #[.bool false, .int .i64 0]), EV (.bool false), EV (.int .i64 0), EV (.bool false), EV (.int .i64 0)] (by kernel_rfl) (by kernel_rfl) ⟨rfl, trivial⟩ ?_ ?_ ?_
  · exact ⟨fun _ _ _ h hb => Nv.new h hb, eI, fun _ _ _ ⟨g, h1, h2⟩ hb => ⟨g, h1, h2.keep hb⟩, eI, eI, eI, eI, eI, eI, trivial⟩
  · refine ⟨?_, ?_, ?_, ?_, ?_, ?_, ?_, ?_, ?_, trivial⟩
    · exact fun aa ww hb he hd => ob_plain rfl (gives_call1 _ _ _ rfl (by kernel_rfl) (nof_v (9) (by omega) _ rfl _))
    · exact fun aa ww hb he hd => ob_plain rfl (load_cov rfl he.1 (Blk.keep HC.out hb))
    · exact fun aa ww hb he hd => ob_plain rfl (gives_bs_i3 rfl)
    · exact fun aa ww hb he hd => ob_plain rfl (by obtain ⟨A7, k7, c7, e7, h7⟩ := hd.1; obtain ⟨g8, e8, h8⟩ := hd.2.2.1; exact gives_call3 _ _ _ _ _ rfl (by kernel_rfl) (by rw [show aa.eval (.tmp 31) = _ from e7, show aa.eval (.tmp 32) = _ from hd.2.1, show aa.eval (.tmp 33) = _ from e8]; exact (cvwithin_any A7 k7 c7 2 9 3 3 3 cw cp 3 60 AW AP (some ⟨g8, 0, none⟩) s0 A0 B0 k0 c0 m0 d0 W [4, 4, 4] _ (Rs.newW HW.out hb) (xs3 h8 (by omega) (by omega) (by omega)) (by omega) (by omega) (by omega) (fun _ _ => HT.out.bd (by omega) (by omega) (by omega)) h7 (fun _ _ => by rw [HT.out.d]; exact Nat.lt_of_lt_of_le (Nat.lt_of_lt_of_le (show _ < PB 1 by rw [PB]; decide) (PB_mono (by omega))) big60)).mono (fun _ _ ⟨v, h1, h2, h3⟩ => ⟨v, h1, win_tri h2 HT.out, h3⟩)))
    · exact fun _ _ _ he hd => ob_mv rfl rfl hd.1
    · exact fun aa ww hb he hd => ob_plain rfl (ext_c rfl hd.1 rfl)
    · exact fun aa ww hb he hd => ob_plain rfl (ext_c rfl hd.1 rfl)
    · exact fun aa ww hb he hd => ob_plain rfl (gives_assign _ rfl ⟨hd.1, Below.refl _ _⟩)
    · exact fun aa ww hb he hd => ob_plain rfl (gives_assign _ rfl ⟨hd.1, Below.refl _ _⟩)
  intro vs w6 hb hR
  have e8 : vs 7 = .bool false := hR 7 (by decide)
  have e9 : vs 8 = .int .i64 0 := hR 8 (by decide)
  clear hR
  simp only [putsL, Nat.zero_add, Nat.reduceAdd, List.take_succ_cons, List.take_zero, Act.put, List.setIfInBounds_toArray, List.set_cons_zero, List.set_cons_succ]
  rw [e8, e9]
  clear e8 e9
  replace HB := Lib.hid (bthen HB.out hb HB.out.size)
  replace HW := Lib.hid (Rs.newW HW.out hb)
  replace HV := Lib.hid (HV.out.new hb)
  replace HC := Lib.hid (HC.out.keep hb)
  replace HN4 := Lib.hid (HN4.out.new hb)
  clear hb
  go_upto_region 6 with (fail)
  refine wp_region_each (kss := [[], [(0, 37)], [(1, 38)], [(2, 39)], [(2, 39), (3, 40)], [(2, 39), (4, 41)], [(5, 42)], [(6, 43)], [(6, 43), (7, 44)], [(6, 43), (8, 45)], [(9, 46)], [(10, 47)], [(10, 47), (11, 48)], [(10, 47), (12, 49)], [(13, 50)], [(14, 51)], [(14, 51), (15, 52)], [(14, 51)], [(14, 51), (16, 53), (17, 54)], [(14, 51), (18, 55)], [(14, 51), (19, 56)], [(20, 57)], [(21, 58)], [(21, 58)], [(21, 58), (22, 59), (23, 60)], [(21, 58), (24, 61)], [(21, 58), (25, 62)], [(26, 63)], [(27, 64)], [(27, 64), (28, 65)], [(29, 66)], [(30, 67)], [(30, 67), (31, 68)], [(30, 67), (32, 69)], [(33, 70)]]) [(3, .int .i64 0), (5, .int .i64 0), (7, .int .i64 0), (9, .int .i64 0), (2, .pointer (some ⟨g2, 0, none⟩)), (4, .slice A14 k4 c4), (6, .bool true), (8, .bool false)] [EV (.int .i64 0), EV (.bool true), EV (.bool true), EV (.int .i64 0), EV (.bool true), EV (.bool true), EV (.bool true), EV (.int .i64 0), EV (.bool true), EV (.bool true), EV (.bool true), EV (.int .i64 0), EV (.bool true), EV (.bool true), EV (.bool true), EV (.pointer (some ⟨g2, 2, none⟩)), Rw (60) (3 / 2), Rv (2) (((3 : Int) : Rat) / ((2 : Int) : Rat)), EV (.int .i64 (rcq (3 / 2) (((3 : Int) : Rat) / ((2 : Int) : Rat)))), EV (.bool true), EV (.bool true), EV (.bool true), Nv (600) (4), Nv (2) (4), EV (.int .i64 (cmpN 4 4)), EV (.bool true), EV (.bool true), EV (.bool true), EV (.bool true), EV (.bool true), EV (.bool true), EV (.bool false), EV (.bool true), EV (.bool true), EV (.bool true)] (by kernel_rfl) (by kernel_rfl) ⟨rfl, rfl, rfl, rfl, rfl, rfl, rfl, rfl, trivial⟩ ?_ ?_ ?_
  · exact ⟨eI, eI, eI, eI, eI, eI, eI, eI, eI, eI, eI, eI, eI, eI, eI, eI, fun _ _ _ h hb => h.new hb, fun _ _ _ h hb => h.new hb, eI, eI, eI, eI, fun _ _ _ h hb => Nv.new h hb, fun _ _ _ h hb => Nv.new h hb, eI, eI, eI, eI, eI, eI, eI, eI, eI, eI, eI, trivial⟩
  · refine ⟨?_, ?_, ?_, ?_, ?_, ?_, ?_, ?_, ?_, ?_, ?_, ?_, ?_, ?_, ?_, ?_, ?_, ?_, ?_, ?_, ?_, ?_, ?_, ?_, ?_, ?_, ?_, ?_, ?_, ?_, ?_, ?_, ?_, ?_, ?_, trivial⟩
    · exact fun _ _ _ he hd => ob_mv rfl rfl he.1
    · exact fun aa ww hb he hd => ob_plain rfl (gives_eq_int 0 0 .i64 _ _ _ _ rfl hd.1 rfl ⟨congrArg Value.bool (by decide), Below.refl _ _⟩)
    · exact fun _ _ _ he hd => ob_mv rfl rfl hd.1
    · exact fun aa ww hb he hd => ob_on 39 rfl (by kernel_rfl) hd.1 (gives_move _ rfl ⟨he.2.1, Below.refl _ _⟩)
    · exact fun aa ww hb he hd => ob_on 39 rfl (by kernel_rfl) hd.1 (gives_eq_int 0 0 .i64 _ _ _ _ rfl hd.2.1 rfl ⟨congrArg Value.bool (by decide), Below.refl _ _⟩)
    · exact fun aa ww hb he hd => ob_plain rfl (gives_pick true _ _ _ rfl hd.1 ⟨hd.2.1, Below.refl _ _⟩)
    · exact fun _ _ _ he hd => ob_mv rfl rfl hd.1
    · exact fun aa ww hb he hd => ob_on 43 rfl (by kernel_rfl) hd.1 (gives_move _ rfl ⟨he.2.2.1, Below.refl _ _⟩)
    · exact fun aa ww hb he hd => ob_on 43 rfl (by kernel_rfl) hd.1 (gives_eq_int 0 0 .i64 _ _ _ _ rfl hd.2.1 rfl ⟨congrArg Value.bool (by decide), Below.refl _ _⟩)
    · exact fun aa ww hb he hd => ob_plain rfl (gives_pick true _ _ _ rfl hd.1 ⟨hd.2.1, Below.refl _ _⟩)
    · exact fun _ _ _ he hd => ob_mv rfl rfl hd.1
    · exact fun aa ww hb he hd => ob_on 47 rfl (by kernel_rfl) hd.1 (gives_move _ rfl ⟨he.2.2.2.1, Below.refl _ _⟩)
    · exact fun aa ww hb he hd => ob_on 47 rfl (by kernel_rfl) hd.1 (gives_eq_int 0 0 .i64 _ _ _ _ rfl hd.2.1 rfl ⟨congrArg Value.bool (by decide), Below.refl _ _⟩)
    · exact fun aa ww hb he hd => ob_plain rfl (gives_pick true _ _ _ rfl hd.1 ⟨hd.2.1, Below.refl _ _⟩)
    · exact fun _ _ _ he hd => ob_mv rfl rfl hd.1
    · exact fun aa ww hb he hd => ob_on 51 rfl (by kernel_rfl) hd.1 (fld_cov (k := 2) rfl (by decide) he.2.2.2.2.1)
    · exact fun aa ww hb he hd => ob_on 51 rfl (by kernel_rfl) hd.1 (load_cvv rfl hd.2.1 (Blk.keep HC.out hb) (Rw.new HV.out hb))
    · exact fun aa ww hb he hd => ob_on 51 rfl (by kernel_rfl) hd.1 (gives_call2 _ _ _ _ rfl (by kernel_rfl) (of29_any 3 2 (by omega) (by omega) (by omega) _))
    · exact fun aa ww hb he hd => ob_on 51 rfl (by kernel_rfl) hd.1 (gives_call2 _ _ _ _ rfl (by kernel_rfl) (cmp_v (hd.2.1) (hd.2.2.1.rw) (by omega)))
    · exact fun aa ww hb he hd => ob_on 51 rfl (by kernel_rfl) hd.1 (gives_eq_int (rcq (3 / 2) (((3 : Int) : Rat) / ((2 : Int) : Rat))) 0 .i64 _ _ _ _ rfl hd.2.1 rfl ⟨congrArg Value.bool (by rw [rcq_eq (by decide +kernel)]; rfl), Below.refl _ _⟩)
    · exact fun aa ww hb he hd => ob_plain rfl (gives_pick true _ _ _ rfl hd.1 ⟨hd.2.1, Below.refl _ _⟩)
    · exact fun _ _ _ he hd => ob_mv rfl rfl hd.1
    · exact fun aa ww hb he hd => ob_on 58 rfl (by kernel_rfl) hd.1 (gives_move _ rfl ⟨⟨_, _, _, he.2.2.2.2.2.1, HN4.out.new hb⟩, Below.refl _ _⟩)
    · exact fun aa ww hb he hd => ob_on 58 rfl (by kernel_rfl) hd.1 (gives_call1 _ _ _ rfl (by kernel_rfl) (nof_v (4) (by omega) _ rfl _))
    · exact fun aa ww hb he hd => ob_on 58 rfl (by kernel_rfl) hd.1 (gives_call2 _ _ _ _ rfl (by kernel_rfl) (cmp_nv hd.2.1 hd.2.2.1))
    · exact fun aa ww hb he hd => ob_on 58 rfl (by kernel_rfl) hd.1 (gives_eq_int (cmpN 4 4) 0 .i64 _ _ _ _ rfl hd.2.1 rfl ⟨congrArg Value.bool (by decide), Below.refl _ _⟩)
    · exact fun aa ww hb he hd => ob_plain rfl (gives_pick true _ _ _ rfl hd.1 ⟨hd.2.1, Below.refl _ _⟩)
    · exact fun _ _ _ he hd => ob_mv rfl rfl hd.1
    · exact fun aa ww hb he hd => ob_on 64 rfl (by kernel_rfl) hd.1 (gives_move _ rfl ⟨he.2.2.2.2.2.2.1, Below.refl _ _⟩)
    · exact fun aa ww hb he hd => ob_plain rfl (gives_pick true _ _ _ rfl hd.1 ⟨hd.2.1, Below.refl _ _⟩)
    · exact fun _ _ _ he hd => ob_mv rfl rfl hd.1
    · exact fun aa ww hb he hd => ob_on 67 rfl (by kernel_rfl) hd.1 (gives_move _ rfl ⟨he.2.2.2.2.2.2.2.1, Below.refl _ _⟩)
    · exact fun aa ww hb he hd => ob_on 67 rfl (by kernel_rfl) hd.1 (gives_not false _ _ rfl hd.2.1 ⟨rfl, Below.refl _ _⟩)
    · exact fun aa ww hb he hd => ob_plain rfl (gives_pick true _ _ _ rfl hd.1 ⟨hd.2.1, Below.refl _ _⟩)
    · exact fun aa ww hb he hd => ob_plain rfl (gives_assign _ rfl ⟨hd.1, Below.refl _ _⟩)
  intro vs w7 hb hR
  have e0 : vs 34 = .bool true := hR 34 (by decide)
  clear hR
  simp only [putsL, Nat.zero_add, Nat.reduceAdd, List.take_succ_cons, List.take_zero, Act.put, List.setIfInBounds_toArray, List.set_cons_zero, List.set_cons_succ]
  rw [e0]
  clear e0
  replace HB := Lib.hid (bthen HB.out hb HB.out.size)
  replace HW := Lib.hid (Rs.newW HW.out hb)
  replace HV := Lib.hid (HV.out.new hb)
  replace HC := Lib.hid (HC.out.keep hb)
  replace HN4 := Lib.hid (HN4.out.new hb)
  clear hb
  go_wp2_with fail
  go_ret
  exact ⟨rfl, HB.out⟩
end Go.Proofs.Ytpnklmgfdihjfaa
namespace Go.Proofs.Ytpnklmgfdihjfaa
open Go.RowKit
set_option linter.unusedVariables false
set_option linter.unusedSimpArgs false

end Go.Proofs.Ytpnklmgfdihjfaa
