/-
Contract of cover.newton.
Contracts of cover.Bound and Within. Printed by gen/scv.py.
Plain: bounds with weights of a common denominator.
Lemmas for CoverBounds and CoverGrows. Printed by gen/scv.py.
Contract of cover.Of. Printed by gen/scv.py.
Contracts of law29.great and of. Printed by gen/scv.py.
-/
import Derived.Test.YtpnklmgfdihjfaaK14
import Derived.Test.YtpnklmgfdihjfaaK13
namespace Go.Proofs.Ytpnklmgfdihjfaa
open Go.RowKit
set_option linter.unusedVariables false
set_option linter.unusedSimpArgs false

theorem pow_bits {P b k : Nat} (h : P < 2 ^ b) {y : Nat} (hy : y ^ (k + 1) ≤ P) : y ≤ 2 ^ ((b + k) / (k + 1)) := by
  refine Classical.byContradiction fun hc => ?_
  have h1 : (2 ^ ((b + k) / (k + 1))) ^ (k + 1) ≤ y ^ (k + 1) := Nat.pow_le_pow_left (by omega) _
  rw [← Nat.pow_mul] at h1
  have h2 : b ≤ (b + k) / (k + 1) * (k + 1) := by
    have := Nat.div_add_mod (b + k) (k + 1)
    have := Nat.mod_lt (b + k) (show 0 < k + 1 by omega)
    rw [Nat.mul_comm]; omega
  have h3 := Nat.pow_le_pow_right (show 0 < 2 by decide) h2
  omega
set_option maxRecDepth 100000 in
set_option maxHeartbeats 8000000 in
theorem newton_any {A : Option Addr} {n c a P k : Nat} {w : World} (ha : Num w A n c a P) (hk : 1 ≤ k ∧ k ≤ 8) (ha5 : a ≤ 500) (hP : 1 ≤ P) :
    Calls Try.prog 83 #[.slice A n c, .int .i64 ((k : Int) + 1)] w (fun e w' => ∃ (A' : Option Addr) (n' c' r : Nat), e = .returned (.slice A' n' c') ∧ Num w' A' n' c' 600 r ∧ IsRoot P (k + 1) r ∧ Below w.heap.size w w') := by
  have HA := Lib.hid ha; clear ha
  have ek : (k : Int) + 1 - 1 = (k : Int) := by omega
  go_enter Try.func83, Try.ntmps83
  go_wp2_with fail
  refine (bits_n HA.out).mono ?_
  rintro e w1 ⟨b, rfl, hbits, hb3, rfl⟩
  have hPb : P < 2 ^ b := by rcases hbits with ⟨rfl, rfl⟩ | ⟨-, -, h⟩; exact Nat.one_pos; exact h
  have hb32 : b ≤ 32 * a := by
    refine Classical.byContradiction fun hc => ?_
    rcases hbits with ⟨-, h⟩ | ⟨h1, h2, h3⟩
    · omega
    · have h4 := HA.out.2.2.2.1
      have h5 : 2 ^ (32 * a) ≤ 2 ^ (b - 1) := Nat.pow_le_pow_right (by decide) (by omega)
      have h6 : PB a = 2 ^ (32 * a) := by unfold PB; rw [Nat.pow_mul]
      omega
  have HPb := Lib.hid hPb; clear hbits hPb
  obtain ⟨i, hi⟩ : ∃ i, i = (b + k) / (k + 1) := ⟨_, rfl⟩
  have hq : Int.tdiv ((b : Int) + k) ((k : Int) + 1) = (i : Int) := by
    rw [hi, show (b : Int) + k = ((b + k : Nat) : Int) by omega, show (k : Int) + 1 = ((k + 1 : Nat) : Int) by omega, ← Int.ofNat_tdiv]
  have eb : (b : Int) + ((k : Int) + 1) - 1 = (b : Int) + k := by omega
  have hib : i ≤ b := by
    rw [hi]
    have : (b + k) / (k + 1) < b + 1 := by
      rw [Nat.div_lt_iff_lt_mul (by omega), Nat.add_mul, Nat.mul_add]
      have := Nat.zero_le (b * k)
      omega
    omega
  have HI := Lib.hid hi; clear hi
  go_wp2_with fail
  refine (bit_any i (by omega) w).mono ?_
  rintro e w2 ⟨A0, n0, c0, rfl, h0, hb⟩
  obtain ⟨K, hK⟩ : ∃ K, K = i / 32 + 1 := ⟨_, rfl⟩
  rw [← hK] at h0
  have hK5 : K ≤ 501 := by omega
  have HS := Lib.hid (show Num w2 A0 n0 c0 K (2 ^ i) ∧ 0 < 2 ^ i ∧ (∀ y, y ^ (k + 1) ≤ P → y ≤ 2 ^ i) ∧ Num w2 A n c a P ∧ Below w.heap.size w w2 from ⟨h0, Nat.pow_pos (by decide), fun y hy => by rw [HI.out]; exact pow_bits HPb.out hy, HA.out.new hb, hb⟩)
  clear h0 hb hK hq eb hib HI HPb hb32 hb3 HA
  go_wp2_with fail
  go_loopg [5] (2 ^ i + 1) (fun g xv wr => ∃ (A1 : Option Addr) (n1 c1 x : Nat), xv = .slice A1 n1 c1 ∧ x < g ∧ Hid (Num wr A1 n1 c1 K x ∧ 0 < x ∧ (∀ y, y ^ (k + 1) ≤ P → y ≤ x) ∧ Num wr A n c a P ∧ Below w.heap.size w wr))
  case atStart => exact ⟨A0, n0, c0, 2 ^ i, rfl, by omega, HS⟩
  case round =>
    obtain ⟨A1, n1, c1, x, rfl, hxg, HI⟩ := hrel
    clear HS
    obtain ⟨G, hG⟩ : ∃ G, G = gk := ⟨_, rfl⟩
    subst hG
    go_wp2_with fail
    refine (of_n 1 (by omega) _).mono ?_
    rintro e w3 ⟨A2, n2, c2, rfl, h2, -, hb⟩
    have HJ := Lib.hid (show Num w3 A1 n1 c1 K x ∧ 0 < x ∧ (∀ y, y ^ (k + 1) ≤ P → y ≤ x) ∧ Num w3 A n c a P ∧ Below w.heap.size w w3 from ⟨HI.out.1.new hb, HI.out.2.1, HI.out.2.2.1, HI.out.2.2.2.1.new hb, bthen HI.out.2.2.2.2 hb HI.out.2.2.2.2.size⟩)
    have HO := Lib.hid h2
    clear h2 hb HI
    go_wp2_with fail
    go_loopg [25, 6] k (fun g iv bv wq => ∃ (j : Nat) (A3 : Option Addr) (n3 c3 : Nat), iv = .int .i64 j ∧ bv = .slice A3 n3 c3 ∧ j + g = k ∧ Hid (Num wq A3 n3 c3 (2 + j * K) (x ^ j) ∧ Below w3.heap.size w3 wq))
    case atStart => exact ⟨0, A2, n2, c2, rfl, rfl, by omega, Lib.hid ⟨by rw [Nat.zero_mul, Nat.pow_zero]; exact HO.out, Below.refl _ _⟩⟩
    case round =>
      obtain ⟨j, A3, n3, c3, rfl, rfl, hjk, HL⟩ := hrel
      clear HO
      have hjK : j * K ≤ 8 * 501 := Nat.mul_le_mul (by omega) hK5
      by_cases hj : j < k
      · have j1 : ((j : Int) < (k : Int)) := by omega
        go_wp2_with fail
        refine (mul_n HL.out.1 (HJ.out.1.new HL.out.2) (by omega)).mono ?_
        rintro e w4 ⟨A4, n4, c4, rfl, h4, -, hb⟩
        have HL2 := Lib.hid (show Num w4 A4 n4 c4 (2 + (j + 1) * K) (x ^ (j + 1)) ∧ Below w3.heap.size w3 w4 from ⟨by rw [Nat.pow_succ, Nat.add_mul, Nat.one_mul, ← Nat.add_assoc]; exact h4, bthen HL.out.2 hb HL.out.2.size⟩)
        clear h4 hb HL
        go_wp2_with fail
        go_roundg (gk - 1)
        case measure => omega
        case rel => exact ⟨j + 1, A4, n4, c4, by go_num, rfl, by omega, HL2⟩
      · obtain rfl : k = j := by omega
        go_wp2_with fail
        refine (dm_n (HJ.out.2.2.2.1.new HL.out.2) HL.out.1 (by omega) (by omega)).mono ?_
        rintro e w4 ⟨-, h4⟩
        obtain ⟨A4, n4, c4, A5, n5, c5, rfl, ⟨h4, -⟩, -, hb⟩ := h4 (by have := Nat.pow_pos (n := k) HJ.out.2.1; omega)
        have hb34 := bthen HL.out.2 hb HL.out.2.size
        have HM := Lib.hid (show Num w4 A4 n4 c4 a (P / x ^ k) ∧ Num w4 A1 n1 c1 K x ∧ Num w4 A n c a P ∧ Below w.heap.size w w4 from ⟨h4, HJ.out.1.new hb34, HJ.out.2.2.2.1.new hb34, bthen HJ.out.2.2.2.2 hb34 HJ.out.2.2.2.2.size⟩)
        have HF := Lib.hid (show 0 < x ∧ (∀ y, y ^ (k + 1) ≤ P → y ≤ x) from ⟨HJ.out.2.1, HJ.out.2.2.1⟩)
        clear h4 hb hb34 HL HJ
        have e1 : IntKind.u64.wrap (k : Int) = (k : Int) := IntWalk.u64_in _ (by omega)
        have e2 : IntKind.u64.wrap ((k : Int) + 1) = ((k + 1 : Nat) : Int) := by rw [IntWalk.u64_in _ (by omega)]; omega
        go_wp2_with fail
        refine (of_n k (by omega) _).mono ?_
        rintro e w5 ⟨A6, n6, c6, rfl, h6, -, hb⟩
        have HM2 := Lib.hid (show Num w5 A4 n4 c4 a (P / x ^ k) ∧ Num w5 A1 n1 c1 K x ∧ Num w5 A n c a P ∧ Below w.heap.size w w5 from ⟨HM.out.1.new hb, HM.out.2.1.new hb, HM.out.2.2.1.new hb, bthen HM.out.2.2.2 hb HM.out.2.2.2.size⟩)
        have H6 := Lib.hid h6
        clear h6 hb HM
        go_wp2_with fail
        refine (mul_n H6.out HM2.out.2.1 (by omega)).mono ?_
        rintro e w6 ⟨A7, n7, c7, rfl, h7, -, hb⟩
        have HM3 := Lib.hid (show Num w6 A4 n4 c4 a (P / x ^ k) ∧ Num w6 A1 n1 c1 K x ∧ Num w6 A n c a P ∧ Below w.heap.size w w6 from ⟨HM2.out.1.new hb, HM2.out.2.1.new hb, HM2.out.2.2.1.new hb, bthen HM2.out.2.2.2 hb HM2.out.2.2.2.size⟩)
        have H7 := Lib.hid h7
        clear h7 hb HM2 H6
        go_wp2_with fail
        refine (add_n H7.out HM3.out.1 (by omega)).mono ?_
        rintro e w7 ⟨A8, n8, c8, rfl, h8, -, hb⟩
        have HM4 := Lib.hid (show Num w7 A1 n1 c1 K x ∧ Num w7 A n c a P ∧ Below w.heap.size w w7 from ⟨HM3.out.2.1.new hb, HM3.out.2.2.1.new hb, bthen HM3.out.2.2.2 hb HM3.out.2.2.2.size⟩)
        have H8 := Lib.hid h8
        clear h8 hb HM3 H7
        go_wp2_with fail
        refine (of_n (k + 1) (by omega) _).mono ?_
        rintro e w8 ⟨A9, n9, c9, rfl, h9, -, hb⟩
        have HM5 := Lib.hid (show Num w8 A1 n1 c1 K x ∧ Num w8 A n c a P ∧ Below w.heap.size w w8 ∧ Num w8 A8 n8 c8 (2 + K + a) (k * x + P / x ^ k) from ⟨HM4.out.1.new hb, HM4.out.2.1.new hb, bthen HM4.out.2.2 hb HM4.out.2.2.size, H8.out.new hb⟩)
        have H9 := Lib.hid h9
        clear h9 hb HM4 H8
        go_wp2_with fail
        refine (dm_n HM5.out.2.2.2 H9.out (by omega) (by omega)).mono ?_
        rintro e wa ⟨-, ha⟩
        obtain ⟨Aa, na, ca, Ab, nb, cb, rfl, ⟨ha, -⟩, -, hb⟩ := ha (by omega)
        have HM6 := Lib.hid (show Num wa A1 n1 c1 K x ∧ Num wa A n c a P ∧ Below w.heap.size w wa ∧ Num wa Aa na ca (2 + K + a) (nstep P k x) from ⟨HM5.out.1.new hb, HM5.out.2.1.new hb, bthen HM5.out.2.2.1 hb HM5.out.2.2.1.size, ha⟩)
        clear ha hb HM5 H9
        go_wp2_with fail
        refine (cmp_n HM6.out.2.2.2 HM6.out.1).mono ?_
        rintro e wb ⟨rfl, hb⟩
        have HM7 := Lib.hid (show Num wb A1 n1 c1 K x ∧ Num wb A n c a P ∧ Below w.heap.size w wb ∧ Num wb Aa na ca (2 + K + a) (nstep P k x) from ⟨HM6.out.1.new hb, HM6.out.2.1.new hb, bthen HM6.out.2.2.1 hb HM6.out.2.2.1.size, HM6.out.2.2.2.new hb⟩)
        clear hb HM6 e1 e2
        by_cases hs : x ≤ nstep P k x
        · have t0 : (cmpN (nstep P k x) x ≥ 0) := by unfold cmpN; split; omega; split <;> omega
          have HS2 := Lib.hid hs; clear hs
          go_wp2_with fail
          go_ret
          exact ⟨_, _, _, x, rfl, HM7.out.1.more (by omega), IsRoot.of_max (nstep_stop HF.out.1 HS2.out) HF.out.2, HM7.out.2.2.1⟩
        · have t0 : ¬ (cmpN (nstep P k x) x ≥ 0) := by unfold cmpN; rw [if_pos (by omega)]; omega
          have hlt : nstep P k x < x := by omega
          have HS2 := Lib.hid hs; clear hs
          have HN := Lib.hid (show Num wb Aa na ca K (nstep P k x) ∧ 0 < nstep P k x ∧ (∀ y, y ^ (k + 1) ≤ P → y ≤ nstep P k x) ∧ Num wb A n c a P ∧ Below w.heap.size w wb from ⟨HM7.out.2.2.2.up (Nat.lt_trans hlt HM7.out.1.2.2.2.1) HM7.out.1.2.1, nstep_ge (y := 1) HF.out.1 (by rw [Nat.one_pow]; exact hP), fun y hy => nstep_ge HF.out.1 hy, HM7.out.2.1, HM7.out.2.2.1⟩)
          go_wp2_with fail
          go_roundg (nstep P k x + 1)
          case measure => omega
          case rel => exact ⟨Aa, na, ca, nstep P k x, rfl, by omega, HN⟩
set_option maxRecDepth 100000 in
set_option maxHeartbeats 8000000 in
/-- root, for exponents up to 9. -/
theorem root_any {A : Option Addr} {n c a P k : Nat} {w : World} (ha : Num w A n c a P) (hk : k ≤ 8) (ha5 : a ≤ 500) :
    Calls Try.prog 46 #[.slice A n c, .int .i64 ((k : Int) + 1)] w (fun e w' => ∃ (A' : Option Addr) (n' c' r : Nat), e = .returned (.slice A' n' c') ∧ Num w' A' n' c' 600 r ∧ IsRoot P (k + 1) r ∧ Below w.heap.size w w') := by
  have HA := Lib.hid ha; clear ha
  go_enter Try.func46, Try.ntmps46
  go_wp2_with fail
  refine (bits_n HA.out).mono ?_
  rintro e w1 ⟨b, rfl, hbits, hb3, rfl⟩
  by_cases hb1 : b ≤ 1
  · have t0 : decide ((b : Int) ≤ 1) = true := by simp; omega
    have hP1 : P ≤ 1 := by
      rcases hbits with ⟨rfl, _⟩ | ⟨h1, h2, h3⟩
      · omega
      · have : b = 1 := by omega
        subst this
        omega
    have HP1 := Lib.hid hP1; clear hbits hP1
    go_wp2_with fail
    refine (norm_n HA.out (by omega)).mono ?_
    rintro e w2 ⟨A2, n2, c2, rfl, h2, -, hb⟩
    have H2 := Lib.hid (show Num w2 A2 n2 c2 600 P ∧ Below w.heap.size w w2 from ⟨h2.more (by omega), hb⟩)
    clear h2 hb
    go_wp2_with fail
    go_ret
    exact ⟨_, _, _, P, rfl, H2.out.1, root_small (by omega) HP1.out, H2.out.2⟩
  · have t0 : decide ((b : Int) ≤ 1) = false := by simp; omega
    have hP2 : 2 ≤ P ∧ P < 2 ^ b := by
      rcases hbits with ⟨_, h⟩ | ⟨h1, h2, h3⟩
      · omega
      · exact ⟨Nat.le_trans (show 2 ≤ 2 ^ (b - 1) from Nat.le_trans (show 2 ≤ 2 ^ 1 by decide) (Nat.pow_le_pow_right (by decide) (by omega))) h2, h3⟩
    have HP2 := Lib.hid hP2; clear hbits hP2
    by_cases hk0 : k = 0
    · subst hk0
      go_wp2_with fail
      refine (norm_n HA.out (by omega)).mono ?_
      rintro e w2 ⟨A2, n2, c2, rfl, h2, -, hb⟩
      have H2 := Lib.hid (show Num w2 A2 n2 c2 600 P ∧ Below w.heap.size w w2 from ⟨h2.more (by omega), hb⟩)
      clear h2 hb
      go_wp2_with fail
      go_ret
      exact ⟨_, _, _, P, rfl, H2.out.1, root_exp1 P, H2.out.2⟩
    · have t1 : ((k : Int) + 1 == 1) = false := by simp; omega
      by_cases hkb : b ≤ k + 1
      · have t2 : ((k : Int) + 1 ≥ (b : Int)) := by omega
        go_wp2_with fail
        refine (of_n 1 (by omega) _).mono ?_
        rintro e w2 ⟨A2, n2, c2, rfl, h2, -, hb⟩
        have H2 := Lib.hid (show Num w2 A2 n2 c2 600 1 ∧ Below w.heap.size w w2 from ⟨h2.more (by omega), hb⟩)
        clear h2 hb
        go_wp2_with fail
        go_ret
        exact ⟨_, _, _, 1, rfl, H2.out.1, root_one (by have := HP2.out.1; omega) (Nat.lt_of_lt_of_le HP2.out.2 (Nat.pow_le_pow_right (by decide) hkb)), H2.out.2⟩
      · have t2 : ¬ ((k : Int) + 1 ≥ (b : Int)) := by omega
        have t3 : ((k : Int) + 1 ≤ 64) := by omega
        go_wp2_with fail
        refine (newton_any HA.out (by omega) ha5 (by have := HP2.out.1; omega)).mono ?_
        rintro e w2 ⟨A2, n2, c2, r, rfl, h2, h3, hb⟩
        have H2 := Lib.hid (show Num w2 A2 n2 c2 600 r ∧ IsRoot P (k + 1) r ∧ Below w.heap.size w w2 from ⟨h2, h3, hb⟩)
        clear h2 h3 hb
        go_wp2_with fail
        go_ret
        exact ⟨_, _, _, r, rfl, H2.out.1, H2.out.2.1, H2.out.2.2⟩
end Go.Proofs.Ytpnklmgfdihjfaa
namespace Go.Proofs.Ytpnklmgfdihjfaa
open Go.RowKit
set_option linter.unusedVariables false
set_option linter.unusedSimpArgs false

theorem SzR.zero {l m : Nat} {xs : List Int} {W : Nat → Rat} (h : SzR l m xs W 0) : l = m ∧ ∀ j, j < m → 0 ≤ inth xs j ∧ 0 ≤ W j := by
  have e : l = m := by
    by_cases e : l = m
    · exact e
    · have := h.1 e; omega
  refine ⟨e, fun j hj => ?_⟩
  by_cases h0 : 0 ≤ inth xs j ∧ 0 ≤ W j
  · exact h0
  · have := h.2.1 e ⟨j, hj, h0⟩; omega
/-- What a bound needs of weights and sizes. -/
def BdP (m : Nat) (W : Nat → Rat) (xs : List Int) : Prop := dlcm W m ≤ 9 ∧ ∀ i, i < m → inth xs i ≤ 1000000 ∧ expW (W i) (dlcm W m) ≤ 1000 ∧ (inth xs i).toNat ^ expW (W i) (dlcm W m) < PB 60
/-- What Bound answers. -/
def BndR (l m : Nat) (xs : List Int) (W : Nat → Rat) (v : Value) (w : World) : Prop := (∃ z : Int, z ≠ 0 ∧ SzR l m xs W z ∧ v = .tuple #[.slice none 0 0, .int .i64 z]) ∨ (l = m ∧ (∀ j, j < m → 0 ≤ inth xs j ∧ 0 ≤ W j) ∧ ∃ (A : Option Addr) (k c r : Nat), v = .tuple #[.slice A k c, .int .i64 0] ∧ Num w A k c 600 r ∧ IsRoot (prodP xs W (dlcm W m) m) (dlcm W m) r)
/-- What Within answers. -/
def WinR (N l m : Nat) (xs : List Int) (W : Nat → Rat) (v : Value) : Prop := (∃ z : Int, z ≠ 0 ∧ SzR l m xs W z ∧ v = .tuple #[.bool false, .int .i64 z]) ∨ (l = m ∧ (∀ j, j < m → 0 ≤ inth xs j ∧ 0 ≤ W j) ∧ v = .tuple #[.bool (decide (N ^ dlcm W m ≤ prodP xs W (dlcm W m) m)), .int .i64 0])
theorem nine2 {n : Nat} (h : n ≤ 9) : n < PB 2 := Nat.lt_of_le_of_lt h (by rw [PB]; decide)
theorem cmp_le0 {N M : Nat} : decide (cmpN N M ≤ 0) = decide (N ≤ M) := by
  unfold cmpN
  by_cases h : N < M
  · rw [if_pos h]; simp; omega
  · rw [if_neg h]
    by_cases h2 : M < N
    · rw [if_pos h2]; simp; omega
    · rw [if_neg h2]; simp; omega
set_option maxRecDepth 100000 in
set_option maxHeartbeats 8000000 in
theorem cvbound_any (l m np cw cp cx b : Nat) (AW AP AX : Option Addr) (s0 : Bool) (A0 B0 : Option Addr) (k0 c0 m0 d0 : Nat) (W : Nat → Rat) (xs : List Int) (w : World) (hW : Rs w w.heap.size AW m (PW w b W)) (hX : Xs w w.heap.size AX l xs) (hl : l ≤ 1000) (hm : m ≤ 8) (hb : 2 + b ≤ 4900) (hBd : l = m → (∀ j, j < m → 0 ≤ inth xs j ∧ 0 ≤ W j) → BdP m W xs) :
    Calls Try.prog 17 #[.agg #[.slice AW m cw, .slice AP np cp, .bool s0, .slice A0 k0 c0, .slice B0 m0 d0], .slice AX l cx] w (RV w (BndR l m xs W)) := by
  have HW := Lib.hid hW; have HX := Lib.hid hX; have HBd := Lib.hid hBd
  clear hW hX hBd
  go_enter Try.func17, Try.ntmps17
  go_upto_region 1 with (fail)
  have hbw := al w (.cells #[.slice AW m cw, .slice AP np cp, .bool s0, .slice A0 k0 c0, .slice B0 m0 d0] 33)
  have HCv := Lib.hid (Blk.new w 33 #[.slice AW m cw, .slice AP np cp, .bool s0, .slice A0 k0 c0, .slice B0 m0 d0])
  have HB := Lib.hid hbw
  replace HW := Lib.hid (Rs.newW HW.out hbw)
  replace HX := Lib.hid (HX.out.new hbw)
  clear hbw
  generalize w.alloc (.cells #[.slice AW m cw, .slice AP np cp, .bool s0, .slice A0 k0 c0, .slice B0 m0 d0] 33) = w1 at *
  obtain ⟨g4, hg4⟩ : ∃ g4, g4 = w.heap.size := ⟨_, rfl⟩
  rw [← hg4] at HCv ⊢
  have HGg4 := Lib.hid (show w.heap.size ≤ g4 from by omega)
  clear hg4
  have x0 := Blk.at0 HCv.out (Below.refl _ _); have x1 := Blk.at1 HCv.out (Below.refl _ _); have x2 := Blk.at2 HCv.out (Below.refl _ _); have x3 := Blk.at3 HCv.out (Below.refl _ _); have x4 := Blk.at4 HCv.out (Below.refl _ _)
  go_wp2_with fail
  refine (sizes_any l m np cw cp cx b AW AP AX s0 A0 B0 k0 c0 m0 d0 W xs w1 HW.out HX.out (by omega)).mono ?_
  rintro e w2 ⟨z, rfl, hz, hb⟩
  clear x0 x1 x2 x3 x4
  have HSz := Lib.hid hz; clear hz
  replace HW := Lib.hid (Rs.newW HW.out hb)
  replace HX := Lib.hid (HX.out.new hb)
  replace HB := Lib.hid (bthen HB.out hb HB.out.size)
  replace HCv := Lib.hid (HCv.out.keep hb)
  clear hb
  by_cases hz0 : z = 0
  rotate_left
  · have t0 : (z != 0) = true := by simpa using hz0
    go_wp2_with fail
    first | exact bodyPost_ret (results_tmp2 rfl _ _ _) rfl ⟨_, rfl, .inl ⟨z, hz0, HSz.out, rfl⟩, HB.out⟩ | exact bodyPost_end (results_tmp2 rfl _ _ _) rfl ⟨_, rfl, .inl ⟨z, hz0, HSz.out, rfl⟩, HB.out⟩
  subst hz0
  obtain ⟨hlm, hok⟩ := HSz.out.zero
  subst hlm
  have HOk := Lib.hid hok
  obtain ⟨hd9, hbd⟩ := HBd.out rfl hok
  obtain ⟨D, hD⟩ : ∃ D, D = dlcm W l := ⟨_, rfl⟩
  rw [← hD] at hd9 hbd
  have HD := Lib.hid hD; have HBe := Lib.hid hbd
  have HD9 := Lib.hid hd9; have HD0 := Lib.hid (show D ≠ 0 by rw [hD]; exact dlcm_ne W l)
  clear hD hbd hok HBd hd9
  have x0 := Blk.at0 HCv.out (Below.refl _ _)
  go_wp2_with fail
  refine (denom_any l cw b AW W w2 HW.out (by omega) (by omega) (by rw [← HD.out]; exact nine2 HD9.out)).mono ?_
  rintro e w3 ⟨A1, n1, c1, rfl, h1, hb⟩
  clear x0
  rw [← HD.out] at h1
  have HDn := Lib.hid h1; clear h1
  replace HW := Lib.hid (Rs.newW HW.out hb)
  replace HX := Lib.hid (HX.out.new hb)
  replace HB := Lib.hid (bthen HB.out hb HB.out.size)
  replace HCv := Lib.hid (HCv.out.keep hb)
  clear hb
  go_wp2_with fail
  refine (exponent_ok HDn.out (by have := HD9.out; omega)).mono ?_
  rintro e w4 ⟨rfl, rfl⟩
  have x0 := Blk.at0 HCv.out (Below.refl _ _)
  go_wp2_with fail
  refine (prod_any l cw b D l cx n1 c1 AW AX A1 W xs _ HW.out HX.out HDn.out (by omega) (by omega) (fun i hi => ⟨⟨(HOk.out i hi).1, (HBe.out i hi).1⟩, (HBe.out i hi).2⟩)).mono ?_
  rintro e w5 ⟨v5, rfl, ⟨A5, n5, c5, rfl, h5⟩, hb⟩
  clear x0
  have HQ := Lib.hid h5; clear h5
  replace HW := Lib.hid (Rs.newW HW.out hb)
  replace HX := Lib.hid (HX.out.new hb)
  replace HB := Lib.hid (bthen HB.out hb HB.out.size)
  replace HCv := Lib.hid (HCv.out.keep hb)
  replace HDn := Lib.hid (HDn.out.new hb)
  clear hb
  obtain ⟨k, hk⟩ : ∃ k, k + 1 = D := ⟨D - 1, by have := HD0.out; omega⟩
  have hk8 : k ≤ 8 := by have := HD9.out; omega
  have HK := Lib.hid hk
  have ek : ((D : Nat) : Int) = (k : Int) + 1 := by omega
  rw [ek]
  clear hk ek
  go_wp2_with fail
  refine (root_any HQ.out hk8 (by omega)).mono ?_
  rintro e w6 ⟨A6, n6, c6, r, rfl, h6, hr, hb⟩
  have HR := Lib.hid h6; have HRt := Lib.hid hr; clear h6 hr
  replace HW := Lib.hid (Rs.newW HW.out hb)
  replace HX := Lib.hid (HX.out.new hb)
  replace HB := Lib.hid (bthen HB.out hb HB.out.size)
  replace HCv := Lib.hid (HCv.out.keep hb)
  replace HDn := Lib.hid (HDn.out.new hb)
  replace HQ := Lib.hid (HQ.out.new hb)
  clear hb
  go_wp2_with fail
  first | exact bodyPost_ret (results_tmp2 rfl _ _ _) rfl ⟨_, rfl, .inr ⟨rfl, HOk.out, _, _, _, r, rfl, HR.out, by rw [← HD.out]; have hq := HRt.out; rw [HK.out] at hq; exact hq⟩, HB.out⟩ | exact bodyPost_end (results_tmp2 rfl _ _ _) rfl ⟨_, rfl, .inr ⟨rfl, HOk.out, _, _, _, r, rfl, HR.out, by rw [← HD.out]; have hq := HRt.out; rw [HK.out] at hq; exact hq⟩, HB.out⟩
set_option maxRecDepth 100000 in
set_option maxHeartbeats 8000000 in
theorem cvwithin_any (AC : Option Addr) (nC cC a N : Nat) (l m np cw cp cx b : Nat) (AW AP AX : Option Addr) (s0 : Bool) (A0 B0 : Option Addr) (k0 c0 m0 d0 : Nat) (W : Nat → Rat) (xs : List Int) (w : World) (hW : Rs w w.heap.size AW m (PW w b W)) (hX : Xs w w.heap.size AX l xs) (hl : l ≤ 1000) (hm : m ≤ 8) (hb : 2 + b ≤ 4900) (hBd : l = m → (∀ j, j < m → 0 ≤ inth xs j ∧ 0 ≤ W j) → BdP m W xs) (hC : Num w AC nC cC a N) (hF : l = m → (∀ j, j < m → 0 ≤ inth xs j ∧ 0 ≤ W j) → N ^ dlcm W m < bigP) :
    Calls Try.prog 16 #[.slice AC nC cC, .agg #[.slice AW m cw, .slice AP np cp, .bool s0, .slice A0 k0 c0, .slice B0 m0 d0], .slice AX l cx] w (RV w (fun v _ => WinR N l m xs W v)) := by
  have HW := Lib.hid hW; have HX := Lib.hid hX; have HBd := Lib.hid hBd; have HC := Lib.hid hC; have HF := Lib.hid hF
  clear hW hX hBd hC hF
  go_enter Try.func16, Try.ntmps16
  go_upto_region 1 with (fail)
  have hbw := al w (.cells #[.slice AW m cw, .slice AP np cp, .bool s0, .slice A0 k0 c0, .slice B0 m0 d0] 33)
  have HCv := Lib.hid (Blk.new w 33 #[.slice AW m cw, .slice AP np cp, .bool s0, .slice A0 k0 c0, .slice B0 m0 d0])
  have HB := Lib.hid hbw
  replace HW := Lib.hid (Rs.newW HW.out hbw)
  replace HX := Lib.hid (HX.out.new hbw)
  replace HC := Lib.hid (HC.out.new hbw)
  clear hbw
  generalize w.alloc (.cells #[.slice AW m cw, .slice AP np cp, .bool s0, .slice A0 k0 c0, .slice B0 m0 d0] 33) = w1 at *
  obtain ⟨g4, hg4⟩ : ∃ g4, g4 = w.heap.size := ⟨_, rfl⟩
  rw [← hg4] at HCv ⊢
  have HGg4 := Lib.hid (show w.heap.size ≤ g4 from by omega)
  clear hg4
  have x0 := Blk.at0 HCv.out (Below.refl _ _); have x1 := Blk.at1 HCv.out (Below.refl _ _); have x2 := Blk.at2 HCv.out (Below.refl _ _); have x3 := Blk.at3 HCv.out (Below.refl _ _); have x4 := Blk.at4 HCv.out (Below.refl _ _)
  go_wp2_with fail
  refine (sizes_any l m np cw cp cx b AW AP AX s0 A0 B0 k0 c0 m0 d0 W xs w1 HW.out HX.out (by omega)).mono ?_
  rintro e w2 ⟨z, rfl, hz, hb⟩
  clear x0 x1 x2 x3 x4
  have HSz := Lib.hid hz; clear hz
  replace HW := Lib.hid (Rs.newW HW.out hb)
  replace HX := Lib.hid (HX.out.new hb)
  replace HC := Lib.hid (HC.out.new hb)
  replace HB := Lib.hid (bthen HB.out hb HB.out.size)
  replace HCv := Lib.hid (HCv.out.keep hb)
  clear hb
  by_cases hz0 : z = 0
  rotate_left
  · have t0 : (z != 0) = true := by simpa using hz0
    go_wp2_with fail
    first | exact bodyPost_ret (results_tmp2 rfl _ _ _) rfl ⟨_, rfl, .inl ⟨z, hz0, HSz.out, rfl⟩, HB.out⟩ | exact bodyPost_end (results_tmp2 rfl _ _ _) rfl ⟨_, rfl, .inl ⟨z, hz0, HSz.out, rfl⟩, HB.out⟩
  subst hz0
  obtain ⟨hlm, hok⟩ := HSz.out.zero
  subst hlm
  have HOk := Lib.hid hok
  obtain ⟨hd9, hbd⟩ := HBd.out rfl hok
  obtain ⟨D, hD⟩ : ∃ D, D = dlcm W l := ⟨_, rfl⟩
  rw [← hD] at hd9 hbd
  have HD := Lib.hid hD; have HBe := Lib.hid hbd
  have HD9 := Lib.hid hd9; have HD0 := Lib.hid (show D ≠ 0 by rw [hD]; exact dlcm_ne W l)
  clear hD hbd hok HBd hd9
  have HF2 := Lib.hid (show N ^ D < bigP by rw [HD.out]; exact HF.out rfl HOk.out)
  clear HF
  have x0 := Blk.at0 HCv.out (Below.refl _ _)
  go_wp2_with fail
  refine (denom_any l cw b AW W w2 HW.out (by omega) (by omega) (by rw [← HD.out]; exact nine2 HD9.out)).mono ?_
  rintro e w3 ⟨A1, n1, c1, rfl, h1, hb⟩
  clear x0
  rw [← HD.out] at h1
  have HDn := Lib.hid h1; clear h1
  replace HW := Lib.hid (Rs.newW HW.out hb)
  replace HX := Lib.hid (HX.out.new hb)
  replace HC := Lib.hid (HC.out.new hb)
  replace HB := Lib.hid (bthen HB.out hb HB.out.size)
  replace HCv := Lib.hid (HCv.out.keep hb)
  clear hb
  go_wp2_with fail
  refine (pow_nv ⟨_, _, _, rfl, HC.out⟩ ⟨_, _, _, rfl, HDn.out⟩ (by have := HD9.out; omega) HF2.out).mono ?_
  rintro e w4 ⟨v4, rfl, ⟨A14, n4, c4, rfl, h4⟩, hb⟩
  have HP := Lib.hid h4; clear h4
  replace HW := Lib.hid (Rs.newW HW.out hb)
  replace HX := Lib.hid (HX.out.new hb)
  replace HC := Lib.hid (HC.out.new hb)
  replace HB := Lib.hid (bthen HB.out hb HB.out.size)
  replace HCv := Lib.hid (HCv.out.keep hb)
  replace HDn := Lib.hid (HDn.out.new hb)
  clear hb
  have x0 := Blk.at0 HCv.out (Below.refl _ _)
  go_wp2_with fail
  refine (prod_any l cw b D l cx n1 c1 AW AX A1 W xs _ HW.out HX.out HDn.out (by omega) (by omega) (fun i hi => ⟨⟨(HOk.out i hi).1, (HBe.out i hi).1⟩, (HBe.out i hi).2⟩)).mono ?_
  rintro e w5 ⟨v5, rfl, ⟨A5, n5, c5, rfl, h5⟩, hb⟩
  clear x0
  have HQ := Lib.hid h5; clear h5
  replace HW := Lib.hid (Rs.newW HW.out hb)
  replace HX := Lib.hid (HX.out.new hb)
  replace HC := Lib.hid (HC.out.new hb)
  replace HB := Lib.hid (bthen HB.out hb HB.out.size)
  replace HCv := Lib.hid (HCv.out.keep hb)
  replace HDn := Lib.hid (HDn.out.new hb)
  replace HP := Lib.hid (HP.out.new hb)
  clear hb
  go_wp2_with fail
  refine (cmp_n HP.out HQ.out).mono ?_
  rintro e w6 ⟨rfl, hb⟩
  replace HW := Lib.hid (Rs.newW HW.out hb)
  replace HX := Lib.hid (HX.out.new hb)
  replace HC := Lib.hid (HC.out.new hb)
  replace HB := Lib.hid (bthen HB.out hb HB.out.size)
  replace HCv := Lib.hid (HCv.out.keep hb)
  replace HDn := Lib.hid (HDn.out.new hb)
  replace HP := Lib.hid (HP.out.new hb)
  replace HQ := Lib.hid (HQ.out.new hb)
  clear hb
  have t0 := cmp_le0 (N := N ^ D) (M := prodP xs W D l)
  go_wp2_with fail
  first | exact bodyPost_ret (results_tmp2 rfl _ _ _) rfl ⟨_, rfl, .inr ⟨rfl, HOk.out, by rw [← HD.out]; rfl⟩, HB.out⟩ | exact bodyPost_end (results_tmp2 rfl _ _ _) rfl ⟨_, rfl, .inr ⟨rfl, HOk.out, by rw [← HD.out]; rfl⟩, HB.out⟩
end Go.Proofs.Ytpnklmgfdihjfaa
namespace Go.Proofs.Ytpnklmgfdihjfaa
set_option linter.unusedVariables false

theorem mul_den9 (q : Rat) : q * ((q.den : Int) : Rat) = ((q.num : Int) : Rat) := by
  have h := Rat.num_divInt_den q
  rw [Rat.divInt_eq_div] at h
  have h0 : ((q.den : Int) : Rat) ≠ 0 := by
    intro h
    have : (q.den : Int) = 0 := Rat.intCast_inj.1 (by rw [h]; rfl)
    have := q.den_nz; omega
  grind
theorem fr_den_dvd {z : Int} {d : Nat} (hd : 0 < d) : (fr z d).den ∣ d := by
  have h1 := fr_mul (z := z) hd
  generalize fr z d = q at h1 ⊢
  have h2 : ((q.num * (d : Int) : Int) : Rat) = ((z * (q.den : Int) : Int) : Rat) := by
    rw [Rat.intCast_mul, Rat.intCast_mul, ← h1]
    have h4 : ((q.num : Int) : Rat) = q * ((q.den : Int) : Rat) := (mul_den9 q).symm
    rw [h4]; grind
  have h5 := Rat.intCast_inj.1 h2
  have h6 : (q.den : Int) ∣ q.num * (d : Int) := ⟨z, by rw [h5, Int.mul_comm]⟩
  have h7 : q.den ∣ q.num.natAbs * d := by
    have := Int.natAbs_dvd_natAbs.2 h6
    rwa [Int.natAbs_mul, Int.natAbs_natCast, Int.natAbs_natCast] at this
  exact Nat.Coprime.dvd_of_dvd_mul_left (Nat.Coprime.symm q.reduced) h7
theorem expW_mul {z : Int} {d D k : Nat} (hd : 0 < d) (hD : (fr z d).den ∣ D) (hk : D * k = d) : expW (fr z d) D * k = z.natAbs := by
  have h1 := fr_mul (z := z) hd
  unfold expW
  generalize fr z d = q at h1 hD ⊢
  obtain ⟨c, hc⟩ := hD
  have h3 : ((q.num : Int) : Rat) = q * ((q.den : Int) : Rat) := (mul_den9 q).symm
  have h2 : q * ((D : Nat) : Rat) = ((q.num * (c : Int) : Int) : Rat) := by
    rw [Rat.intCast_mul, h3, hc]
    have : (((q.den * c : Nat)) : Rat) = ((q.den : Int) : Rat) * ((c : Int) : Rat) := by
      rw [← Rat.intCast_mul, ← Int.natCast_mul]; rfl
    rw [this]; grind
  rw [h2, Rat.num_intCast]
  have h5 : ((q.num * (c : Int) * (k : Int) : Int) : Rat) = ((z : Int) : Rat) := by
    rw [Rat.intCast_mul, ← h2, ← h1, ← hk]
    have : (((D * k : Nat) : Int) : Rat) = ((D : Nat) : Rat) * ((k : Int) : Rat) := by
      rw [Int.natCast_mul, Rat.intCast_mul]; rfl
    rw [this]; grind
  have h6 := Rat.intCast_inj.1 h5
  rw [← h6, Int.natAbs_mul (q.num * (c : Int)), Int.natAbs_natCast]
/-- The product of sizes with integer exponents. -/
def prodZ (zs xs : List Int) : Nat → Nat
  | 0 => 1
  | i + 1 => prodZ zs xs i * (inth zs i).toNat ^ (inth xs i).toNat
section
variable {zs xs : List Int} {dn D k : Nat}
theorem prodP_pow (hd : 0 < dn) (hk : D * k = dn) : ∀ {n : Nat}, (∀ i, i < n → 0 ≤ inth xs i ∧ (fr (inth xs i) dn).den ∣ D) → prodP zs (fun i => fr (inth xs i) dn) D n ^ k = prodZ zs xs n
  | 0, _ => by show 1 ^ k = 1; exact Nat.one_pow k
  | n + 1, h => by
    show (prodP zs (fun i => fr (inth xs i) dn) D n * (inth zs n).toNat ^ expW (fr (inth xs n) dn) D) ^ k = prodZ zs xs n * (inth zs n).toNat ^ (inth xs n).toNat
    rw [Nat.mul_pow, prodP_pow hd hk (n := n) (fun i hi => h i (by omega)), ← Nat.pow_mul, expW_mul hd (h n (by omega)).2 hk]
    have : (inth xs n).natAbs = (inth xs n).toNat := by have := (h n (by omega)).1; omega
    rw [this]
theorem dl_dvd (hd : 0 < dn) (n : Nat) : dlcm (fun i => fr (inth xs i) dn) n ∣ dn := dlcm_min fun i _ => fr_den_dvd hd
/-- What the law says of the exact powers. -/
theorem bd_exact (hd : 0 < dn) {n : Nat} (hx : ∀ i, i < n → 0 ≤ inth xs i) : ∃ k, 0 < k ∧ dlcm (fun i => fr (inth xs i) dn) n * k = dn ∧ prodP zs (fun i => fr (inth xs i) dn) (dlcm (fun i => fr (inth xs i) dn) n) n ^ k = prodZ zs xs n := by
  obtain ⟨k, hk⟩ := dl_dvd (xs := xs) hd n
  refine ⟨k, ?_, hk.symm, prodP_pow hd hk.symm fun i hi => ⟨hx i hi, den_dvd (W := fun i => fr (inth xs i) dn) hi⟩⟩
  rcases Nat.eq_zero_or_pos k with h | h
  · rw [h, Nat.mul_zero] at hk; omega
  · exact h
theorem bd_ok (hd : 0 < dn) (h6 : dn ≤ 6) {n : Nat} (hx : ∀ i, i < n → 0 ≤ inth xs i ∧ inth xs i ≤ 20) (hz : ∀ i, i < n → inth zs i ≤ 65535) : BdP n (fun i => fr (inth xs i) dn) zs := by
  obtain ⟨k, hk0, hk, -⟩ := bd_exact (zs := zs) hd (fun i hi => (hx i hi).1)
  have hD : dlcm (fun i => fr (inth xs i) dn) n ≤ dn := Nat.le_of_dvd hd (dl_dvd hd n)
  refine ⟨by omega, fun i hi => ?_⟩
  have he := expW_mul (z := inth xs i) hd (den_dvd (W := fun i => fr (inth xs i) dn) hi) hk
  have hb : expW (fr (inth xs i) dn) (dlcm (fun i => fr (inth xs i) dn) n) ≤ 20 := by
    have h1 := hx i hi
    have h2 : (inth xs i).natAbs ≤ 20 := by omega
    exact Nat.le_trans (Nat.le_mul_of_pos_right _ hk0) (by rw [he]; exact h2)
  refine ⟨by have := hz i hi; omega, by show expW (fr (inth xs i) dn) _ ≤ 1000; omega, ?_⟩
  show (inth zs i).toNat ^ expW (fr (inth xs i) dn) _ < PB 60
  generalize expW (fr (inth xs i) dn) (dlcm (fun i => fr (inth xs i) dn) n) = e at hb ⊢
  have h3 : (inth zs i).toNat ≤ 65535 := by have := hz i hi; omega
  calc (inth zs i).toNat ^ e ≤ 65535 ^ e := Nat.pow_le_pow_left h3 e
    _ ≤ 65535 ^ 20 := Nat.pow_le_pow_right (by decide) hb
    _ < PB 20 := by unfold PB; exact Nat.pow_lt_pow_left (by decide) (by decide)
    _ ≤ PB 60 := PB_mono (by decide)
end
end Go.Proofs.Ytpnklmgfdihjfaa
namespace Go.Proofs.Ytpnklmgfdihjfaa
open Go.RowKit
set_option linter.unusedVariables false
set_option linter.unusedSimpArgs false

theorem idx_i16 {o : Oper} {a : Act} {w : World} {t u : Tmp} {ad : Addr} {n c k : Nat} (hk : k < n) (ho : o.op = .indexAddr 44 (.tmp t) (.tmp u)) (h : tv a t = .slice (some ad) n c) (h2 : tv a u = .int .i64 (k : Int)) : gives Try.prog o a.eval w (fun v w' => v = .pointer (some (ad.add k)) ∧ Below w.heap.size w w') := by
  refine gives_val (.pointer (some (ad.add k))) ?_ ⟨rfl, Below.refl _ _⟩
  have i1 : (0 : Int) ≤ (k : Int) := by omega
  have i2 : (k : Int) < (n : Int) := by omega
  unfold execOp
  rw [ho]
  simp only [eval_tmp, h, h2]
  go_simp
theorem load_i16 {o : Oper} {a : Act} {w : World} {t : Tmp} {p : Addr} {v : Value} (ho : o.op = .load 50 (.tmp t)) (hx : tv a t = .pointer (some p)) (hc : w.cell? p = some v) : gives Try.prog o a.eval w (fun z w' => z = v ∧ Below w.heap.size w w') := by
  refine gives_val v ?_ ⟨rfl, Below.refl _ _⟩
  unfold execOp; rw [ho]; simp only [eval_tmp, hx]; go_simp
theorem conv_i16 {o : Oper} {a : Act} {w : World} {t : Tmp} {z : Int} (hz : -32768 ≤ z ∧ z < 32768) (ho : o.op = .convert 50 3 (.tmp t)) (hx : tv a t = .int .i16 z) : gives Try.prog o a.eval w (fun v w' => v = .int .i64 z ∧ Below w.heap.size w w') := by
  have e : IntKind.i64.wrap z = z := IntWalk.i64_in _ (by omega)
  refine gives_val (.int .i64 z) ?_ ⟨rfl, Below.refl _ _⟩
  unfold execOp; rw [ho]; simp only [eval_tmp, hx]
  go_simp
/-- The memory while a law makes the list of sizes. -/
structure LpS (w0 : World) (b0 g7 gx : Nat) (tx : TypeId) (cs cx : Array Value) (a : Nat) (A1 A2 : Option Addr) (xs : List Int) (F : Nat → Rat) (lv : Value) (i : Nat) (L : List Value) (w : World) : Prop where
  cu : Blk w g7 33 cs
  ex : Blk w gx tx cx
  x1 : Xs w b0 A1 a xs
  w1 : Rs w b0 A2 a (PW w 2 F)
  l : OwnC w b0 3 1 lv i L
  hb : Below w0.heap.size w0 w
  lo : g7 < b0 ∧ gx < b0 ∧ w0.heap.size ≤ b0
  sz : b0 ≤ w.heap.size
section
variable {w0 w w' : World} {b0 g7 gx : Nat} {tx : TypeId} {cs cx : Array Value} {a : Nat} {A1 A2 : Option Addr} {xs : List Int} {F : Nat → Rat} {lv v' x : Value} {i : Nat} {L : List Value}
theorem LpS.below (h : LpS w0 b0 g7 gx tx cs cx a A1 A2 xs F lv i L w) (hb : Below w.heap.size w w') : LpS w0 b0 g7 gx tx cs cx a A1 A2 xs F lv i L w' :=
  ⟨h.cu.keep hb, h.ex.keep hb, h.x1.grownX (only_of_below hb none) h.sz (fun _ e => by cases e), Rs.grownB h.w1 (only_of_below hb none) h.sz (fun _ e => by cases e) (KeepsN.below hb), h.l.below hb, bthen h.hb hb h.hb.size, h.lo, Nat.le_trans h.sz hb.size⟩
theorem LpS.push (h : LpS w0 b0 g7 gx tx cs cx a A1 A2 xs F lv i L w) (ho : OwnC w' b0 3 1 v' (i + 1) (L ++ [x])) (hgr : w.grownBy w' lv.ownBlock) (kp : KeepsN w w') : LpS w0 b0 g7 gx tx cs cx a A1 A2 xs F v' (i + 1) (L ++ [x]) w' := by
  have lt : ∀ k, lv.ownBlock = some k → b0 ≤ k := fun k e => (h.l.own.lt k e).1
  have hl := h.lo
  exact ⟨h.cu.grown hgr (fun e => by have := lt _ e.symm; omega), h.ex.grown hgr (fun e => by have := lt _ e.symm; omega), h.x1.grownX hgr h.sz lt, Rs.grownB h.w1 hgr h.sz lt kp, ho, h.hb.grown hgr h.hb.size (fun k e => by have := lt k e; omega), h.lo, Nat.le_trans h.sz hgr.size⟩
end
theorem WinR.good {N l m : Nat} {xs : List Int} {W : Nat → Rat} {v : Value} (h : WinR N l m xs W v) (he : l = m) (hok : ∀ j, j < m → 0 ≤ inth xs j ∧ 0 ≤ W j) : v = .tuple #[.bool (decide (N ^ dlcm W m ≤ prodP xs W (dlcm W m) m)), .int .i64 0] := by
  rcases h with ⟨z, hz, hs, rfl⟩ | ⟨h1, h2, rfl⟩
  · exact absurd (hs.2.2 he hok) hz
  · rfl
/-- An answer of Bound without error. -/
def BnP (D P : Nat) (v : Value) (w : World) : Prop := ∃ (A : Option Addr) (k c r : Nat), v = .tuple #[.slice A k c, .int .i64 0] ∧ Num w A k c 600 r ∧ IsRoot P D r
theorem BnP.new {D P : Nat} {v : Value} {w w' : World} (h : BnP D P v w) (hb : Below w.heap.size w w') : BnP D P v w' := by
  obtain ⟨A, k, c, r, h1, h2, h3⟩ := h; exact ⟨A, k, c, r, h1, h2.new hb, h3⟩
/-- .. its number. -/
def BnN (D P : Nat) (v : Value) (w : World) : Prop := ∃ (A : Option Addr) (k c r : Nat), v = .slice A k c ∧ Num w A k c 600 r ∧ IsRoot P D r
theorem BnN.new {D P : Nat} {v : Value} {w w' : World} (h : BnN D P v w) (hb : Below w.heap.size w w') : BnN D P v w' := by
  obtain ⟨A, k, c, r, h1, h2, h3⟩ := h; exact ⟨A, k, c, r, h1, h2.new hb, h3⟩
theorem BndR.good {l m : Nat} {xs : List Int} {W : Nat → Rat} {v : Value} {w : World} (h : BndR l m xs W v w) (he : l = m) (hok : ∀ j, j < m → 0 ≤ inth xs j ∧ 0 ≤ W j) : BnP (dlcm W m) (prodP xs W (dlcm W m) m) v w := by
  rcases h with ⟨z, hz, hs, rfl⟩ | ⟨h1, h2, h3⟩
  · exact absurd (hs.2.2 he hok) hz
  · exact h3
theorem ext_bn {o : Oper} {a : Act} {w : World} {t : Tmp} {D P : Nat} (ho : o.op = .extract (.tmp t) 0) (h : BnP D P (tv a t) w) : gives Try.prog o a.eval w (fun v w' => BnN D P v w' ∧ Below w.heap.size w w') := by
  obtain ⟨A, k, c, r, h1, h2, h3⟩ := h
  refine gives_val (.slice A k c) ?_ ⟨⟨A, k, c, r, rfl, h2, h3⟩, Below.refl _ _⟩
  unfold execOp
  rw [ho]
  simp only [eval_tmp, h1]
  go_simp
theorem ext_bn1 {o : Oper} {a : Act} {w : World} {t : Tmp} {D P : Nat} (ho : o.op = .extract (.tmp t) 1) (h : BnP D P (tv a t) w) : gives Try.prog o a.eval w (fun v w' => v = .int .i64 0 ∧ Below w.heap.size w w') := by
  obtain ⟨A, k, c, r, h1, h2, h3⟩ := h
  refine gives_val (.int .i64 0) ?_ ⟨rfl, Below.refl _ _⟩
  unfold execOp
  rw [ho]
  simp only [eval_tmp, h1]
  go_simp
theorem fr_nn {z : Int} {d : Nat} (hd : 0 < d) : 0 ≤ fr z d ↔ 0 ≤ z := by rw [← fr_zero d, fr_le hd]
theorem cmp_le1 {N M : Nat} (h : N ≤ M) : decide (cmpN N M ≤ 0) = true := by rw [cmp_le0]; exact decide_eq_true h
end Go.Proofs.Ytpnklmgfdihjfaa
namespace Go.Proofs.Ytpnklmgfdihjfaa
open Go.RowKit
set_option linter.unusedVariables false
set_option linter.unusedSimpArgs false

set_option maxRecDepth 100000 in
set_option maxHeartbeats 8000000 in
theorem cvof_any (n : Int) (s len ce : Nat) (AE : Option Addr) (es : List Nat) (w : World) (hE : Es w w.heap.size AE len es) (hs : s < 4294967296) (hgr : checkCode n es = 0 → n ≤ 6 ∧ len ≤ 7) :
    Calls Try.prog 11 #[.agg #[.int .i64 n, .slice AE len ce], .int .u32 (s : Int)] w (RV w (CvOfR n es len s)) := by
  have HE0 := Lib.hid hE; have HS32 := Lib.hid hs; have HGr := Lib.hid hgr; clear hE hs hgr
  go_enter Try.func11, Try.ntmps11
  go_upto_region 1 with (fail)
  have hbw := bthen (al w (.cells #[.int .i64 n, .slice AE len ce] 24)) (al _ (.cells #[.slice none 0 0, .slice none 0 0, .bool false, .slice none 0 0, .slice none 0 0] 33)) (by simp)
  have HG := Lib.hid ((Blk.new w 24 #[.int .i64 n, .slice AE len ce]).keep (al _ (.cells #[.slice none 0 0, .slice none 0 0, .bool false, .slice none 0 0, .slice none 0 0] 33)))
  have H4 := Lib.hid (Blk.new (w.alloc (.cells #[.int .i64 n, .slice AE len ce] 24)) 33 #[.slice none 0 0, .slice none 0 0, .bool false, .slice none 0 0, .slice none 0 0])
  rw [show (w.alloc (.cells #[.int .i64 n, .slice AE len ce] 24)).heap.size = w.heap.size + 1 from by simp] at H4
  have HB := Lib.hid hbw
  clear hbw
  generalize (w.alloc (.cells #[.int .i64 n, .slice AE len ce] 24)).alloc (.cells #[.slice none 0 0, .slice none 0 0, .bool false, .slice none 0 0, .slice none 0 0] 33) = w1 at *
  obtain ⟨g2, hg2⟩ : ∃ g2, g2 = w.heap.size := ⟨_, rfl⟩
  obtain ⟨g4, hg4⟩ : ∃ g4, g4 = w.heap.size + 1 := ⟨_, rfl⟩
  rw [← hg4] at H4 ⊢
  rw [← hg2] at HG ⊢
  have HGg2 := Lib.hid (show w.heap.size ≤ g2 ∧ w.heap.size ≤ g4 from by omega)
  clear hg2 hg4
  have x0 := Blk.at0 HG.out (Below.refl _ _); have x1 := Blk.at1 HG.out (Below.refl _ _)
  go_wp2_with fail
  refine (check_any n AE es len ce w1 ((HE0.out.below HB.out).more HB.out.size)).mono ?_
  rintro e w2 ⟨rfl, hb⟩
  clear x0 x1
  replace HB := Lib.hid (bthen HB.out hb HB.out.size)
  replace HG := Lib.hid (HG.out.keep hb)
  replace H4 := Lib.hid (H4.out.keep hb)
  clear hb
  by_cases hc : checkCode n es = 0
  rotate_left
  · have t0 : (checkCode n es != 0) = true := by simpa using hc
    go_upto_region 3 with (fail)
    refine wp_region_joins (kss := [[], []]) [(6, .int .i64 ((checkCode n es)))] [EV (.agg #[.slice none 0 0, .slice none 0 0, .bool false, .slice none 0 0, .slice none 0 0]), EV (.int .i64 ((checkCode n es)))] 2 (by kernel_rfl) ⟨rfl, trivial⟩ [false, false] ?_ ?_ ?_
    · exact ⟨eI, eI, trivial⟩
    · refine ⟨?_, ?_, trivial⟩
      · exact fun aa ww hb he hd => ob_plain rfl (gives_built0 rfl built_cov0)
      · exact fun _ _ _ he hd => ob_mv rfl rfl he.1
    intro vs wz hb hR
    have e24 : vs 0 = .agg #[.slice none 0 0, .slice none 0 0, .bool false, .slice none 0 0, .slice none 0 0] := hR 0 (by decide)
    have e25 : vs 1 = .int .i64 ((checkCode n es)) := hR 1 (by decide)
    clear hR
    simp only [putsL, Nat.zero_add, Nat.reduceAdd, List.take_succ_cons, List.take_zero, Act.put, List.setIfInBounds_toArray, List.set_cons_zero, List.set_cons_succ]
    rw [e24, e25]
    clear e24 e25
    show wpOps _ _ _ [2, 3] _ _
    refine wpOps_next rfl rfl (store_cov rfl rfl rfl rfl (H4.out.keep hb) (by simp) (by simp [Value.oneCell']) ?_)
    intro wy kp hg hsz hX
    have HXa := Lib.hid hX
    have HBa := Lib.hid ((bthen HB.out hb HB.out.size).grown hg (bthen HB.out hb HB.out.size).size (fun x hx => by cases hx; exact HGg2.out.2))
    clear kp hg hsz hX hb
    refine wpOps_next rfl rfl (wp_assign 5 (.tmp 25) rfl rfl (.int .i64 (checkCode n es)) rfl ?_)
    simp only [Act.put, List.setIfInBounds_toArray, List.set_cons_zero, List.set_cons_succ]
    unfold wpOps
    go_wp2_with fail
    refine bodyPost_ret (v := .tuple #[.agg #[.slice none 0 0, .slice none 0 0, .bool false, .slice none 0 0, .slice none 0 0], .int .i64 (checkCode n es)]) (results_cell_tmp Try.results11 _ _ _ _ _ (0, 0) _ rfl HXa.out Try.underlying33 rfl rfl) rfl ?_
    exact ⟨_, rfl, ⟨fun _ => rfl, fun h => absurd h hc, fun h => absurd h hc, fun h => absurd h hc⟩, HBa.out⟩
  rw [hc]
  obtain ⟨h0, h32, hl64, hel⟩ := checkCode_zero hc
  obtain ⟨hn6, hl7⟩ := HGr.out hc
  obtain ⟨nn, rfl⟩ : ∃ nn : Nat, n = (nn : Int) := ⟨n.toNat, by omega⟩
  have HC := Lib.hid hc; have HEl := Lib.hid hel; clear hc hel h0 h32 hl64
  have x0 := Blk.at0 HG.out (Below.refl _ _); have x1 := Blk.at1 HG.out (Below.refl _ _)
  go_wp2_with fail
  refine (vertices_any nn len ce AE (by omega) w2).mono ?_
  rintro e w3 ⟨v, rfl, rfl, hb⟩
  clear x0 x1
  replace HB := Lib.hid (bthen HB.out hb HB.out.size)
  replace HG := Lib.hid (HG.out.keep hb)
  replace H4 := Lib.hid (H4.out.keep hb)
  clear hb
  have hpow : 2 ^ nn ≤ 64 := Nat.le_trans (Nat.pow_le_pow_right (by decide) (show nn ≤ 6 by omega)) (by decide)
  obtain ⟨mk, hmk⟩ : ∃ mk, mk = 2 ^ nn - 1 := ⟨_, rfl⟩
  rw [← hmk]
  have HMk := Lib.hid hmk
  have eand := bits_andNot s mk HS32.out (by omega)
  clear hmk hpow
  by_cases hr : andn s mk = 0
  rotate_left
  · have t0 : (((andn s mk : Nat) : Int) != 0) = true := by simp; omega
    go_upto_region 5 with (fail)
    refine wp_region_joins (kss := [[]]) [] [EV (.agg #[.slice none 0 0, .slice none 0 0, .bool false, .slice none 0 0, .slice none 0 0])] 1 (by kernel_rfl) trivial [false] ?_ ?_ ?_
    · exact ⟨eI, trivial⟩
    · refine ⟨?_, trivial⟩
      · exact fun aa ww hb he hd => ob_plain rfl (gives_built0 rfl built_cov0)
    intro vs wz hb hR
    have e31 : vs 0 = .agg #[.slice none 0 0, .slice none 0 0, .bool false, .slice none 0 0, .slice none 0 0] := hR 0 (by decide)
    clear hR
    simp only [putsL, Nat.zero_add, Nat.reduceAdd, List.take_succ_cons, List.take_zero, Act.put, List.setIfInBounds_toArray, List.set_cons_zero, List.set_cons_succ]
    rw [e31]
    clear e31
    show wpOps _ _ _ [1, 2] _ _
    refine wpOps_next rfl rfl (store_cov rfl rfl rfl rfl (H4.out.keep hb) (by simp) (by simp [Value.oneCell']) ?_)
    intro wy kp hg hsz hX
    have HXa := Lib.hid hX
    have HBa := Lib.hid ((bthen HB.out hb HB.out.size).grown hg (bthen HB.out hb HB.out.size).size (fun x hx => by cases hx; exact HGg2.out.2))
    clear kp hg hsz hX hb
    refine wpOps_next rfl rfl (wp_assign 5 (.const (.int .i64 3)) rfl rfl (.int .i64 3) rfl ?_)
    simp only [Act.put, List.setIfInBounds_toArray, List.set_cons_zero, List.set_cons_succ]
    unfold wpOps
    go_wp2_with fail
    refine bodyPost_ret (v := .tuple #[.agg #[.slice none 0 0, .slice none 0 0, .bool false, .slice none 0 0, .slice none 0 0], .int .i64 3]) (results_cell_tmp Try.results11 _ _ _ _ _ (0, 0) _ rfl HXa.out Try.underlying33 rfl rfl) rfl ?_
    exact ⟨_, rfl, ⟨fun h => absurd HC.out h, fun _ _ => rfl, fun _ h => absurd (by rw [HMk.out]; simpa using h) hr, fun _ h => absurd (by rw [HMk.out]; simpa using h) hr⟩, HBa.out⟩
  rw [hr] at eand
  have HR := Lib.hid hr; clear hr
  have x0 := Blk.at0 HG.out (Below.refl _ _); have x1 := Blk.at1 HG.out (Below.refl _ _)
  have hE3 := HE0.out.below HB.out
  go_wp2_with fail
  clear x0 x1 eand hE3
  go_loopg [35, 7] len (fun g iv ov wr => ∃ i : Nat, iv = .int .i64 i ∧ ov = .int .u32 ((orE es i : Nat) : Int) ∧ i + g = len ∧ Hid (Below w3.heap.size w3 wr))
  case atStart => exact ⟨0, rfl, rfl, by omega, Lib.hid (Below.refl _ _)⟩
  case round =>
    obtain ⟨i, rfl, rfl, hil, HBl⟩ := hrel
    have hes : ∀ e ∈ es, e < 4294967296 := HE0.out.2.2
    have hlen := HE0.out.len
    by_cases hi : i < len
    · have i1 : ((i : Int) < (len : Int)) := by omega
      obtain ⟨adE, rfl, -, hcE⟩ := (HE0.out.below (bthen HB.out HBl.out HB.out.size)).at_ hi
      have eor := bits_or (orE es i) (nth es i) (orE_lt hes i (by omega)) (HE0.out.lt hi)
      clear hes hlen
      go_wp2_with fail
      go_roundg (gk - 1)
      case measure => omega
      case rel => exact ⟨i + 1, by go_num, rfl, by omega, HBl⟩
    · obtain rfl : len = i := by omega
      obtain ⟨ors, hors⟩ : ∃ ors, ors = orE es len := ⟨_, rfl⟩
      rw [← hors]
      have eand := bits_andNot s ors HS32.out (by rw [hors]; exact orE_lt hes len (by omega))
      have HOr := Lib.hid (show ors = orE es len ∧ ors < 4294967296 from ⟨hors, by rw [hors]; exact orE_lt hes len (by omega)⟩)
      clear hors hes hlen
      obtain ⟨w4, hw4⟩ : ∃ w4, w4 = wr := ⟨_, rfl⟩
      subst hw4
      have hb := HBl.out; clear HBl
      replace HB := Lib.hid (bthen HB.out hb HB.out.size)
      replace HG := Lib.hid (HG.out.keep hb)
      replace H4 := Lib.hid (H4.out.keep hb)
      clear hb
      by_cases hcv : andn s ors = 0
      rotate_left
      · have t0 : (((andn s ors : Nat) : Int) != 0) = true := by simp; omega
        go_upto_region 13 with (fail)
        refine wp_region_joins (kss := [[]]) [] [EV (.agg #[.slice none 0 0, .slice none 0 0, .bool false, .slice none 0 0, .slice none 0 0])] 1 (by kernel_rfl) trivial [false] ?_ ?_ ?_
        · exact ⟨eI, trivial⟩
        · refine ⟨?_, trivial⟩
          · exact fun aa ww hb he hd => ob_plain rfl (gives_built0 rfl built_cov0)
        intro vs wz hb hR
        have e47 : vs 0 = .agg #[.slice none 0 0, .slice none 0 0, .bool false, .slice none 0 0, .slice none 0 0] := hR 0 (by decide)
        clear hR
        simp only [putsL, Nat.zero_add, Nat.reduceAdd, List.take_succ_cons, List.take_zero, Act.put, List.setIfInBounds_toArray, List.set_cons_zero, List.set_cons_succ]
        rw [e47]
        clear e47
        show wpOps _ _ _ [1, 2] _ _
        refine wpOps_next rfl rfl (store_cov rfl rfl rfl rfl (H4.out.keep hb) (by simp) (by simp [Value.oneCell']) ?_)
        intro wy kp hg hsz hX
        have HXa := Lib.hid hX
        have HBa := Lib.hid ((bthen HB.out hb HB.out.size).grown hg (bthen HB.out hb HB.out.size).size (fun x hx => by cases hx; exact HGg2.out.2))
        clear kp hg hsz hX hb
        refine wpOps_next rfl rfl (wp_assign 5 (.const (.int .i64 9)) rfl rfl (.int .i64 9) rfl ?_)
        simp only [Act.put, List.setIfInBounds_toArray, List.set_cons_zero, List.set_cons_succ]
        unfold wpOps
        go_wp2_with fail
        refine bodyPost_ret (v := .tuple #[.agg #[.slice none 0 0, .slice none 0 0, .bool false, .slice none 0 0, .slice none 0 0], .int .i64 9]) (results_cell_tmp Try.results11 _ _ _ _ _ (0, 0) _ rfl HXa.out Try.underlying33 rfl rfl) rfl ?_
        exact ⟨_, rfl, ⟨fun h => absurd HC.out h, fun _ h => absurd (by rw [← HR.out, HMk.out]; simp) h, fun _ _ _ => rfl, fun _ _ h => absurd (by rw [HOr.out.1]; exact h) hcv⟩, HBa.out⟩
      rw [hcv] at eand
      have HCv := Lib.hid hcv; clear hcv
      have x0 := Blk.at0 HG.out (Below.refl _ _); have x1 := Blk.at1 HG.out (Below.refl _ _)
      go_wp2_with fail
      refine (packing_any nn s len ce AE es w4 ((HE0.out.below HB.out).more HB.out.size) HS32.out (by omega) (by omega)).mono ?_
      rintro e w5 ⟨v, rfl, ⟨A2, c2, DA, da, DB, db, A1, c1, AF, cf, Dr, dp, rfl, hpr, hm, hf⟩, hb⟩
      clear x0 x1 eand
      replace HB := Lib.hid (bthen HB.out hb HB.out.size)
      replace HG := Lib.hid (HG.out.keep hb)
      replace H4 := Lib.hid (H4.out.keep hb)
      clear hb
      obtain ⟨kn, hkn⟩ : ∃ kn, kn = (memL s nn).length := ⟨_, rfl⟩
      obtain ⟨kf, hkf⟩ : ∃ kf, kf = (fstL (nth es) s len).length := ⟨_, rfl⟩
      rw [← hkn, ← hkf] at hpr
      rw [← hkn] at hm
      rw [← hkf] at hf
      rw [← hkn, ← hkf]
      have HKn := Lib.hid hkn; have HKf := Lib.hid hkf
      have hk6 : kn ≤ 6 := by rw [hkn]; exact Nat.le_trans (memL_len s nn) (by omega)
      have hk7 : kf ≤ 7 := by rw [hkf]; exact Nat.le_trans (fstL_len _ _ _) (by omega)
      clear hkn hkf
      have HPr := Lib.hid hpr; have HM := Lib.hid hm; have HFi := Lib.hid hf; clear hpr hm hf
      go_upto_region 15 with (fail)
      have hbw := al w5 (.cells #[.slice A2 kn c2, .slice DA kf da, .slice DB kf db] 75)
      have HPb := Lib.hid (Blk.new w5 75 #[.slice A2 kn c2, .slice DA kf da, .slice DB kf db])
      replace HB := Lib.hid (bthen HB.out hbw HB.out.size)
      replace HG := Lib.hid (HG.out.keep hbw)
      replace H4 := Lib.hid (H4.out.keep hbw)
      replace HPr := Lib.hid (HPr.out.new hbw)
      replace HM := Lib.hid ((HM.out.below hbw).more (Below.size hbw))
      replace HFi := Lib.hid ((HFi.out.below hbw).more (Below.size hbw))
      clear hbw
      generalize w5.alloc (.cells #[.slice A2 kn c2, .slice DA kf da, .slice DB kf db] 75) = w6 at *
      obtain ⟨g10, hg10⟩ : ∃ g10, g10 = w5.heap.size := ⟨_, rfl⟩
      rw [← hg10] at HPb ⊢
      have HGg10 := Lib.hid (show w5.heap.size ≤ g10 from by omega)
      clear hg10
      have y0 := Blk.at0 HPb.out (Below.refl _ _); have y1 := Blk.at1 HPb.out (Below.refl _ _); have y2 := Blk.at2 HPb.out (Below.refl _ _)
      go_wp2_with fail
      refine (Solve_ok kn kf (kn + kf + 2) 60 c2 da db A2 DA DB Dr (fun _ => kn) dp (cvA (nth es) s (memL s nn) (fstL (nth es) s len)) (fun _ => 1) (fun _ => 1) 1 1 w6 (HPr.out.more (by omega)) (fun _ _ => rfl) rfl (by omega) (by omega) (by omega) (by omega) (cv_frac _ _ _ _ _ _) (Nat.lt_of_le_of_lt (bitsT_mono hk7) (by decide))).mono ?_
      rintro e w7 ⟨v, rfl, ⟨u, q, rfl, hsI, hsv⟩, hb⟩
      clear y0 y1 y2
      clear HPr HPb
      replace HB := Lib.hid (bthen HB.out hb HB.out.size)
      replace HG := Lib.hid (HG.out.keep hb)
      replace H4 := Lib.hid (H4.out.keep hb)
      replace HM := Lib.hid ((HM.out.below hb).more (Below.size hb))
      replace HFi := Lib.hid ((HFi.out.below hb).more (Below.size hb))
      clear hb
      obtain ⟨AX, kX, cX, AY, kY, cY, AR, kR, cR, s1, A0, k0, c0, B0, m0, d0, rfl, hln, hX, hY, hR, hV⟩ := hsv
      have hct := hsI.cert
      rw [HKn.out, HKf.out] at hct
      have ho : q.out = 0 := cv_out (n := nn) (m := len) (fun x hx hb => orE_bit (k := len) (by have h := testBit_andn (a := s) (b := ors) (i := x) HOr.out.2 HS32.out; rw [HCv.out, Nat.zero_testBit, hb] at h; rw [← HOr.out.1]; simpa using h)) hct
      rw [ho] at hct
      have HOK := Lib.hid (cv_ok hct)
      obtain ⟨ekX, ekY⟩ : kX = kn ∧ kY = kf := by rcases hln with h | h | h <;> omega
      subst kX
      subst kY
      have HX := Lib.hid hX.toW; have HY := Lib.hid hY.toW; have HV := Lib.hid hV.rw; clear hX hY hR hV hln hsI hct ho
      go_upto_region 16 with (fail)
      have hbw := al w7 (.cells #[.int .i64 (q.out : Int), .slice AX kn cX, .slice AY kf cY, .slice AR kR cR, .bool s1, .slice A0 k0 c0, .slice B0 m0 d0] 79)
      have HZ := Lib.hid (Blk.new w7 79 #[.int .i64 (q.out : Int), .slice AX kn cX, .slice AY kf cY, .slice AR kR cR, .bool s1, .slice A0 k0 c0, .slice B0 m0 d0])
      replace HB := Lib.hid (bthen HB.out hbw HB.out.size)
      replace HG := Lib.hid (HG.out.keep hbw)
      replace H4 := Lib.hid (H4.out.keep hbw)
      replace HM := Lib.hid ((HM.out.below hbw).more (Below.size hbw))
      replace HFi := Lib.hid ((HFi.out.below hbw).more (Below.size hbw))
      replace HX := Lib.hid (Rs.newW HX.out hbw)
      replace HY := Lib.hid (Rs.newW HY.out hbw)
      replace HV := Lib.hid (HV.out.new hbw)
      clear hbw
      generalize w7.alloc (.cells #[.int .i64 (q.out : Int), .slice AX kn cX, .slice AY kf cY, .slice AR kR cR, .bool s1, .slice A0 k0 c0, .slice B0 m0 d0] 79) = w8 at *
      obtain ⟨g13, hg13⟩ : ∃ g13, g13 = w7.heap.size := ⟨_, rfl⟩
      rw [← hg13] at HZ ⊢
      have HGg13 := Lib.hid (show w7.heap.size ≤ g13 from by omega)
      clear hg13
      have HNb := Lib.hid (show g2 < w8.heap.size ∧ g4 < w8.heap.size ∧ g13 < w8.heap.size ∧ w.heap.size ≤ w8.heap.size ∧ w.heap.size ≤ g4 from ⟨HG.out.lt, H4.out.lt, HZ.out.lt, HB.out.size, HGg2.out.2⟩)
      go_upto_region 18 with (fail)
      refine wp_region_joinF (kss := [[], [(0, 64)], [(1, 65)], [(2, 66)], [], [(4, 68)], [(5, 69)], [], [(7, 71)], [(3, 67), (6, 70), (8, 72)], []]) [(2, .pointer (some ⟨g2, 0, none⟩)), (13, .pointer (some ⟨g13, 0, none⟩))] [EV (.pointer (some ⟨g2, 1, none⟩)), EV (.slice AE len ce), EV (.int .i64 ((len : Int))), fun zz w' => ∃ g, zz = .slice (some ⟨g, 0, none⟩) len len ∧ w8.heap.size ≤ g ∧ RB w' g len (PN w' 2 (fun _ => 0)), EV (.pointer (some ⟨g2, 0, none⟩)), EV (.int .i64 ((nn : Int))), fun zz w' => ∃ g, zz = .slice (some ⟨g, 0, none⟩) nn nn ∧ w8.heap.size ≤ g ∧ RB w' g nn (PN w' 2 (fun _ => 0)), EV (.pointer (some ⟨g13, 4, none⟩)), Rw (60) (q.v), fun zz w' => ∃ (gW gP : Nat) (s9 : Bool) (A9 : Option Addr) (k9 c9 : Nat) (B9 : Option Addr) (m9 d9 : Nat), zz = .agg #[.slice (some ⟨gW, 0, none⟩) len len, .slice (some ⟨gP, 0, none⟩) nn nn, .bool s9, .slice A9 k9 c9, .slice B9 m9 d9] ∧ gW ≠ gP ∧ w8.heap.size ≤ gW ∧ w8.heap.size ≤ gP ∧ RB w' gW len (PN w' 2 (fun _ => 0)) ∧ RB w' gP nn (PN w' 2 (fun _ => 0)) ∧ Rw 60 q.v (.agg #[.bool s9, .slice A9 k9 c9, .slice B9 m9 d9]) w', Zc w8.heap.size] 11 [] (by kernel_rfl) (by kernel_rfl) ⟨rfl, rfl, trivial⟩ [false, false, false, true, false, false, true, false, false, false, false] ?_ ?_ ?_ ?_
      · exact fun i hi => absurd hi (by simp)
      · exact ⟨eI, eI, eI, fun _ _ _ ⟨g, h1, h2, h3⟩ hb => ⟨g, h1, h2, h3.newN hb⟩, eI, eI, fun _ _ _ ⟨g, h1, h2, h3⟩ hb => ⟨g, h1, h2, h3.newN hb⟩, eI, fun _ _ _ h hb => h.new hb, fun _ _ _ ⟨gW, gP, s9, A9, k9, c9, B9, m9, d9, h1, h2, h3, h4, h5, h6, h7⟩ hb => ⟨gW, gP, s9, A9, k9, c9, B9, m9, d9, h1, h2, h3, h4, h5.newN hb, h6.newN hb, h7.new hb⟩, fun _ _ _ h hb => h.new hb, trivial⟩
      · refine ⟨?_, ?_, ?_, ?_, ?_, ?_, ?_, ?_, ?_, ?_, ?_, trivial⟩
        · exact fun aa ww hb he hd => ob_plain rfl (fld_hgr (k := 1) rfl (by decide) he.1)
        · exact fun aa ww hb he hd => ob_plain rfl (load_c38 rfl hd.1 (Blk.at1 HG.out hb))
        · exact fun aa ww hb he hd => ob_plain rfl (len_c Try.underlying22 rfl hd.1)
        · exact fun aa ww hb he hd => ⟨by simp [Region.wanted], gives_cvzeros rfl (by omega) hd.1 hb⟩
        · exact fun aa ww hb he hd => ob_plain rfl (fld_hgr (k := 0) rfl (by decide) he.1)
        · exact fun aa ww hb he hd => ob_plain rfl (load_c3 rfl hd.1 (Blk.at0 HG.out hb))
        · exact fun aa ww hb he hd => ⟨by simp [Region.wanted], gives_cvzeros rfl (by omega) hd.1 hb⟩
        · exact fun aa ww hb he hd => ob_plain rfl (fld_sol rfl (by decide) he.2.1)
        · exact fun aa ww hb he hd => ob_plain rfl (load_sv rfl hd.1 (Blk.keep HZ.out hb) (Rw.new HV.out hb))
        · exact fun aa ww hb he hd => ob_plain rfl (by obtain ⟨gW, e1, l1, q1⟩ := hd.1; obtain ⟨gP, e2, l2, q2⟩ := hd.2.1; have hv9 := hd.2.2.1; obtain ⟨s9, A9, k9, c9, B9, m9, d9, e3, -⟩ := hd.2.2.1; rw [e3] at hv9; have hne : gW ≠ gP := fun e => hd.2.2.2 (3, 67) (by simp) (6, 70) (by simp) (by decide) rfl rfl (by show blkOf (tv aa 67) = blkOf (tv aa 70); rw [e1, e2, e]; rfl); exact gives_mono (gives_built3 rfl e1 e2 e3 (built_cov3 _ _ _ _ _ _ _ _ _ _ _ _ _)) (fun v w' ⟨h1, h2⟩ => ⟨⟨gW, gP, s9, A9, k9, c9, B9, m9, d9, h1, hne, l1, l2, q1.newN h2, q2.newN h2, Rw.new hv9 h2⟩, h2⟩))
        · exact fun aa ww hb he hd => ob_plain rfl (alloc_cov rfl hb)
      intro vs w9 hb hR _
      have r15 : Zc w8.heap.size (vs 10) w9 := hR 10 (by decide)
      have r73 := hR 9 (by decide)
      clear hR
      simp only [putsL, Nat.zero_add, Nat.reduceAdd, List.take_succ_cons, List.take_zero, Act.put, List.setIfInBounds_toArray, List.set_cons_zero, List.set_cons_succ]
      obtain ⟨gW, gP, s9, A9, k9, c9, B9, m9, d9, e73, hneq, hlW, hlP, hrW, hrP, hv9⟩ := r73
      rw [e73]
      clear e73
      obtain ⟨g15, e15, hl15, hz15⟩ := r15
      rw [e15]
      clear e15
      show wpAny _ _ _ _ 1 _ _ _
      refine wpAny_next (i := 11) (by kernel_rfl) rfl rfl (store_cov rfl rfl rfl rfl hz15 (by simp) (by simp [Value.oneCell']) ?_)
      intro w10 kp hg hsz hC
      have ne15 : ∀ k, k < w8.heap.size → some k ≠ some g15 := fun k hk e => by injection e with e; omega
      have lt15 : ∀ k, some g15 = some k → w8.heap.size ≤ k := fun k e => by cases e; exact hl15
      obtain ⟨b0, hb0⟩ : ∃ b0, b0 = w8.heap.size := ⟨_, rfl⟩
      have hst : OfS w b0 g4 g13 g15 gW gP len nn kn kf s9 A9 k9 c9 B9 m9 d9 #[.int .i64 (q.out : Int), .slice AX kn cX, .slice AY kf cY, .slice AR kR cR, .bool s1, .slice A0 k0 c0, .slice B0 m0 d0] AX AY A1 AF q.X q.Y (memL s nn) (fstL (nth es) s len) q.v (fun _ => 0) (fun _ => 0) w10 := by
        rw [hb0]
        exact ⟨hC, (HZ.out.keep hb).grown hg (ne15 g13 HNb.out.2.2.1), (H4.out.keep hb).grown hg (ne15 g4 HNb.out.2.1), (Rs.grownB (Rs.grownB HX.out (only_of_below hb none) (Nat.le_refl _) (fun _ e => by cases e) (KeepsN.below hb)) hg hb.size lt15 kp), (Rs.grownB (Rs.grownB HY.out (only_of_below hb none) (Nat.le_refl _) (fun _ e => by cases e) (KeepsN.below hb)) hg hb.size lt15 kp), (HM.out.below hb).grown hg hb.size lt15, (HFi.out.below hb).grown hg hb.size lt15, ((hrW.mono (fun _ _ _ hv => Rw.more (Rv.rw hv) (by omega))).grown hg (RB.ne_ hrW hz15 (by decide)) (fun _ _ _ hv => PW.keep hv kp)), ((hrP.mono (fun _ _ _ hv => Rw.more (Rv.rw hv) (by omega))).grown hg (RB.ne_ hrP hz15 (by decide)) (fun _ _ _ hv => PW.keep hv kp)), hv9.keepN kp, (bthen HB.out hb HB.out.size).grown hg (bthen HB.out hb HB.out.size).size (fun k e => Nat.le_trans HNb.out.2.2.2.1 (lt15 k e)), ⟨hlW, hlP, hneq, HNb.out.2.2.2.1⟩, Nat.le_trans hb.size hg.size⟩
      have HS := Lib.hid hst
      have HG4 := Lib.hid HNb.out.2.2.2.2
      clear hst hb0 ne15 lt15 kp hg hsz hC hz15 hl15 hneq hlW hlP hrW hrP hv9 hb HX HY HV HM HFi HZ H4 HG HB HNb
      refine wpAny_end (by kernel_rfl) (calm_normal ?_) _
      go_wp2_with fail
      go_loopg [76] kn (fun g iv wr => ∃ i : Nat, iv = .int .i64 i ∧ i + g = kn ∧ Hid (OfS w b0 g4 g13 g15 gW gP len nn kn kf s9 A9 k9 c9 B9 m9 d9 #[.int .i64 (q.out : Int), .slice AX kn cX, .slice AY kf cY, .slice AR kR cR, .bool s1, .slice A0 k0 c0, .slice B0 m0 d0] AX AY A1 AF q.X q.Y (memL s nn) (fstL (nth es) s len) q.v (fun _ => 0) (putS (atL (memL s nn)) q.X i) wr))
      case atStart => exact ⟨0, rfl, by omega, Lib.hid HS.out⟩
      case round =>
        obtain ⟨i, rfl, hik, HI⟩ := hrel
        clear HS
        by_cases hi : i < kn
        · have i1 : ((i : Int) < (kn : Int)) := by omega
          obtain ⟨adM, uM, hAM, -, hxM, hcM⟩ := HI.out.m.at_ hi
          subst hAM
          have hiL : i < (memL s nn).length := by rw [← HKn.out]; exact hi
          rw [mints_at hiL] at hxM
          injection hxM with hxM
          subst hxM
          obtain ⟨vv, hvv⟩ : ∃ vv, vv = atL (memL s nn) i := ⟨_, rfl⟩
          rw [← hvv] at hcM
          have hvb : vv < nn := by rw [hvv]; exact (mem_memL.1 (atL_mem hiL)).1
          have HVv := Lib.hid hvv; clear hvv
          obtain ⟨adX, -, -, -, -, -, -, -, hAX, -⟩ := HI.out.x.at_ hi
          subst hAX
          go_upto_region 22 with (fail)
          clear hcM
          refine wp_region_join (kss := [[], [(0, 81)], [], [], [(3, 84)], [], [(4, 85), (5, 86)], [(6, 87)], [(1, 82), (2, 83)]]) [(15, .pointer (some ⟨g15, 0, none⟩)), (17, .int .i64 ((vv : Int))), (13, .pointer (some ⟨g13, 0, none⟩)), (16, .int .i64 ((i : Int)))] [EV (.pointer (some ⟨g15, 1, none⟩)), EV (.slice (some (⟨gP, 0, none⟩)) nn nn), EV (.int .i64 ((vv : Int))), EV (.pointer (some ⟨g13, 1, none⟩)), EV (.slice (some adX) kn cX), EV (.int .i64 ((i : Int))), EV (.pointer (some (Addr.add adX (i * 3)))), Rw (60) ((q.X) i), EV (.pointer (some (Addr.add (⟨gP, 0, none⟩) (vv * 3))))] 9 [] (by kernel_rfl) (by kernel_rfl) ⟨rfl, rfl, rfl, rfl, trivial⟩ [false, false, false, false, false, false, false, false, false] ?_ ?_ ?_ ?_
          · exact fun i hi => absurd hi (by simp)
          · exact ⟨eI, eI, eI, eI, eI, eI, eI, fun _ _ _ h hb => h.new hb, eI, trivial⟩
          · refine ⟨?_, ?_, ?_, ?_, ?_, ?_, ?_, ?_, ?_, trivial⟩
            · exact fun aa ww hb he hd => ob_plain rfl (fld_cov (k := 1) rfl (by decide) he.1)
            · exact fun aa ww hb he hd => ob_plain rfl (load_c28 rfl hd.1 (Blk.at1 HI.out.c hb))
            · exact fun _ _ _ he hd => ob_mv rfl rfl he.2.1
            · exact fun aa ww hb he hd => ob_plain rfl (fld_sol rfl (by decide) he.2.2.1)
            · exact fun aa ww hb he hd => ob_plain rfl (load_c28 rfl hd.1 (Blk.at1 HI.out.z hb))
            · exact fun _ _ _ he hd => ob_mv rfl rfl he.2.2.2.1
            · exact fun aa ww hb he hd => ob_plain rfl (idx_rs (by omega) rfl hd.1 hd.2.1)
            · exact fun aa ww hb he hd => ob_plain rfl (load_rw rfl hd.1 ((Rs.grownB HI.out.x (only_of_below hb none) HI.out.sz (fun _ e => by cases e) (KeepsN.below hb))) (by omega))
            · exact fun aa ww hb he hd => ob_plain rfl (idx_rs (by omega) rfl hd.1 hd.2.1)
          intro vs w11 hb hR _
          have r88 : Rw (60) ((q.X) i) (vs 7) w11 := hR 7 (by decide)
          have e89 : vs 8 = .pointer (some (Addr.add (⟨gP, 0, none⟩) (vv * 3))) := hR 8 (by decide)
          clear hR
          simp only [putsL, Nat.zero_add, Nat.reduceAdd, List.take_succ_cons, List.take_zero, Act.put, List.setIfInBounds_toArray, List.set_cons_zero, List.set_cons_succ]
          rw [e89]
          clear e89
          have HI2 := Lib.hid (HI.out.below hb)
          clear hb HI
          show wpAny _ _ _ _ 1 _ _ _
          refine wpAny_next (i := 9) (by kernel_rfl) rfl rfl (store_row rfl rfl rfl rfl HI2.out.P hvb r88 ?_)
          intro w12 kp hg hsz hR
          have e := putS_at (atL (memL s nn)) q.X (k := i) (fun j hj => atL_inj (memL_nodup s nn) hiL hj)
          have hN := hR (PW w12 60 (putS (atL (memL s nn)) q.X (i + 1))) (fun l u hl hne hv => by rw [← e]; show Rw 60 (if l = atL (memL s nn) i then q.X i else putS (atL (memL s nn)) q.X i l) u w12; rw [if_neg (by rw [← HVv.out]; exact hne)]; exact PW.keep hv kp) (by rw [← e]; show Rw 60 (if vv = atL (memL s nn) i then q.X i else putS (atL (memL s nn)) q.X i vv) _ w12; rw [if_pos HVv.out]; exact Rw.keepN r88 kp)
          have HI3 := Lib.hid (HI2.out.setP hg kp hN)
          clear e hN hR hg kp hsz HI2 r88
          refine wpAny_end (by kernel_rfl) (calm_normal ?_) _
          go_wp2_with fail
          go_roundg (gk - 1)
          case measure => omega
          case rel => exact ⟨i + 1, by go_num, by omega, HI3⟩
        · obtain rfl : kn = i := by omega
          have HS := Lib.hid HI.out
          clear HI
          go_wp2_with fail
          go_loopg [93] kf (fun g iv wr => ∃ i : Nat, iv = .int .i64 i ∧ i + g = kf ∧ Hid (OfS w b0 g4 g13 g15 gW gP len nn kn kf s9 A9 k9 c9 B9 m9 d9 #[.int .i64 (q.out : Int), .slice AX kn cX, .slice AY kf cY, .slice AR kR cR, .bool s1, .slice A0 k0 c0, .slice B0 m0 d0] AX AY A1 AF q.X q.Y (memL s nn) (fstL (nth es) s len) q.v (putS (atL (fstL (nth es) s len)) q.Y i) (putS (atL (memL s nn)) q.X kn) wr))
          case atStart => exact ⟨0, rfl, by omega, Lib.hid HS.out⟩
          case round =>
            obtain ⟨i, rfl, hik, HI⟩ := hrel
            clear HS
            by_cases hi : i < kf
            · have i1 : ((i : Int) < (kf : Int)) := by omega
              obtain ⟨adM, uM, hAM, -, hxM, hcM⟩ := HI.out.f.at_ hi
              subst hAM
              have hiL : i < (fstL (nth es) s len).length := by rw [← HKf.out]; exact hi
              rw [mints_at hiL] at hxM
              injection hxM with hxM
              subst hxM
              obtain ⟨vv, hvv⟩ : ∃ vv, vv = atL (fstL (nth es) s len) i := ⟨_, rfl⟩
              rw [← hvv] at hcM
              have hvb : vv < len := by rw [hvv]; exact fstL_lt (atL_mem hiL)
              have HVv := Lib.hid hvv; clear hvv
              obtain ⟨adX, -, -, -, -, -, -, -, hAX, -⟩ := HI.out.y.at_ hi
              subst hAX
              go_upto_region 27 with (fail)
              clear hcM
              refine wp_region_join (kss := [[], [(0, 98)], [], [], [(3, 101)], [], [(4, 102), (5, 103)], [(6, 104)], [(1, 99), (2, 100)]]) [(15, .pointer (some ⟨g15, 0, none⟩)), (19, .int .i64 ((vv : Int))), (13, .pointer (some ⟨g13, 0, none⟩)), (18, .int .i64 ((i : Int)))] [EV (.pointer (some ⟨g15, 0, none⟩)), EV (.slice (some (⟨gW, 0, none⟩)) len len), EV (.int .i64 ((vv : Int))), EV (.pointer (some ⟨g13, 2, none⟩)), EV (.slice (some adX) kf cY), EV (.int .i64 ((i : Int))), EV (.pointer (some (Addr.add adX (i * 3)))), Rw (60) ((q.Y) i), EV (.pointer (some (Addr.add (⟨gW, 0, none⟩) (vv * 3))))] 9 [] (by kernel_rfl) (by kernel_rfl) ⟨rfl, rfl, rfl, rfl, trivial⟩ [false, false, false, false, false, false, false, false, false] ?_ ?_ ?_ ?_
              · exact fun i hi => absurd hi (by simp)
              · exact ⟨eI, eI, eI, eI, eI, eI, eI, fun _ _ _ h hb => h.new hb, eI, trivial⟩
              · refine ⟨?_, ?_, ?_, ?_, ?_, ?_, ?_, ?_, ?_, trivial⟩
                · exact fun aa ww hb he hd => ob_plain rfl (fld_cov (k := 0) rfl (by decide) he.1)
                · exact fun aa ww hb he hd => ob_plain rfl (load_c28 rfl hd.1 (Blk.at0 HI.out.c hb))
                · exact fun _ _ _ he hd => ob_mv rfl rfl he.2.1
                · exact fun aa ww hb he hd => ob_plain rfl (fld_sol rfl (by decide) he.2.2.1)
                · exact fun aa ww hb he hd => ob_plain rfl (load_c28 rfl hd.1 (Blk.at2 HI.out.z hb))
                · exact fun _ _ _ he hd => ob_mv rfl rfl he.2.2.2.1
                · exact fun aa ww hb he hd => ob_plain rfl (idx_rs (by omega) rfl hd.1 hd.2.1)
                · exact fun aa ww hb he hd => ob_plain rfl (load_rw rfl hd.1 ((Rs.grownB HI.out.y (only_of_below hb none) HI.out.sz (fun _ e => by cases e) (KeepsN.below hb))) (by omega))
                · exact fun aa ww hb he hd => ob_plain rfl (idx_rs (by omega) rfl hd.1 hd.2.1)
              intro vs w11 hb hR _
              have r105 : Rw (60) ((q.Y) i) (vs 7) w11 := hR 7 (by decide)
              have e106 : vs 8 = .pointer (some (Addr.add (⟨gW, 0, none⟩) (vv * 3))) := hR 8 (by decide)
              clear hR
              simp only [putsL, Nat.zero_add, Nat.reduceAdd, List.take_succ_cons, List.take_zero, Act.put, List.setIfInBounds_toArray, List.set_cons_zero, List.set_cons_succ]
              rw [e106]
              clear e106
              have HI2 := Lib.hid (HI.out.below hb)
              clear hb HI
              show wpAny _ _ _ _ 1 _ _ _
              refine wpAny_next (i := 9) (by kernel_rfl) rfl rfl (store_row rfl rfl rfl rfl HI2.out.W hvb r105 ?_)
              intro w12 kp hg hsz hR
              have e := putS_at (atL (fstL (nth es) s len)) q.Y (k := i) (fun j hj => atL_inj (fstL_nodup _ _ _) hiL hj)
              have hN := hR (PW w12 60 (putS (atL (fstL (nth es) s len)) q.Y (i + 1))) (fun l u hl hne hv => by rw [← e]; show Rw 60 (if l = atL (fstL (nth es) s len) i then q.Y i else putS (atL (fstL (nth es) s len)) q.Y i l) u w12; rw [if_neg (by rw [← HVv.out]; exact hne)]; exact PW.keep hv kp) (by rw [← e]; show Rw 60 (if vv = atL (fstL (nth es) s len) i then q.Y i else putS (atL (fstL (nth es) s len)) q.Y i vv) _ w12; rw [if_pos HVv.out]; exact Rw.keepN r105 kp)
              have HI3 := Lib.hid (HI2.out.setW hg kp hN)
              clear e hN hR hg kp hsz HI2 r105
              refine wpAny_end (by kernel_rfl) (calm_normal ?_) _
              go_wp2_with fail
              go_roundg (gk - 1)
              case measure => omega
              case rel => exact ⟨i + 1, by go_num, by omega, HI3⟩
            · obtain rfl : kf = i := by omega
              go_upto_region 29 with (fail)
              refine wp_region_joins (kss := [[]]) [(15, .pointer (some ⟨g15, 0, none⟩))] [EV (.agg #[.slice (some ⟨gW, 0, none⟩) len len, .slice (some ⟨gP, 0, none⟩) nn nn, .bool s9, .slice A9 k9 c9, .slice B9 m9 d9])] 1 (by kernel_rfl) ⟨rfl, trivial⟩ [false] ?_ ?_ ?_
              · exact ⟨eI, trivial⟩
              · refine ⟨?_, trivial⟩
                · exact fun aa ww hb he hd => ob_plain rfl (load_cov rfl he.1 (Blk.keep HI.out.c hb))
              intro vs w13 hb hR
              have e108 : vs 0 = .agg #[.slice (some ⟨gW, 0, none⟩) len len, .slice (some ⟨gP, 0, none⟩) nn nn, .bool s9, .slice A9 k9 c9, .slice B9 m9 d9] := hR 0 (by decide)
              clear hR
              simp only [putsL, Nat.zero_add, Nat.reduceAdd, List.take_succ_cons, List.take_zero, Act.put, List.setIfInBounds_toArray, List.set_cons_zero, List.set_cons_succ]
              rw [e108]
              clear e108
              have HI2 := Lib.hid (HI.out.below hb)
              clear hb HI
              show wpOps _ _ _ [1, 2] _ _
              refine wpOps_next rfl rfl (store_cov rfl rfl rfl rfl HI2.out.h4 (by simp) (by simp [Value.oneCell']) ?_)
              intro w14 kp hg hsz hX
              have HXa := Lib.hid hX
              have HEnd := Lib.hid (HI2.out.fin hg kp HG4.out)
              clear kp hg hsz hX HI2
              refine wpOps_next rfl rfl (wp_assign 5 (.const (.int .i64 0)) rfl rfl (.int .i64 0) rfl ?_)
              simp only [Act.put, List.setIfInBounds_toArray, List.set_cons_zero, List.set_cons_succ]
              unfold wpOps
              go_wp2_with fail
              refine bodyPost_ret (v := .tuple #[.agg #[.slice (some ⟨gW, 0, none⟩) len len, .slice (some ⟨gP, 0, none⟩) nn nn, .bool s9, .slice A9 k9 c9, .slice B9 m9 d9], .int .i64 0]) (results_cell_tmp Try.results11 _ _ _ _ _ (0, 0) _ rfl HXa.out Try.underlying33 rfl rfl) rfl ?_
              have hOK := HOK.out
              rw [← HKn.out, ← HKf.out] at hOK
              exact ⟨_, rfl, ⟨fun h => absurd HC.out h, fun _ h => absurd (by rw [← HR.out, HMk.out]; simp) h, fun _ _ h => absurd (by rw [← HOr.out.1]; exact HCv.out) h, fun _ _ _ => ⟨_, rfl, _, _, _, hOK, HEnd.out.1⟩⟩, HEnd.out.2⟩
end Go.Proofs.Ytpnklmgfdihjfaa
namespace Go.Proofs.Ytpnklmgfdihjfaa
open Go.RowKit
set_option linter.unusedVariables false
set_option linter.unusedSimpArgs false

set_option maxRecDepth 100000 in
set_option maxHeartbeats 8000000 in
theorem of29_any (n d : Int) (hn : -1000000000 ≤ n ∧ n ≤ 1000000000) (hd : -1000000000 ≤ d ∧ d ≤ 1000000000) (hd0 : d ≠ 0) (w : World) : Calls Try.prog 23 #[.int .i64 n, .int .i64 d] w (RV w (Rv 2 ((n : Rat) / (d : Rat)))) := by
  have hq := qof_any n d (by omega) (by omega) (by omega) (by omega) (w := w.alloc (.cells #[.bool false, .slice none 0 0, .slice none 0 0] 31))
  go_enter Try.func23, Try.ntmps23
  go_upto_region 1 with (fail)
  have hbw := al w (.cells #[.bool false, .slice none 0 0, .slice none 0 0] 31)
  have H4 := Lib.hid (Blk.new w 31 #[.bool false, .slice none 0 0, .slice none 0 0])
  have HB := Lib.hid hbw
  clear hbw
  generalize w.alloc (.cells #[.bool false, .slice none 0 0, .slice none 0 0] 31) = w1 at *
  obtain ⟨g4, hg4⟩ : ∃ g4, g4 = w.heap.size := ⟨_, rfl⟩
  rw [← hg4] at H4 ⊢
  have HGg4 := Lib.hid (show w.heap.size ≤ g4 from by omega)
  clear hg4
  go_wp2_with fail
  refine (hq).mono ?_
  rintro e w2 ⟨-, h2⟩
  obtain ⟨s1, A1, k1, c1, B1, m1, d1, rfl, hr1, hb⟩ := h2 hd0
  clear hq h2
  have HR1 := Lib.hid (show Rv 2 ((n : Rat) / (d : Rat)) (.agg #[.bool s1, .slice A1 k1 c1, .slice B1 m1 d1]) w2 from ⟨_, _, _, _, _, _, _, rfl, hr1⟩)
  clear hr1
  replace HB := Lib.hid (bthen HB.out hb HB.out.size)
  replace H4 := Lib.hid (H4.out.keep hb)
  clear hb
  go_upto_region 2 with (fail)
  have hbw := al w2 (.cells #[.bool s1, .slice A1 k1 c1, .slice B1 m1 d1] 31)
  have HX := Lib.hid (Blk.new w2 31 #[.bool s1, .slice A1 k1 c1, .slice B1 m1 d1])
  replace HB := Lib.hid (bthen HB.out hbw HB.out.size)
  replace H4 := Lib.hid (H4.out.keep hbw)
  replace HR1 := Lib.hid (HR1.out.new hbw)
  clear hbw
  generalize w2.alloc (.cells #[.bool s1, .slice A1 k1 c1, .slice B1 m1 d1] 31) = w3 at *
  obtain ⟨g5, hg5⟩ : ∃ g5, g5 = w2.heap.size := ⟨_, rfl⟩
  rw [← hg5] at HX ⊢
  have HGg5 := Lib.hid (show w2.heap.size ≤ g5 from by omega)
  clear hg5
  have HXn := Lib.hid (show Bn 2 ((n : Rat) / (d : Rat)) g5 w3 from by obtain ⟨a1, a2, a3, a4, a5, a6, a7, e, h⟩ := HR1.out; cases e; exact ⟨_, _, _, _, _, _, _, HX.out, h⟩)
  refine wp_region_joins (kss := [[]]) [(5, .pointer (some ⟨g5, 0, none⟩))] [Rv (2) ((n : Rat) / (d : Rat))] 1 (by kernel_rfl) ⟨rfl, trivial⟩ [false] ?_ ?_ ?_
  · exact ⟨fun _ _ _ h hb => h.new hb, trivial⟩
  · refine ⟨?_, trivial⟩
    · exact fun aa ww hb he hd => ob_plain rfl (load_bn rfl he.1 (Bn.new HXn.out hb))
  intro vs w5 hb hR
  have r13 : Rv (2) ((n : Rat) / (d : Rat)) (vs 0) w5 := hR 0 (by decide)
  clear hR
  simp only [putsL, Nat.zero_add, Nat.reduceAdd, List.take_succ_cons, List.take_zero, Act.put, List.setIfInBounds_toArray, List.set_cons_zero, List.set_cons_succ]
  have R13 := Lib.hid r13
  obtain ⟨s2, A2, k2, c2, B2, m2, d2, e13, -⟩ := r13
  rw [e13] at R13 ⊢
  clear e13
  show wpOps _ _ _ [1] _ _
  refine wpOps_next rfl rfl (store_ratk rfl rfl rfl rfl (H4.out.keep hb) (by simp) (by simp [Value.oneCell']) (by simp) ?_)
  intro w6 kp hg hsz hB
  have HBb := Lib.hid hB; have HV := Lib.hid (R13.out.keepN kp)
  have HBf := Lib.hid ((bthen HB.out hb HB.out.size).grown hg (bthen HB.out hb HB.out.size).size (fun x hx => by cases hx; exact HGg4.out))
  clear kp hg hsz hB hb R13
  unfold wpOps
  go_wp2_with fail
  refine bodyPost_ret (v := .agg #[.bool s2, .slice A2 k2 c2, .slice B2 m2 d2]) (results_cell_row Try.results23 _ _ _ _ _ (0, 0) _ rfl HBb.out Try.underlying31 rfl rfl) rfl ?_
  exact ⟨_, rfl, HV.out, HBf.out⟩
end Go.Proofs.Ytpnklmgfdihjfaa
