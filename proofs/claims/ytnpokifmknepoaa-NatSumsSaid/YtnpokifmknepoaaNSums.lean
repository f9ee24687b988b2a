/-
  The walk of NatSums: a slice of numbers; nat.Sum.
-/
import Derived.Test.YtnpokifmknepoaaNDivides
namespace Go.Proofs.Ytnpokifmknepoaa
open Go.RowKit

/-- A slice of slices of digits: row j has L j digits, worth V j. -/
def Ls (w : World) (K : Nat) (A : Option Addr) (n : Nat) (L V : Nat → Nat) : Prop :=
  n ≤ 9223372036854775807 ∧ (0 < n → ∃ ad, A = some ad ∧ ad.block < w.heap.size ∧ ∀ j, j < n → ∃ B c l, w.cell? (ad.add j) = some (.slice B (L j) c) ∧ L j ≤ c ∧ L j ≤ K ∧ Es w w.heap.size B (L j) l ∧ valB 4294967296 l = V j)
section
variable {w w' : World} {K n : Nat} {A : Option Addr} {L V : Nat → Nat}
theorem Ls.new (h : Ls w K A n L V) (hb : Below w.heap.size w w') : Ls w' K A n L V := by
  refine ⟨h.1, fun hn => ?_⟩
  obtain ⟨ad, e, hlt, hj⟩ := h.2 hn
  refine ⟨ad, e, Nat.lt_of_lt_of_le hlt hb.size, fun j hjn => ?_⟩
  obtain ⟨B, c, l, h1, h2, h3, h4, h5⟩ := hj j hjn
  exact ⟨B, c, l, (hb.cell (by rw [block_of_add]; exact hlt)).trans h1, h2, h3, h4.new hb, h5⟩
theorem Ls.at_ (h : Ls w K A n L V) {j : Nat} (hj : j < n) : ∃ ad B c, A = some ad ∧ w.cell? (ad.add j) = some (.slice B (L j) c) ∧ Hid (L j ≤ c ∧ L j ≤ K ∧ ∃ l, Es w w.heap.size B (L j) l ∧ valB 4294967296 l = V j) := by
  obtain ⟨ad, rfl, hlt, hx⟩ := h.2 (by omega)
  obtain ⟨B, c, l, h1, h2, h3, h4, h5⟩ := hx j hj
  exact ⟨ad, B, c, rfl, h1, Lib.hid ⟨h2, h3, l, h4, h5⟩⟩
theorem num_short {B : Option Addr} {k c v : Nat} (h : Hid (k ≤ c ∧ k ≤ K ∧ ∃ l, Es w w.heap.size B k l ∧ valB 4294967296 l = v)) (hk : k ≤ 20) : Num w B k c 20 v := by
  obtain ⟨h1, h2, l, h3, rfl⟩ := h.out
  exact Num.of_es h3 h1 hk (by omega) (by omega)
end
def sumTo (V : Nat → Nat) : Nat → Nat
  | 0 => 0
  | i + 1 => sumTo V i + V i
def downTo (V : Nat → Nat) (n : Nat) : Nat → Nat
  | 0 => 0
  | i + 1 => V (n - 1 - i) + downTo V n i
theorem downTo_eq (V : Nat → Nat) (n : Nat) : ∀ i, i ≤ n → downTo V n i + sumTo V (n - i) = sumTo V n
  | 0, _ => by simp [downTo]
  | i + 1, h => by
    have ih := downTo_eq V n i (by omega)
    rw [show n - i = (n - (i + 1)) + 1 by omega, sumTo, show n - (i + 1) = n - 1 - i by omega] at ih
    rw [downTo, show n - (i + 1) = n - 1 - i by omega]; omega
theorem downTo_all (V : Nat → Nat) (n : Nat) : downTo V n n = sumTo V n := by
  have := downTo_eq V n n (Nat.le_refl _)
  simpa [sumTo] using this
theorem mul_small {i p q : Nat} (hi : i ≤ 30) (hp : 30 ≤ p) (hq : 0 < q) : i * q < q * p + q := by
  have : i * q ≤ 30 * q := Nat.mul_le_mul_right _ hi
  have h2 : q * 30 ≤ q * p := Nat.mul_le_mul_left _ hp
  omega
theorem downTo_lt {V : Nat → Nat} {n K : Nat} (hV : ∀ j, j < n → V j < PB K) : ∀ i, i ≤ n → downTo V n i ≤ i * PB K
  | 0, _ => by simp [downTo]
  | i + 1, h => by
    have ih := downTo_lt hV i (by omega)
    have := hV (n - 1 - i) (by omega)
    rw [downTo, Nat.succ_mul]; omega
theorem PB_pos (K : Nat) : 0 < PB K := Nat.pow_pos (by omega)
theorem PB_succ (K : Nat) : PB (K + 1) = PB K * 4294967296 := by rw [PB, PB, Nat.pow_succ]
theorem down_len {V : Nat → Nat} {n K i : Nat} (hV : ∀ j, j < n → V j < PB K) (hi : i ≤ n) (hn : n ≤ 30) {l : List Nat} (hl : Nrm 4294967296 l (downTo V n i)) : l.length ≤ K + 1 := by
  refine PB_len hl ?_
  have h1 := downTo_lt hV i hi
  have h2 : i * PB K ≤ 30 * PB K := Nat.mul_le_mul_right _ (by omega)
  have h3 := PB_pos K
  rw [PB_succ]
  omega
theorem Ls.lt {w : World} {K n : Nat} {A : Option Addr} {L V : Nat → Nat} (h : Ls w K A n L V) : ∀ j, j < n → V j < PB K := by
  intro j hj
  obtain ⟨ad, B, c, -, -, H⟩ := h.at_ hj
  obtain ⟨h1, h2, l, h3, h4⟩ := H.out
  have h5 := valB_lt h3.2.2
  rw [← h4]
  have h6 := h3.len
  exact Nat.lt_of_lt_of_le h5 (PB_mono (by omega))
theorem nil_num (w : World) : Num w none 0 0 1 0 :=
  ⟨Nat.le_refl _, Nat.le_refl _, by omega, PB_pos 1, [], ⟨Reads.none_, ⟨rfl, by omega⟩, by simp⟩, rfl⟩

def RetN' (w : World) (b N : Nat) (e : Ending) (w' : World) : Prop := ∃ A k c, e = .returned (.slice A k c) ∧ Num w' A k c b N ∧ Below w.heap.size w w'

set_option maxHeartbeats 4000000 in
theorem sum_any (A : Option Addr) (n c K : Nat) (L V : Nat → Nat) (w : World) (h : Ls w K A n L V) (hn : n ≤ 30) (hL : ∀ j, j < n → L j ≤ 20) :
    Calls Try.prog 25 #[.slice A n c] w (RetN' w 1000 (sumTo V n)) := by
  have HL := Lib.hid h; clear h
  have HS := Lib.hid hL; clear hL
  go_enter Try.func25, Try.ntmps25
  go_wp2_with fail
  go_loopw [3, 7] (fun ov iv wr => ∃ (i : Nat) (B : Option Addr) (k c : Nat), i ≤ n ∧ iv = .int .i64 i ∧ ov = .slice B k c ∧ Hid (Num wr B k c (1 + 20 * i) (sumTo V i) ∧ Below w.heap.size w wr)) (fun _ iv _ => n - (intOf iv).toNat)
  case atStart => exact ⟨0, none, 0, 0, Nat.zero_le _, rfl, rfl, Lib.hid ⟨nil_num _, Below.refl _ _⟩⟩
  case round =>
    obtain ⟨i, B, k, cc, hi, rfl, rfl, HJ⟩ := hrel
    by_cases hlt : i < n
    · obtain ⟨ad, B', c', rfl, hcell, HR⟩ := (HL.out.new HJ.out.2).at_ hlt
      have hk := HS.out i hlt
      have HK := Lib.hid hk; clear hk
      go_wp2_with fail
      refine (add_n HJ.out.1 (num_short HR HK.out) (by omega)).mono ?_
      rintro e w1 ⟨A1, k1, c1, rfl, h1, -, hb⟩
      have H1 := Lib.hid h1; clear h1
      have HB := Lib.hid (bthen HJ.out.2 hb HJ.out.2.size); clear hb
      go_wp2_with fail
      go_roundw
      case rel => exact ⟨i + 1, A1, k1, c1, by omega, by go_num, rfl, Lib.hid ⟨by have := H1.out; rw [show 1 + 20 * (i + 1) = 1 + 20 * i + 20 by omega]; exact this, HB.out⟩⟩
      case measure => simp [intOf]; omega
    · obtain rfl : i = n := by omega
      go_wp2_with fail
      go_ret
      obtain ⟨h1, h2, h3, h4, h5⟩ := HJ.out.1
      exact ⟨B, k, cc, rfl, ⟨h1, by omega, h3, Nat.lt_of_lt_of_le h4 (PB_mono (by omega)), h5⟩, HJ.out.2⟩

section
variable (A : Option Addr) (n c K : Nat) (L V : Nat → Nat) (w : World)
set_option maxHeartbeats 4000000 in
theorem sums_far (h1 : n ≤ 9223372036854775807) (h : 30 < n) : Calls Try.prog 5 #[.slice A n c] w fun e w' => e = .returned (.bool true) ∧ Below w.heap.size w w' := by
  have t1 : decide ((30 : Int) < (n : Int)) = true := by simp; omega
  go_enter Try.func5, Try.ntmps5
  go_wp2_with fail
  refine (awake_any _).mono ?_
  rintro e w1 ⟨rfl, hb⟩
  have HW := Lib.hid hb; clear hb
  go_wp2_with fail
  go_ret
  exact ⟨rfl, HW.out⟩

set_option maxHeartbeats 8000000 in
theorem sums_near (h : Ls w K A n L V) (hn : n ≤ 30) (hK : K ≤ 39000000000000) : Calls Try.prog 5 #[.slice A n c] w fun e w' => e = .returned (.bool true) ∧ Below w.heap.size w w' := by
  have t1 : decide ((30 : Int) < (n : Int)) = false := by simp; omega
  have HV := Lib.hid h.lt
  have HL := Lib.hid h; clear h
  go_enter Try.func5, Try.ntmps5
  go_wp2_with fail
  refine (awake_any _).mono ?_
  rintro e w1 ⟨rfl, hb⟩
  replace HL := Lib.hid (HL.out.new hb)
  have HW := Lib.hid hb; clear hb
  go_wp2_with fail
  go_loopw [3, 4, 5] (fun uv dv iv wr => ∃ (i : Nat) (B D : Option Addr) (k c k' c' : Nat), i ≤ n ∧ iv = .int .i64 i ∧ uv = .slice B k c ∧ dv = .slice D k' c' ∧ Hid ((∀ j, j < i → L j ≤ 20) ∧ Num wr B k c (1 + 20 * i) (sumTo V i) ∧ (k' ≤ c' ∧ ∃ l, Es wr wr.heap.size D k' l ∧ Nrm 4294967296 l (downTo V n i)) ∧ Below w1.heap.size w1 wr)) (fun _ _ iv _ => n - (intOf iv).toNat)
  case atStart => exact ⟨0, none, none, 0, 0, 0, 0, Nat.zero_le _, rfl, rfl, rfl, Lib.hid ⟨fun j hj => by omega, nil_num _, ⟨Nat.le_refl _, [], ⟨Reads.none_, ⟨rfl, by omega⟩, by simp⟩, Nrm.nil _⟩, Below.refl _ _⟩⟩
  case round =>
    obtain ⟨i, B, D, k, cc, k', c', hi, rfl, rfl, rfl, HJ⟩ := hrel
    by_cases hlt : i < n
    · obtain ⟨ad, B', c2, rfl, hcell, HR⟩ := (HL.out.new HJ.out.2.2.2).at_ hlt
      have hLe : L i ≤ 9223372036854775807 := by obtain ⟨-, -, l, h3, -⟩ := HR.out; exact h3.le
      by_cases hbig : 20 < L i
      · have t2 : decide ((20 : Int) < (L i : Int)) = true := by simp; omega
        go_wp2_with fail
        go_ret
        exact ⟨rfl, bthen HW.out HJ.out.2.2.2 HW.out.size⟩
      · have t2 : decide ((20 : Int) < (L i : Int)) = false := by simp; omega
        have HS := Lib.hid (show L i ≤ 20 by omega)
        clear hbig
        obtain ⟨j, hj⟩ : ∃ j, j = n - 1 - i := ⟨_, rfl⟩
        have hjn : j < n := by omega
        have ej : (n : Int) - 1 - (i : Int) = (j : Int) := by omega
        have j1 : (0 : Int) ≤ (j : Int) := by omega
        have j2 : (j : Int) < (n : Int) := by omega
        have HJJ := Lib.hid hj; clear hj
        go_wp2_with fail
        refine (add_n HJ.out.2.1 (num_short HR HS.out) (by omega)).mono ?_
        rintro e w2 ⟨A1, k1, c1, rfl, h1, -, hb⟩
        have H1 := Lib.hid h1; clear h1
        have HB := Lib.hid (bthen HJ.out.2.2.2 hb HJ.out.2.2.2.size)
        have HD := Lib.hid (show k' ≤ c' ∧ ∃ l, Es w2 w2.heap.size D k' l ∧ Nrm 4294967296 l (downTo V n i) from ⟨HJ.out.2.2.1.1, by obtain ⟨l, h2, h3⟩ := HJ.out.2.2.1.2; exact ⟨l, h2.new hb, h3⟩⟩)
        clear hb hcell HR
        obtain ⟨ad', B3, c3, had, hcell, HR⟩ := (HL.out.new HB.out).at_ hjn
        obtain rfl : ad = ad' := by injection had
        clear had
        go_wp2_with fail
        obtain ⟨hc3, hk3, l3, hE3, hv3⟩ := HR.out
        obtain ⟨hkc, l, hE, hN⟩ := HD.out
        have hlen := down_len HV.out hi hn hN
        have hl := hE.len
        refine (add_any B3 l3 (L j) c3 hc3 D l k' c' hkc w2 hE3 hE (by omega) (by omega)).mono ?_
        rintro e w3 ⟨A4, k4, c4, l4, rfl, hkc4, hE4, hN4, hb⟩
        rw [hv3, hN.1, HJJ.out] at hN4
        have HB3 := Lib.hid (bthen HB.out hb HB.out.size)
        have H13 := Lib.hid (H1.out.new hb)
        have HD4 := Lib.hid (show k4 ≤ c4 ∧ ∃ l, Es w3 w3.heap.size A4 k4 l ∧ Nrm 4294967296 l (downTo V n (i + 1)) from ⟨hkc4, l4, hE4, hN4⟩)
        clear hb hE4 hN4 hE3 hE hN hlen hl hv3
        go_wp2_with fail
        go_roundw
        case rel =>
          refine ⟨i + 1, A1, A4, k1, c1, k4, c4, by omega, by go_num, rfl, rfl, Lib.hid ⟨fun j hj => ?_, ?_, HD4.out, HB3.out⟩⟩
          · by_cases hji : j = i
            · subst hji; exact HS.out
            · exact HJ.out.1 j (by omega)
          · have := H13.out; rw [show 1 + 20 * (i + 1) = 1 + 20 * i + 20 by omega]; exact this
        case measure => simp [intOf]; omega
    · obtain rfl : i = n := by omega
      have hb := HJ.out.2.2.2
      replace HL := Lib.hid (HL.out.new hb)
      replace HW := Lib.hid (bthen HW.out hb HW.out.size)
      have HU := Lib.hid HJ.out.2.1
      have HD : Hid (Num wr D k' c' (1 + 20 * i) (sumTo V i)) := by
        obtain ⟨h1, l, h2, h3⟩ := HJ.out.2.2.1
        rw [downTo_all] at h3
        exact Lib.hid (Num.of_nrm h2 h1 h3 HJ.out.2.1.2.2.2.1 (by omega) (by omega)).1
      clear hb
      go_wp2_with fail
      refine (sum_any A i c K L V _ HL.out hn HJ.out.1).mono ?_
      rintro e w2 ⟨A2, k2, c2, rfl, h2, hb⟩
      replace HU := Lib.hid (HU.out.new hb)
      replace HD := Lib.hid (HD.out.new hb)
      replace HW := Lib.hid (bthen HW.out hb HW.out.size)
      have H2 := Lib.hid h2; clear h2 hb
      go_wp2_with fail
      refine (cmp_n H2.out HU.out).mono ?_
      rintro e w3 ⟨rfl, hb⟩
      rw [cmpN_self]
      replace HU := Lib.hid (HU.out.new hb)
      replace HD := Lib.hid (HD.out.new hb)
      replace HW := Lib.hid (bthen HW.out hb HW.out.size)
      clear hb H2
      go_wp2_with fail
      refine (cmp_n HU.out HD.out).mono ?_
      rintro e w4 ⟨rfl, hb⟩
      rw [cmpN_self]
      replace HW := Lib.hid (bthen HW.out hb HW.out.size)
      clear hb
      go_wp2_with fail
      go_ret
      exact ⟨rfl, HW.out⟩
end

theorem natSums_walk (A : Option Addr) (n c K : Nat) (L V : Nat → Nat) (w : World) (h : Ls w K A n L V) (hK : K ≤ 39000000000000) :
    Calls Try.prog 5 #[.slice A n c] w fun e w' => e = .returned (.bool true) ∧ Below w.heap.size w w' := by
  by_cases hn : 30 < n
  · exact sums_far A n c w h.1 hn
  · exact sums_near A n c K L V w h (by omega) hK
end Go.Proofs.Ytnpokifmknepoaa
