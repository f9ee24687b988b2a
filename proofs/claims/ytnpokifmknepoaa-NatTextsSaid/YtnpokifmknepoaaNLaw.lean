/-
  Small functions of the laws of layer 4 (of, is) and the reference's Bits.
-/
import Derived.Test.YtnpokifmknepoaaNRef4
import Derived.Test.YtnpokifmknepoaaNDivides
namespace Go.Proofs.Ytnpokifmknepoaa
open Go.RowKit

set_option maxHeartbeats 1000000 in
theorem of_d {w : World} {A : Option Addr} {n c a N : Nat} (h : Num w A n c a N) : Calls Try.prog 12 #[.slice A n c] w (RetD w N) := by
  obtain ⟨h1, h2, h3, h4, l, h5, rfl⟩ := h
  have HE := Lib.hid h5; clear h5 h4
  go_enter Try.func12, Try.ntmps12
  go_wp2_with fail
  refine (rof_any A l n c _ HE.out (by omega)).mono ?_
  rintro e w1 ⟨A1, k1, c1, rfl, hd, hb⟩
  have H1 := Lib.hid hd; have H2 := Lib.hid hb; clear hd hb
  go_wp2_with fail
  go_ret
  exact ⟨A1, k1, c1, rfl, H1.out, H2.out⟩

set_option maxHeartbeats 1000000 in
theorem is_d {w : World} {A B : Option Addr} {n c a m d N : Nat} (h : Num w A n c a N) (hm : Norm w A n N) (hd : DN w B m d N) :
    Calls Try.prog 17 #[.slice A n c, .slice B m d] w fun e w' => e = .returned (.bool true) ∧ Below w.heap.size w w' := by
  have HN := Lib.hid h; clear h
  have HD := Lib.hid hd; clear hd
  have h10 := HN.out.2.2.1
  by_cases h0 : n = 0
  · have t0 : ((n : Int) == 0) = true := by simp [h0]
    clear hm h0
    go_enter Try.func17, Try.ntmps17
    go_wp2_with fail
    refine (of_d HN.out).mono ?_
    rintro e w1 ⟨A1, k1, c1, rfl, hd, hb⟩
    have H1 := Lib.hid hd; replace HD := Lib.hid (HD.out.new hb); have H2 := Lib.hid hb; clear hd hb
    go_wp2_with fail
    refine (rcmp_any A1 k1 c1 N B m d N _ H1.out HD.out).mono ?_
    rintro e w2 ⟨rfl, hb⟩
    rw [cmpN_self]
    have H3 := Lib.hid (bthen H2.out hb H2.out.size); clear hb
    go_wp2_with fail
    go_ret
    exact ⟨rfl, H3.out⟩
  · have t0 : ((n : Int) == 0) = false := by simp; omega
    obtain ⟨l, hE, hl⟩ := hm
    obtain ⟨j, rfl⟩ : ∃ j, n = j + 1 := ⟨n - 1, by omega⟩
    obtain ⟨ad, rfl, hb1, hcell⟩ := hE.at_ (show j < j + 1 by omega)
    have hz : nth l j ≠ 0 := by
      have h1 := hE.len
      rcases hl.2.2 with h2 | h2
      · subst h2; simp at h1
      · rw [← h1] at h2; simpa using h2
    have t1 : ((nth l j : Int) != 0) = true := by simp; omega
    have i1 : ((j + 1 : Nat) : Int) - 1 = (j : Int) := by omega
    clear hE hl hz h0
    go_enter Try.func17, Try.ntmps17
    go_wp2_with fail
    refine (of_d HN.out).mono ?_
    rintro e w1 ⟨A1, k1, c1, rfl, hd, hb⟩
    have H1 := Lib.hid hd; replace HD := Lib.hid (HD.out.new hb); have H2 := Lib.hid hb; clear hd hb
    clear hcell
    go_wp2_with fail
    refine (rcmp_any A1 k1 c1 N B m d N _ H1.out HD.out).mono ?_
    rintro e w2 ⟨rfl, hb⟩
    rw [cmpN_self]
    have H3 := Lib.hid (bthen H2.out hb H2.out.size); clear hb
    go_wp2_with fail
    go_ret
    exact ⟨rfl, H3.out⟩

theorem two_dn (w : World) : DN (w.alloc (.cells #[.int .i64 2] 3)) (some ⟨w.heap.size, 0, none⟩) 1 1 2 := by
  refine ⟨Nat.le_refl _, [2], ⟨rfl, by simp, .inr (by simp [nth])⟩, ?_⟩
  exact Xs.of_blk (l := ints [2]) (t := 3) (Blk.new w 3 (irow (ints [2]))) (by simp [ints]) (by simp [ints])
theorem half_pow (N c : Nat) : N / 2 ^ c / 2 = N / 2 ^ (c + 1) := by rw [Nat.div_div_eq_div_mul, Nat.pow_succ]
theorem bits_end {N c : Nat} (h1 : N / 2 ^ c = 0) (h2 : c = 0 ∨ 2 ^ (c - 1) ≤ N) : BitsIs N c := by
  have hp : 0 < 2 ^ c := Nat.pow_pos (by omega)
  have h3 : N < 2 ^ c := by
    rcases Nat.lt_or_ge N (2 ^ c) with h | h
    · exact h
    · have := Nat.div_pos h hp; omega
  rcases h2 with h2 | h2
  · left; subst h2; exact ⟨by simpa using h1, rfl⟩
  · rcases Nat.eq_zero_or_pos c with h0 | h0
    · left; subst h0; exact ⟨by simpa using h1, rfl⟩
    · right; exact ⟨h0, h2, h3⟩
theorem bits_cnt {N n c : Nat} (h : N < 10 ^ n) (h2 : c = 0 ∨ 2 ^ (c - 1) ≤ N) : c ≤ 4 * n := by
  rcases h2 with h2 | h2
  · omega
  · have h3 : 10 ^ n ≤ 16 ^ n := Nat.pow_le_pow_left (by omega) n
    have h4 : (16 : Nat) ^ n = 2 ^ (4 * n) := by rw [Nat.pow_mul]
    have h5 : 2 ^ (c - 1) < 2 ^ (4 * n) := by omega
    have := (Nat.pow_lt_pow_iff_right (by omega : 1 < 2)).1 h5
    omega

def RetRBits (w : World) (N : Nat) (e : Ending) (w' : World) : Prop := ∃ b : Nat, e = .returned (.int .i64 b) ∧ BitsIs N b ∧ Below w.heap.size w w'
set_option maxHeartbeats 2000000 in
theorem rbits_any (A : Option Addr) (n c N : Nat) (w : World) (hr : DN w A n c N) (hn : n ≤ 100000) :
    Calls Try.prog 21 #[.slice A n c] w (RetRBits w N) := by
  have hlt := hr.lt
  have HD := Lib.hid hr; clear hr
  have HLT := Lib.hid hlt; clear hlt
  go_enter Try.func21, Try.ntmps21
  go_wp2_with fail
  go_loopg [0, 3] N (fun V av nv wr => ∃ (B : Option Addr) (k c' cnt : Nat), av = .slice B k c' ∧ nv = .int .i64 cnt ∧ cnt ≤ 4 * n ∧ Hid (DN wr B k c' V ∧ V = N / 2 ^ cnt ∧ (cnt = 0 ∨ 2 ^ (cnt - 1) ≤ N) ∧ Below w.heap.size w wr))
  case atStart => exact ⟨A, n, c, 0, rfl, rfl, by omega, Lib.hid ⟨HD.out, by simp, .inl rfl, Below.refl _ _⟩⟩
  case round =>
    obtain ⟨B, k, c', cnt, rfl, rfl, hcnt, HJ⟩ := hrel
    by_cases hk : 0 < k
    · have hV : gk ≠ 0 := fun h => by have := HJ.out.1.zero.2 h; omega
      have hk2 : k ≤ n := HJ.out.1.len (by have h1 := HJ.out.2.1; have h2 := HLT.out; have := Nat.div_le_self N (2 ^ cnt); omega)
      have HV := Lib.hid hV; clear hV
      go_wp2_with fail
      refine (rdm_any B k c' gk (some ⟨wr.heap.size, 0, none⟩) 1 1 2 _ (HJ.out.1.new (al wr _)) (two_dn wr) (by omega) (by omega) (by omega)).mono ?_
      rintro e w1 ⟨A1, k1, c1, A2, k2, c2, rfl, h1, -, hb⟩
      have H1 := Lib.hid h1; clear h1
      have HB := Lib.hid (bthen HJ.out.2.2.2 (bthen (al wr _) hb (al wr _).size) HJ.out.2.2.2.size); clear hb
      have hnew : cnt + 1 = 0 ∨ 2 ^ (cnt + 1 - 1) ≤ N := by
        right
        rw [Nat.add_sub_cancel]
        have h1 := HJ.out.2.1
        have h2 := HV.out
        rcases Nat.lt_or_ge N (2 ^ cnt) with h | h
        · rw [Nat.div_eq_of_lt h] at h1; omega
        · exact h
      have hc4 := bits_cnt HLT.out hnew
      have HNEW := Lib.hid hnew; clear hnew
      go_wp2_with fail
      go_roundg (gk / 2)
      case measure => have := HV.out; omega
      case rel =>
        refine ⟨A1, k1, c1, cnt + 1, rfl, by go_num, hc4, Lib.hid ⟨H1.out, ?_, HNEW.out, HB.out⟩⟩
        rw [HJ.out.2.1, half_pow]
    · obtain rfl : k = 0 := by omega
      go_wp2_with fail
      go_ret
      refine ⟨cnt, rfl, bits_end ?_ HJ.out.2.2.1, HJ.out.2.2.2⟩
      rw [← HJ.out.2.1]; exact HJ.out.1.zero.1 rfl
end Go.Proofs.Ytnpokifmknepoaa
