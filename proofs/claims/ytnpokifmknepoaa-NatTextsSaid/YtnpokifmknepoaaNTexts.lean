/-
  The walk of NatTexts.
-/
import Derived.Test.YtnpokifmknepoaaNTextP
import Derived.Test.YtnpokifmknepoaaNArith
namespace Go.Proofs.Ytnpokifmknepoaa
open Go.RowKit

section
variable (A : Option Addr) (n c : Nat) (s : ByteArray) (w : World)
set_option maxHeartbeats 4000000 in
theorem texts_far (h1 : n ≤ 9223372036854775807) (h2 : s.size ≤ 9223372036854775807) (h : 20 < n ∨ 2000 < s.size) :
    Calls Try.prog 9 #[.slice A n c, .string s] w fun e w' => e = .returned (.bool true) ∧ Below w.heap.size w w' := by
  by_cases h3 : 20 < n
  · clear h
    go_enter Try.func9, Try.ntmps9
    go_wp2_with fail
    refine (awake_any _).mono ?_
    rintro e w1 ⟨rfl, hb⟩
    have HW := Lib.hid hb; clear hb
    go_wp2_with fail
    refine (great_yes _ h1 (by omega) (.inl h3)).mono ?_
    rintro e w2 ⟨rfl, rfl⟩
    go_wp2_with fail
    go_ret
    exact ⟨rfl, HW.out⟩
  · have t1 : decide ((2000 : Int) < (s.size : Int)) = true := by simp; omega
    clear h
    go_enter Try.func9, Try.ntmps9
    go_wp2_with fail
    refine (awake_any _).mono ?_
    rintro e w1 ⟨rfl, hb⟩
    have HW := Lib.hid hb; clear hb
    go_wp2_with fail
    refine (great_no _ (by omega) (by omega)).mono ?_
    rintro e w2 ⟨rfl, rfl⟩
    go_wp2_with fail
    go_ret
    exact ⟨rfl, HW.out⟩

set_option maxHeartbeats 8000000 in
theorem texts_long (N : Nat) (ha : Num w A n c 20 N) (h1 : n ≤ 20) (h2 : s.size ≤ 2000) (hg : 1200 < s.size) :
    Calls Try.prog 9 #[.slice A n c, .string s] w fun e w' => e = .returned (.bool true) ∧ Below w.heap.size w w' := by
  have hN := ha.2.2.2.1
  have HN := Lib.hid hN; clear hN
  have HA := Lib.hid ha; clear ha
  have t1 : decide ((2000 : Int) < (s.size : Int)) = false := by simp; omega
  have HL := Lib.hid (bytes_length s)
  have t2 : decide ((1200 : Int) < (s.size : Int)) = true := by simp; omega
  have HG := Lib.hid hg; clear hg
  go_enter Try.func9, Try.ntmps9
  go_wp2_with fail
  refine (awake_any _).mono ?_
  rintro e w1 ⟨rfl, hb⟩
  replace HA := Lib.hid (HA.out.new hb)
  have HW := Lib.hid hb; clear hb
  go_wp2_with fail
  refine (great_no _ h1 (by omega)).mono ?_
  rintro e w2 ⟨rfl, rfl⟩
  go_wp2_with fail
  refine (text_n HA.out).mono ?_
  rintro e w11 ⟨D, hD, rfl, hb⟩
  replace HA := Lib.hid (HA.out.new hb)
  replace HW := Lib.hid (bthen HW.out hb HW.out.size)
  clear hb
  have hDl := hD.small_lt (Nat.lt_of_lt_of_le HN.out PB20)
  have hts := text_size hDl (by omega)
  obtain ⟨hgd, hdv⟩ := text_good hD
  have HD := Lib.hid hD; have HGD := Lib.hid hgd; have HDV := Lib.hid hdv; clear hD hgd hdv
  generalize hT : textOf D = T at *
  have HT := Lib.hid hT; clear hT
  go_wp2_with fail
  refine (parse_any T _ (by omega)).mono ?_
  rintro e w12 ⟨-, -, hp⟩
  obtain ⟨A12, k12, c12, rfl, h12, j12, hb⟩ := hp (by rw [bytes_length]; omega) HGD.out
  clear hp
  rw [HDV.out] at h12 j12
  replace HA := Lib.hid (HA.out.new hb)
  replace HW := Lib.hid (bthen HW.out hb HW.out.size)
  clear hb
  have HP := Lib.hid h12; have JP := Lib.hid j12; clear h12 j12
  go_wp2_with fail
  refine (of_d HA.out).mono ?_
  rintro e w13 ⟨A13, k13, c13, rfl, h13, hb⟩
  replace HA := Lib.hid (HA.out.new hb)
  replace HP := Lib.hid (HP.out.new hb)
  replace JP := Lib.hid (JP.out.new hb)
  replace HW := Lib.hid (bthen HW.out hb HW.out.size)
  have HX := Lib.hid h13; clear h13
  clear hb
  have hkx := dn_200 HX.out HN.out
  go_wp2_with fail
  refine (rtext_any _ _ _ N _ HX.out (by omega)).mono ?_
  rintro e w14 ⟨D2, hD2, rfl, hb⟩
  replace HA := Lib.hid (HA.out.new hb)
  replace HP := Lib.hid (HP.out.new hb)
  replace JP := Lib.hid (JP.out.new hb)
  replace HX := Lib.hid (HX.out.new hb)
  replace HW := Lib.hid (bthen HW.out hb HW.out.size)
  clear hb
  obtain rfl : D = D2 := HD.out.unique hD2 (by omega)
  clear hD2
  rw [HT.out]
  have tT : (T.toList == T.toList) = true := by simp
  clear HX
  clear hkx
  go_wp2_with fail
  refine (of_d HA.out).mono ?_
  rintro e w15 ⟨A15, k15, c15, rfl, h15, hb⟩
  replace HA := Lib.hid (HA.out.new hb)
  replace HP := Lib.hid (HP.out.new hb)
  replace JP := Lib.hid (JP.out.new hb)
  replace HW := Lib.hid (bthen HW.out hb HW.out.size)
  have HX := Lib.hid h15; clear h15
  clear hb
  go_wp2_with fail
  refine (is_d HP.out JP.out HX.out).mono ?_
  rintro e w16 ⟨rfl, hb⟩
  replace HA := Lib.hid (HA.out.new hb)
  replace HP := Lib.hid (HP.out.new hb)
  replace JP := Lib.hid (JP.out.new hb)
  replace HX := Lib.hid (HX.out.new hb)
  replace HW := Lib.hid (bthen HW.out hb HW.out.size)
  clear hb
  clear HP JP HX HA
  clear tT
  go_wp2_with fail
  refine (parse_any s _ (by omega)).mono ?_
  rintro e w17 ⟨hp1, hp2, hp3⟩
  obtain ⟨rfl, hb⟩ := hp1 (by rw [HL.out]; exact HG.out)
  clear hp1 hp2 hp3
  replace HW := Lib.hid (bthen HW.out hb HW.out.size)
  clear hb
  go_wp2_with fail
  go_ret
  exact ⟨rfl, HW.out⟩

set_option maxHeartbeats 8000000 in
theorem texts_bad (N : Nat) (ha : Num w A n c 20 N) (h1 : n ≤ 20) (h2 : s.size ≤ 2000) (hl : s.size ≤ 1200) (hg : ¬ PGood (bytesOf s)) :
    Calls Try.prog 9 #[.slice A n c, .string s] w fun e w' => e = .returned (.bool true) ∧ Below w.heap.size w w' := by
  have hN := ha.2.2.2.1
  have HN := Lib.hid hN; clear hN
  have HA := Lib.hid ha; clear ha
  have t1 : decide ((2000 : Int) < (s.size : Int)) = false := by simp; omega
  have HL := Lib.hid (bytes_length s)
  have t2 : decide ((1200 : Int) < (s.size : Int)) = false := by simp; omega
  have HG := Lib.hid hg; clear hg
  go_enter Try.func9, Try.ntmps9
  go_wp2_with fail
  refine (awake_any _).mono ?_
  rintro e w1 ⟨rfl, hb⟩
  replace HA := Lib.hid (HA.out.new hb)
  have HW := Lib.hid hb; clear hb
  go_wp2_with fail
  refine (great_no _ h1 (by omega)).mono ?_
  rintro e w2 ⟨rfl, rfl⟩
  go_wp2_with fail
  refine (text_n HA.out).mono ?_
  rintro e w11 ⟨D, hD, rfl, hb⟩
  replace HA := Lib.hid (HA.out.new hb)
  replace HW := Lib.hid (bthen HW.out hb HW.out.size)
  clear hb
  have hDl := hD.small_lt (Nat.lt_of_lt_of_le HN.out PB20)
  have hts := text_size hDl (by omega)
  obtain ⟨hgd, hdv⟩ := text_good hD
  have HD := Lib.hid hD; have HGD := Lib.hid hgd; have HDV := Lib.hid hdv; clear hD hgd hdv
  generalize hT : textOf D = T at *
  have HT := Lib.hid hT; clear hT
  go_wp2_with fail
  refine (parse_any T _ (by omega)).mono ?_
  rintro e w12 ⟨-, -, hp⟩
  obtain ⟨A12, k12, c12, rfl, h12, j12, hb⟩ := hp (by rw [bytes_length]; omega) HGD.out
  clear hp
  rw [HDV.out] at h12 j12
  replace HA := Lib.hid (HA.out.new hb)
  replace HW := Lib.hid (bthen HW.out hb HW.out.size)
  clear hb
  have HP := Lib.hid h12; have JP := Lib.hid j12; clear h12 j12
  go_wp2_with fail
  refine (of_d HA.out).mono ?_
  rintro e w13 ⟨A13, k13, c13, rfl, h13, hb⟩
  replace HA := Lib.hid (HA.out.new hb)
  replace HP := Lib.hid (HP.out.new hb)
  replace JP := Lib.hid (JP.out.new hb)
  replace HW := Lib.hid (bthen HW.out hb HW.out.size)
  have HX := Lib.hid h13; clear h13
  clear hb
  have hkx := dn_200 HX.out HN.out
  go_wp2_with fail
  refine (rtext_any _ _ _ N _ HX.out (by omega)).mono ?_
  rintro e w14 ⟨D2, hD2, rfl, hb⟩
  replace HA := Lib.hid (HA.out.new hb)
  replace HP := Lib.hid (HP.out.new hb)
  replace JP := Lib.hid (JP.out.new hb)
  replace HX := Lib.hid (HX.out.new hb)
  replace HW := Lib.hid (bthen HW.out hb HW.out.size)
  clear hb
  obtain rfl : D = D2 := HD.out.unique hD2 (by omega)
  clear hD2
  rw [HT.out]
  have tT : (T.toList == T.toList) = true := by simp
  clear HX
  clear hkx
  go_wp2_with fail
  refine (of_d HA.out).mono ?_
  rintro e w15 ⟨A15, k15, c15, rfl, h15, hb⟩
  replace HA := Lib.hid (HA.out.new hb)
  replace HP := Lib.hid (HP.out.new hb)
  replace JP := Lib.hid (JP.out.new hb)
  replace HW := Lib.hid (bthen HW.out hb HW.out.size)
  have HX := Lib.hid h15; clear h15
  clear hb
  go_wp2_with fail
  refine (is_d HP.out JP.out HX.out).mono ?_
  rintro e w16 ⟨rfl, hb⟩
  replace HA := Lib.hid (HA.out.new hb)
  replace HP := Lib.hid (HP.out.new hb)
  replace JP := Lib.hid (JP.out.new hb)
  replace HX := Lib.hid (HX.out.new hb)
  replace HW := Lib.hid (bthen HW.out hb HW.out.size)
  clear hb
  clear HP JP HX HA
  clear tT
  go_wp2_with fail
  refine (parse_any s _ (by omega)).mono ?_
  rintro e w17 ⟨hp1, hp2, hp3⟩
  obtain ⟨rfl, hb⟩ := hp2 (by rw [HL.out]; omega) HG.out
  clear hp1 hp2 hp3
  replace HW := Lib.hid (bthen HW.out hb HW.out.size)
  clear hb
  go_wp2_with fail
  refine (rparse_any s _ (by omega)).mono ?_
  rintro e w18 ⟨hp1, hp2⟩
  obtain ⟨rfl, hb⟩ := hp1 HG.out
  clear hp1 hp2
  replace HW := Lib.hid (bthen HW.out hb HW.out.size)
  clear hb
  go_wp2_with fail
  go_ret
  exact ⟨rfl, HW.out⟩

set_option maxHeartbeats 8000000 in
theorem texts_good (N : Nat) (ha : Num w A n c 20 N) (h1 : n ≤ 20) (h2 : s.size ≤ 2000) (hl : s.size ≤ 1200) (hg : PGood (bytesOf s)) :
    Calls Try.prog 9 #[.slice A n c, .string s] w fun e w' => e = .returned (.bool true) ∧ Below w.heap.size w w' := by
  have hN := ha.2.2.2.1
  have HN := Lib.hid hN; clear hN
  have HA := Lib.hid ha; clear ha
  have t1 : decide ((2000 : Int) < (s.size : Int)) = false := by simp; omega
  have HL := Lib.hid (bytes_length s)
  have t2 : decide ((1200 : Int) < (s.size : Int)) = false := by simp; omega
  have HG := Lib.hid hg; clear hg
  go_enter Try.func9, Try.ntmps9
  go_wp2_with fail
  refine (awake_any _).mono ?_
  rintro e w1 ⟨rfl, hb⟩
  replace HA := Lib.hid (HA.out.new hb)
  have HW := Lib.hid hb; clear hb
  go_wp2_with fail
  refine (great_no _ h1 (by omega)).mono ?_
  rintro e w2 ⟨rfl, rfl⟩
  go_wp2_with fail
  refine (text_n HA.out).mono ?_
  rintro e w11 ⟨D, hD, rfl, hb⟩
  replace HA := Lib.hid (HA.out.new hb)
  replace HW := Lib.hid (bthen HW.out hb HW.out.size)
  clear hb
  have hDl := hD.small_lt (Nat.lt_of_lt_of_le HN.out PB20)
  have hts := text_size hDl (by omega)
  obtain ⟨hgd, hdv⟩ := text_good hD
  have HD := Lib.hid hD; have HGD := Lib.hid hgd; have HDV := Lib.hid hdv; clear hD hgd hdv
  generalize hT : textOf D = T at *
  have HT := Lib.hid hT; clear hT
  go_wp2_with fail
  refine (parse_any T _ (by omega)).mono ?_
  rintro e w12 ⟨-, -, hp⟩
  obtain ⟨A12, k12, c12, rfl, h12, j12, hb⟩ := hp (by rw [bytes_length]; omega) HGD.out
  clear hp
  rw [HDV.out] at h12 j12
  replace HA := Lib.hid (HA.out.new hb)
  replace HW := Lib.hid (bthen HW.out hb HW.out.size)
  clear hb
  have HP := Lib.hid h12; have JP := Lib.hid j12; clear h12 j12
  go_wp2_with fail
  refine (of_d HA.out).mono ?_
  rintro e w13 ⟨A13, k13, c13, rfl, h13, hb⟩
  replace HA := Lib.hid (HA.out.new hb)
  replace HP := Lib.hid (HP.out.new hb)
  replace JP := Lib.hid (JP.out.new hb)
  replace HW := Lib.hid (bthen HW.out hb HW.out.size)
  have HX := Lib.hid h13; clear h13
  clear hb
  have hkx := dn_200 HX.out HN.out
  go_wp2_with fail
  refine (rtext_any _ _ _ N _ HX.out (by omega)).mono ?_
  rintro e w14 ⟨D2, hD2, rfl, hb⟩
  replace HA := Lib.hid (HA.out.new hb)
  replace HP := Lib.hid (HP.out.new hb)
  replace JP := Lib.hid (JP.out.new hb)
  replace HX := Lib.hid (HX.out.new hb)
  replace HW := Lib.hid (bthen HW.out hb HW.out.size)
  clear hb
  obtain rfl : D = D2 := HD.out.unique hD2 (by omega)
  clear hD2
  rw [HT.out]
  have tT : (T.toList == T.toList) = true := by simp
  clear HX
  clear hkx
  go_wp2_with fail
  refine (of_d HA.out).mono ?_
  rintro e w15 ⟨A15, k15, c15, rfl, h15, hb⟩
  replace HA := Lib.hid (HA.out.new hb)
  replace HP := Lib.hid (HP.out.new hb)
  replace JP := Lib.hid (JP.out.new hb)
  replace HW := Lib.hid (bthen HW.out hb HW.out.size)
  have HX := Lib.hid h15; clear h15
  clear hb
  go_wp2_with fail
  refine (is_d HP.out JP.out HX.out).mono ?_
  rintro e w16 ⟨rfl, hb⟩
  replace HA := Lib.hid (HA.out.new hb)
  replace HP := Lib.hid (HP.out.new hb)
  replace JP := Lib.hid (JP.out.new hb)
  replace HX := Lib.hid (HX.out.new hb)
  replace HW := Lib.hid (bthen HW.out hb HW.out.size)
  clear hb
  clear HP JP HX HA
  clear tT
  go_wp2_with fail
  refine (parse_any s _ (by omega)).mono ?_
  rintro e w17 ⟨hp1, hp2, hp3⟩
  obtain ⟨A17, k17, c17, rfl, h17, j17, hb⟩ := hp3 (by rw [HL.out]; omega) HG.out
  clear hp1 hp2 hp3
  replace HW := Lib.hid (bthen HW.out hb HW.out.size)
  clear hb
  have HP := Lib.hid h17; have JP := Lib.hid j17; clear h17 j17
  go_wp2_with fail
  refine (rparse_any s _ (by omega)).mono ?_
  rintro e w18 ⟨hp1, hp2⟩
  obtain ⟨A18, k18, c18, rfl, h18, hb⟩ := hp2 HG.out
  clear hp1 hp2
  replace HP := Lib.hid (HP.out.new hb)
  replace JP := Lib.hid (JP.out.new hb)
  replace HW := Lib.hid (bthen HW.out hb HW.out.size)
  clear hb
  have HQ := Lib.hid h18; clear h18
  go_wp2_with fail
  refine (is_d HP.out JP.out HQ.out).mono ?_
  rintro e w19 ⟨rfl, hb⟩
  replace HP := Lib.hid (HP.out.new hb)
  replace JP := Lib.hid (JP.out.new hb)
  replace HQ := Lib.hid (HQ.out.new hb)
  replace HW := Lib.hid (bthen HW.out hb HW.out.size)
  clear hb
  go_wp2_with fail
  refine (text_n HP.out).mono ?_
  rintro e w20 ⟨D3, hD3, rfl, hb⟩
  replace HP := Lib.hid (HP.out.new hb)
  replace JP := Lib.hid (JP.out.new hb)
  replace HQ := Lib.hid (HQ.out.new hb)
  replace HW := Lib.hid (bthen HW.out hb HW.out.size)
  clear hb
  rw [good_string HG.out hD3]
  clear hD3
  have tS : (s.toList == s.toList) = true := by simp
  go_wp2_with fail
  go_ret
  exact ⟨rfl, HW.out⟩
end
theorem natTexts_walk (A : Option Addr) (ds : List Nat) (n c : Nat) (s : ByteArray) (w : World) (hr : Es w w.heap.size A n ds) (hc : n ≤ c) (hs : s.size ≤ maxLen) :
    Calls Try.prog 9 #[.slice A n c, .string s] w fun e w' => e = .returned (.bool true) ∧ Below w.heap.size w w' := by
  have hs2 : s.size ≤ 9223372036854775807 := by have := hs; unfold maxLen at this; omega
  by_cases h : 20 < n ∨ 2000 < s.size
  · exact texts_far A n c s w hr.le hs2 h
  · have ha := Num.of_es (b := 20) hr hc (by omega) (by omega) (by omega)
    by_cases hl : 1200 < s.size
    · exact texts_long A n c s w _ ha (by omega) (by omega) hl
    · by_cases hg : PGood (bytesOf s)
      · exact texts_good A n c s w _ ha (by omega) (by omega) (by omega) hg
      · exact texts_bad A n c s w _ ha (by omega) (by omega) (by omega) hg
end Go.Proofs.Ytnpokifmknepoaa
