/-
  The reference of layer 5: number, digits, value, Text.
-/
import Derived.Test.YtifnbpkcnkfanaaQCnt
import Derived.Test.YtifnbpkcnkfanaaQParse
namespace Go.Proofs.Ytifnbpkcnkfanaa
open Go.RowKit
set_option linter.unusedSimpArgs false

def txd (L : List Nat) : ByteArray := ⟨(L.reverse.map fun d => UInt8.ofNat (d + 48)).toArray⟩
theorem txd_front (x : Nat) (L : List Nat) : strOfNums [((48 + x : Nat) : Int)] ++ txd L = txd (L ++ [x]) := by
  have h : strOfNums [((48 + x : Nat) : Int)] = ⟨#[UInt8.ofNat (x + 48)]⟩ := by
    rw [Nat.add_comm]; rfl
  rw [h]
  apply ByteArray.ext
  simp [txd, ByteArray.data_append]
theorem txd_one (x : Nat) : strOfNums [((48 + x : Nat) : Int)] = txd [x] := by
  rw [Nat.add_comm]; rfl
theorem txd_size (L : List Nat) : (txd L).size = L.length := by
  simp [txd, ByteArray.size]
theorem dg_pos {n : Nat} (h : n ≠ 0) : dg n = n % 10 :: dg (n / 10) := by rw [dg, dif_neg h]
/-- All the digits, one at least. -/
def dgs (n : Nat) : List Nat := if n = 0 then [0] else dg n
theorem dec_dgs (n : Nat) : decT n = txd (dgs n) := by
  unfold decT dgs
  by_cases h : n = 0
  · subst h
    rw [if_pos rfl, show dg 0 = [] by rw [dg]; rfl]
    simp [textOf, txd]
  · rw [if_neg h, textOf, if_neg (by rw [dg_pos h]; simp)]; rfl
theorem dgs_split (n : Nat) : dgs n = [n % 10] ++ dg (n / 10) := by
  unfold dgs
  by_cases h : n = 0
  · subst h
    rw [if_pos rfl, show dg (0 / 10) = [] by rw [dg]; rfl]
    rfl
  · rw [if_neg h, dg_pos h]; rfl
theorem dgs_len {n : Nat} (h : n ≤ 9223372036854775807) : (dgs n).length ≤ 19 := by
  unfold dgs
  by_cases h0 : n = 0
  · rw [if_pos h0]; simp
  · rw [if_neg h0]; exact (dg_nrm n).small_lt (by omega)

set_option maxHeartbeats 4000000 in
theorem rnumber_any (n : Nat) (hn : n ≤ 9223372036854775807) (w : World) : Calls Try.prog 60 #[.int .i64 n] w fun e w' => e = .returned (.string (decT n)) ∧ Below w.heap.size w w' := by
  have hd := dec_dgs n
  have hl := dgs_len hn
  have hs := dgs_split n
  obtain ⟨D, hD⟩ : ∃ D, D = dgs n := ⟨_, rfl⟩
  rw [← hD] at hd hl hs
  obtain ⟨q, hq⟩ : ∃ q, q = n / 10 := ⟨_, rfl⟩
  obtain ⟨x, hx⟩ : ∃ x, x = n % 10 := ⟨_, rfl⟩
  rw [← hq, ← hx] at hs
  have e1 : (n : Int) / 10 = (q : Int) := by omega
  have e2 : (n : Int) % 10 = (x : Int) := by omega
  obtain ⟨y, hy⟩ : ∃ y, y = 48 + x := ⟨_, rfl⟩
  have e3 : (48 : Int) + (x : Int) = (y : Int) := by omega
  have hy2 : y ≤ 57 := by omega
  have hq2 : q ≤ 9223372036854775807 := by omega
  have hone := txd_one x
  rw [← hy] at hone
  have HD := Lib.hid hd; have HLN := Lib.hid hl; have HS := Lib.hid hs; have HONE := Lib.hid hone
  clear hd hl hs hone hD hq hx hy
  have hcv := run_convert_bytes_arg (P := Try.prog) (w.alloc (.cells #[.int .u8 (y : Int)] 5)) 99 5 Try.underlying99 Try.underlying5 w.heap.size 0 1 1 [(y : Int)] rfl (fun i hi => by
    obtain rfl : i = 0 := by omega
    rw [Nat.zero_add, (Blk.new w 5 #[.int .u8 (y : Int)]).cell]; rfl) 9 Try.underlying9
  generalize strOfNums [(y : Int)] = S at *
  go_enter Try.func60, Try.ntmps60
  go_wp2_with fail
  rw [HONE.out]
  clear hcv
  go_loopw [0, 3] (fun mv sv wr => ∃ (m : Nat) (L : List Nat), mv = .int .i64 m ∧ m ≤ 9223372036854775807 ∧ sv = .string (txd L) ∧ Hid (D = L ++ dg m ∧ Below w.heap.size w wr)) (fun mv _ _ => (intOf mv).toNat)
  case atStart => exact ⟨q, [x], rfl, hq2, rfl, Lib.hid ⟨HS.out, al w _⟩⟩
  case round =>
    obtain ⟨m, L, rfl, hm, rfl, HJ⟩ := hrel
    by_cases h0 : m = 0
    · have h1 := HJ.out.1
      rw [h0, show dg 0 = [] by rw [dg]; rfl, List.append_nil] at h1
      have HE := Lib.hid h1; clear h1
      have t0 : decide ((0 : Int) < (m : Int)) = false := by simp; omega
      have h0' : ¬ 0 < m := by omega
      clear h0
      go_wp2_with fail
      go_ret
      exact ⟨by rw [HD.out, HE.out]; rfl, HJ.out.2⟩
    · have h1 := HJ.out.1
      rw [dg_pos h0, show L ++ m % 10 :: dg (m / 10) = (L ++ [m % 10]) ++ dg (m / 10) by simp] at h1
      have hsz : (txd L).size ≤ 19 := by
        rw [txd_size]; have := HLN.out; rw [h1] at this; simp at this; omega
      obtain ⟨q1, hq⟩ : ∃ q, q = m / 10 := ⟨_, rfl⟩
      obtain ⟨x1, hx⟩ : ∃ x, x = m % 10 := ⟨_, rfl⟩
      rw [← hq, ← hx] at h1
      have e1 : (m : Int) / 10 = (q1 : Int) := by omega
      have e2 : (m : Int) % 10 = (x1 : Int) := by omega
      obtain ⟨y1, hy⟩ : ∃ y, y = 48 + x1 := ⟨_, rfl⟩
      have e3 : (48 : Int) + (x1 : Int) = (y1 : Int) := by omega
      have hy2 : y1 ≤ 57 := by omega
      have hq2 : q1 ≤ 9223372036854775807 := by omega
      have hlt : q1 < m := by omega
      have htp := txd_front x1 L
      rw [← hy] at htp
      have t0 : decide ((0 : Int) < (m : Int)) = true := by simp; omega
      have h0' : 0 < m := by omega
      have hcv := run_convert_bytes_arg (P := Try.prog) (wr.alloc (.cells #[.int .u8 (y1 : Int)] 5)) 99 5 Try.underlying99 Try.underlying5 wr.heap.size 0 1 1 [(y1 : Int)] rfl (fun i hi => by
        obtain rfl : i = 0 := by omega
        rw [Nat.zero_add, (Blk.new wr 5 #[.int .u8 (y1 : Int)]).cell]; rfl) 9 Try.underlying9
      have hs1 : (strOfNums [(y1 : Int)]).size = 1 := by simp [strOfNums, ByteArray.size]
      have H1 := Lib.hid h1; have HTP := Lib.hid htp
      clear h1 htp hq hx hy h0
      generalize strOfNums [(y1 : Int)] = S1 at *
      obtain ⟨T, hT⟩ : ∃ T, T = txd L := ⟨_, rfl⟩
      rw [← hT] at HTP hsz ⊢
      clear hT
      go_wp2_with fail
      rw [HTP.out]
      refine ⟨⟨q1, L ++ [x1], by go_num, hq2, rfl, Lib.hid ⟨H1.out, HJ.out.2.alloc HJ.out.2.size _⟩⟩, by simp [intOf]; omega⟩

/-- A decimal number without leading zeros. -/
def pgB (l : List Nat) : Bool := !l.isEmpty && (l.all (fun b => decide (48 ≤ b) && decide (b ≤ 57)) && (nth l 0 != 48 || l.length == 1))
theorem pgB_iff (l : List Nat) : pgB l = true ↔ PGood l := by
  unfold pgB PGood
  simp only [Bool.and_eq_true, Bool.not_eq_true', List.isEmpty_eq_false_iff, List.all_eq_true, decide_eq_true_eq, Bool.or_eq_true, bne_iff_ne, beq_iff_eq, ne_eq]
  refine and_congr Iff.rfl (and_congr ?_ ?_)
  · constructor
    · intro h j hj; exact h _ (nth_mem hj)
    · intro h b hb
      obtain ⟨k, hk, rfl⟩ := List.getElem_of_mem hb
      have := h k hk
      rwa [nth_eq hk] at this
  · constructor
    · rintro (h | h) h2
      · exact absurd h2 h
      · exact h
    · intro h
      by_cases h2 : nth l 0 = 48
      · exact .inr (h h2)
      · exact .inl h2
theorem pgB_no {l : List Nat} (h : ¬ PGood l) : pgB l = false := by
  cases h2 : pgB l with
  | false => rfl
  | true => exact absurd ((pgB_iff l).1 h2) h

set_option maxHeartbeats 4000000 in
theorem rdigits_any (s : ByteArray) (hs : s.size ≤ 100000) (w : World) : Calls Try.prog 56 #[.string s] w fun e w' => e = .returned (.bool (pgB (bytesOf s))) ∧ w = w' := by
  have hl := bytes_length s
  by_cases h0 : s.size = 0
  · have hn : bytesOf s = [] := List.eq_nil_of_length_eq_zero (by omega)
    have t2 : (s.toList == []) = true := by rw [bytes_nil.1 hn]; rfl
    have HN := Lib.hid (show pgB (bytesOf s) = false by rw [hn]; rfl); clear hn hl
    go_enter Try.func56, Try.ntmps56
    go_wp2_with fail
    go_ret
    exact ⟨by rw [HN.out]; rfl, rfl⟩
  · have t2 : (s.toList == []) = false := by
      have : s.toList ≠ [] := fun h => by rw [bytesOf, h] at hl; simp at hl; omega
      simpa using this
    have h00 : 0 < s.size := Nat.pos_of_ne_zero h0
    have hg0 := bytes_get s 0 h00
    by_cases hf : nth (bytesOf s) 0 = 48 → s.size = 1
    · have hcase : ¬ 1 < s.size ∨ (1 < s.size ∧ ((nth (bytesOf s) 0 : Int) == 48) = false) := by
        by_cases h : 1 < s.size
        · right
          refine ⟨h, ?_⟩
          have : nth (bytesOf s) 0 ≠ 48 := fun h2 => by have := hf h2; omega
          simp; omega
        · left; exact h
      have HF := Lib.hid hf; clear hf
      have HL := Lib.hid hl; clear hl
      rcases hcase with t3 | ⟨t3, t4⟩
      all_goals
        go_enter Try.func56, Try.ntmps56
        go_wp2_with fail
        go_loop [3] (fun iv => ∃ k : Nat, k ≤ s.size ∧ iv = .int .i64 k ∧ Hid (∀ j, j < k → 48 ≤ nth (bytesOf s) j ∧ nth (bytesOf s) j ≤ 57)) (fun iv => s.size - (intOf iv).toNat)
        case atStart => exact ⟨0, Nat.zero_le _, rfl, Lib.hid (fun j hj => by omega)⟩
        case round =>
          obtain ⟨k, hk, rfl, HJ⟩ := hrel
          by_cases hlt : k < s.size
          · have hgi := bytes_get s k hlt
            have hbl := bytes_lt s _ (nth_mem (show k < (bytesOf s).length by rw [HL.out]; exact hlt))
            obtain ⟨b, hb⟩ : ∃ b, b = nth (bytesOf s) k := ⟨_, rfl⟩
            rw [← hb] at hgi hbl
            have HBB := Lib.hid hb; clear hb
            by_cases hb1 : b < 48
            · have HNO := Lib.hid (pgB_no (l := bytesOf s) (fun hg => by have := hg.2.1 k (by rw [HL.out]; exact hlt); rw [← HBB.out] at this; omega))
              go_wp2_with fail
              go_ret
              exact ⟨by rw [HNO.out]; rfl, rfl⟩
            · by_cases hb2 : 57 < b
              · have HNO := Lib.hid (pgB_no (l := bytesOf s) (fun hg => by have := hg.2.1 k (by rw [HL.out]; exact hlt); rw [← HBB.out] at this; omega))
                go_wp2_with fail
                go_ret
                exact ⟨by rw [HNO.out]; rfl, rfl⟩
              · have HG := Lib.hid (show ∀ j, j < k + 1 → 48 ≤ nth (bytesOf s) j ∧ nth (bytesOf s) j ≤ 57 from fun j hj => by
                  by_cases h : j = k
                  · subst h; rw [← HBB.out]; omega
                  · exact HJ.out j (by omega))
                go_wp2_with fail
                refine ⟨⟨k + 1, by omega, by go_num, HG⟩, by simp [intOf]; omega⟩
          · obtain rfl : k = s.size := by omega
            have HY := Lib.hid ((pgB_iff (bytesOf s)).2 ⟨fun h => by have := HL.out; rw [h] at this; simp at this; omega, by rw [HL.out]; exact HJ.out, by rw [HL.out]; exact HF.out⟩)
            go_wp2_with fail
            go_ret
            exact ⟨by rw [HY.out]; rfl, rfl⟩
    · have hf1 : nth (bytesOf s) 0 = 48 := Classical.byContradiction fun h => hf fun h' => absurd h' h
      have t3 : ((nth (bytesOf s) 0 : Int) == 48) = true := by simp [hf1]
      have t4 : 1 < s.size := by
        rcases Nat.lt_or_ge 1 s.size with h | h
        · exact h
        · exact absurd (fun _ => by omega) hf
      have HNO := Lib.hid (pgB_no (l := bytesOf s) (fun hg => by have := hg.2.2 hf1; omega))
      clear hf hf1 hl
      go_enter Try.func56, Try.ntmps56
      go_wp2_with fail
      go_ret
      exact ⟨by rw [HNO.out]; rfl, rfl⟩

set_option maxHeartbeats 4000000 in
theorem rvalue_any (s : ByteArray) (hs : s.size ≤ 17) (hg : ∀ j, j < s.size → 48 ≤ nth (bytesOf s) j ∧ nth (bytesOf s) j ≤ 57) (w : World) : Calls Try.prog 57 #[.string s] w fun e w' => e = .returned (.int .i64 (dv (bytesOf s) s.size)) ∧ w = w' := by
  have HL := Lib.hid (bytes_length s)
  have HG := Lib.hid hg; clear hg
  go_enter Try.func57, Try.ntmps57
  go_wp2_with fail
  go_loop [3, 4] (fun vv iv => ∃ k V : Nat, k ≤ s.size ∧ iv = .int .i64 k ∧ vv = .int .i64 V ∧ Hid (V = dv (bytesOf s) k)) (fun _ iv => s.size - (intOf iv).toNat)
  case atStart => exact ⟨0, 0, Nat.zero_le _, rfl, rfl, Lib.hid rfl⟩
  case round =>
    obtain ⟨k, V, hk, rfl, rfl, HJ⟩ := hrel
    by_cases hlt : k < s.size
    · have hgi := bytes_get s k hlt
      have hr := HG.out k hlt
      have hV : V < 10 ^ 16 := by
        rw [HJ.out]
        exact Nat.lt_of_lt_of_le (dv_lt k (fun j hj => (HG.out j (by omega)).2)) (Nat.pow_le_pow_right (by omega) (by omega))
      have hV2 : V < 10000000000000000 := hV
      obtain ⟨b, hb⟩ : ∃ b, b = nth (bytesOf s) k := ⟨_, rfl⟩
      rw [← hb] at hgi hr
      obtain ⟨dgt, hdg⟩ : ∃ d, d = b - 48 := ⟨_, rfl⟩
      have ed : (b : Int) - 48 = (dgt : Int) := by omega
      have hd9 : dgt ≤ 9 := by omega
      have HN := Lib.hid (show V * 10 + dgt = dv (bytesOf s) (k + 1) by rw [dv, ← hb, ← HJ.out, hdg])
      clear hV hb hdg
      go_wp2_with fail
      refine ⟨⟨k + 1, V * 10 + dgt, by omega, by go_num, by go_num, HN⟩, by simp [intOf]; omega⟩
    · obtain rfl : k = s.size := by omega
      go_wp2_with fail
      go_ret
      exact ⟨by rw [HJ.out]; rfl, rfl⟩

set_option maxHeartbeats 4000000 in
theorem rtextq_any {x : Rat} (h1 : x.num.natAbs ≤ 9223372036854775807) (h2 : x.den ≤ 9223372036854775807) (w : World) : Calls Try.prog 36 #[QL x] w fun e w' => e = .returned (.string (txt x)) ∧ Below w.heap.size w w' := by
  have hz1 : (decT x.num.natAbs).size ≤ 19 := by rw [dec_dgs, txd_size]; exact dgs_len h1
  have hz2 : (decT x.den).size ≤ 19 := by rw [dec_dgs, txd_size]; exact dgs_len h2
  have HA := Lib.hid (fun W => rabs_any x.num (by omega) (by omega) W)
  have HB := Lib.hid (fun W => rnumber_any x.num.natAbs h1 W)
  have HC := Lib.hid (fun W => rnumber_any x.den h2 W)
  have hx : txt x = sgT (decide (x.num < 0)) ++ (if x.den = 1 then decT x.num.natAbs else strs2 (decT x.num.natAbs) (decT x.den)) := rfl
  have hsl : strs2 (decT x.num.natAbs) (decT x.den) = decT x.num.natAbs ++ ⟨#[47]⟩ ++ decT x.den := by
    apply ByteArray.ext; simp [strs2, ByteArray.data_append]
  have hcs : x.den = 1 ∨ x.den ≠ 1 := by omega
  unfold QL
  generalize txt x = X at *
  generalize x.num.natAbs = N at *
  generalize x.den = M at *
  generalize x.num = z at *
  rw [hsl] at hx
  generalize decT N = T1 at *
  generalize decT M = T2 at *
  have HX := Lib.hid hx; clear hx hsl h1 h2
  by_cases hz : z < 0
  · have HX2 := Lib.hid (show X = ⟨#[45]⟩ ++ (if M = 1 then T1 else T1 ++ ⟨#[47]⟩ ++ T2) by rw [HX.out, decide_eq_true hz]; rfl)
    have tz := decide_eq_true hz
    clear hz HX
    rcases hcs with hm | hm
    · have tm : ((M : Int) != 1) = false := by simp [hm]
      have HX3 := Lib.hid (show X = ⟨#[45]⟩ ++ T1 by rw [HX2.out, if_pos hm])
      clear hm HX2
      go_enter Try.func36, Try.ntmps36
      go_wp2_with fail
      refine (HA.out _).mono ?_
      rintro e w1 ⟨rfl, rfl⟩
      go_wp2_with fail
      refine (HB.out _).mono ?_
      rintro e w2 ⟨rfl, hb⟩
      have hT := (GB.made w 35 (.int .i64 z) (.int .i64 M)).new hb
      have c0 := hT.c0; have c1 := hT.c1
      have HW := Lib.hid (bthen (al w _) hb (al w _).size); clear hb hT
      go_wp2_with fail
      go_ret
      exact ⟨by rw [HX3.out]; rfl, HW.out⟩
    · have tm : ((M : Int) != 1) = true := by simp; omega
      have HX3 := Lib.hid (show X = ⟨#[45]⟩ ++ T1 ++ ⟨#[47]⟩ ++ T2 by rw [HX2.out, if_neg hm]; apply ByteArray.ext; simp [ByteArray.data_append])
      clear hm HX2
      go_enter Try.func36, Try.ntmps36
      go_wp2_with fail
      refine (HA.out _).mono ?_
      rintro e w1 ⟨rfl, rfl⟩
      go_wp2_with fail
      refine (HB.out _).mono ?_
      rintro e w2 ⟨rfl, hb⟩
      have hT := (GB.made w 35 (.int .i64 z) (.int .i64 M)).new hb
      have c0 := hT.c0; have c1 := hT.c1
      have HW := Lib.hid (bthen (al w _) hb (al w _).size); clear hb hT
      go_wp2_with fail
      refine (HC.out _).mono ?_
      rintro e w3 ⟨rfl, hb⟩
      replace HW := Lib.hid (bthen HW.out hb HW.out.size); clear hb c0 c1
      go_wp2_with fail
      go_ret
      exact ⟨by rw [HX3.out]; rfl, HW.out⟩
  · have HX2 := Lib.hid (show X = (if M = 1 then T1 else T1 ++ ⟨#[47]⟩ ++ T2) by rw [HX.out, decide_eq_false hz]; apply ByteArray.ext; simp [sgT, ByteArray.data_append])
    have tz := decide_eq_false hz
    clear hz HX
    rcases hcs with hm | hm
    · have tm : ((M : Int) != 1) = false := by simp [hm]
      have HX3 := Lib.hid (show X = ⟨#[]⟩ ++ T1 by rw [HX2.out, if_pos hm]; apply ByteArray.ext; simp [ByteArray.data_append])
      clear hm HX2
      go_enter Try.func36, Try.ntmps36
      go_wp2_with fail
      refine (HA.out _).mono ?_
      rintro e w1 ⟨rfl, rfl⟩
      go_wp2_with fail
      refine (HB.out _).mono ?_
      rintro e w2 ⟨rfl, hb⟩
      have hT := (GB.made w 35 (.int .i64 z) (.int .i64 M)).new hb
      have c0 := hT.c0; have c1 := hT.c1
      have HW := Lib.hid (bthen (al w _) hb (al w _).size); clear hb hT
      go_wp2_with fail
      go_ret
      exact ⟨by rw [HX3.out]; rfl, HW.out⟩
    · have tm : ((M : Int) != 1) = true := by simp; omega
      have HX3 := Lib.hid (show X = ⟨#[]⟩ ++ T1 ++ ⟨#[47]⟩ ++ T2 by rw [HX2.out, if_neg hm]; apply ByteArray.ext; simp [ByteArray.data_append])
      clear hm HX2
      go_enter Try.func36, Try.ntmps36
      go_wp2_with fail
      refine (HA.out _).mono ?_
      rintro e w1 ⟨rfl, rfl⟩
      go_wp2_with fail
      refine (HB.out _).mono ?_
      rintro e w2 ⟨rfl, hb⟩
      have hT := (GB.made w 35 (.int .i64 z) (.int .i64 M)).new hb
      have c0 := hT.c0; have c1 := hT.c1
      have HW := Lib.hid (bthen (al w _) hb (al w _).size); clear hb hT
      go_wp2_with fail
      refine (HC.out _).mono ?_
      rintro e w3 ⟨rfl, hb⟩
      replace HW := Lib.hid (bthen HW.out hb HW.out.size); clear hb c0 c1
      go_wp2_with fail
      go_ret
      exact ⟨by rw [HX3.out]; rfl, HW.out⟩
end Go.Proofs.Ytifnbpkcnkfanaa
