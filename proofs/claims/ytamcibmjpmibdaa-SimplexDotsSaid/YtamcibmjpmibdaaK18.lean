/-
The reference of layer 5: number, digits, value, Text.
The reference of layer 5: Parse.
rat.Text and rat.Parse, said of values.
The walk of RatTexts.
Contract of simplex.Dot.
The walk of law28.SimplexDots. Regions printed by gen/srd.py.
Opens arguments that hold Smalls.
-/
import Derived.Test.YtamcibmjpmibdaaK7
import Derived.Test.YtamcibmjpmibdaaK17
import Derived.Test.YtamcibmjpmibdaaK12
import Derived.Test.YtamcibmjpmibdaaK4
import Derived.Test.YtamcibmjpmibdaaK15
import Derived.Test.YtamcibmjpmibdaaK1
import Derived.Test.YtamcibmjpmibdaaK13
import Derived.Deep.SlicePairs
namespace Go.Proofs.Ytamcibmjpmibdaa
open Go.RowKit
set_option linter.unusedSimpArgs false

def txd (L : List Nat) : ByteArray := ⟨(L.reverse.map fun d => UInt8.ofNat (d + 48)).toArray⟩
theorem txd_front (x : Nat) (L : List Nat) : strOfNums [((48 + x : Nat) : Int)] ++ txd L = txd (L ++ [x]) := by
  have h : strOfNums [((48 + x : Nat) : Int)] = ⟨#[UInt8.ofNat (x + 48)]⟩ := by
    rw [Nat.add_comm]; rfl
  rw [h]
  apply ByteArray.ext
  simp [txd, ByteArray.data_append]
theorem txd_one (x : Nat) : strOfNums [((48 + x : Nat) : Int)] = txd [x] := by
  rw [Nat.add_comm]; rfl
theorem txd_size (L : List Nat) : (txd L).size = L.length := by
  simp [txd, ByteArray.size]
theorem dg_pos {n : Nat} (h : n ≠ 0) : dg n = n % 10 :: dg (n / 10) := by rw [dg, dif_neg h]
/-- All the digits, one at least. -/
def dgs (n : Nat) : List Nat := if n = 0 then [0] else dg n
theorem dec_dgs (n : Nat) : decT n = txd (dgs n) := by
  unfold decT dgs
  by_cases h : n = 0
  · subst h
    rw [if_pos rfl, show dg 0 = [] by rw [dg]; rfl]
    simp [textOf, txd]
  · rw [if_neg h, textOf, if_neg (by rw [dg_pos h]; simp)]; rfl
theorem dgs_split (n : Nat) : dgs n = [n % 10] ++ dg (n / 10) := by
  unfold dgs
  by_cases h : n = 0
  · subst h
    rw [if_pos rfl, show dg (0 / 10) = [] by rw [dg]; rfl]
    rfl
  · rw [if_neg h, dg_pos h]; rfl
theorem dgs_len {n : Nat} (h : n ≤ 9223372036854775807) : (dgs n).length ≤ 19 := by
  unfold dgs
  by_cases h0 : n = 0
  · rw [if_pos h0]; simp
  · rw [if_neg h0]; exact (dg_nrm n).small_lt (by omega)

set_option maxHeartbeats 4000000 in
theorem rnumber_any (n : Nat) (hn : n ≤ 9223372036854775807) (w : World) : Calls Try.prog 69 #[.int .i64 n] w fun e w' => e = .returned (.string (decT n)) ∧ Below w.heap.size w w' := by
  have hd := dec_dgs n
  have hl := dgs_len hn
  have hs := dgs_split n
  obtain ⟨D, hD⟩ : ∃ D, D = dgs n := ⟨_, rfl⟩
  rw [← hD] at hd hl hs
  obtain ⟨q, hq⟩ : ∃ q, q = n / 10 := ⟨_, rfl⟩
  obtain ⟨x, hx⟩ : ∃ x, x = n % 10 := ⟨_, rfl⟩
  rw [← hq, ← hx] at hs
  have e1 : (n : Int) / 10 = (q : Int) := by omega
  have e2 : (n : Int) % 10 = (x : Int) := by omega
  obtain ⟨y, hy⟩ : ∃ y, y = 48 + x := ⟨_, rfl⟩
  have e3 : (48 : Int) + (x : Int) = (y : Int) := by omega
  have hy2 : y ≤ 57 := by omega
  have hq2 : q ≤ 9223372036854775807 := by omega
  have hone := txd_one x
  rw [← hy] at hone
  have HD := Lib.hid hd; have HLN := Lib.hid hl; have HS := Lib.hid hs; have HONE := Lib.hid hone
  clear hd hl hs hone hD hq hx hy
  have hcv := run_convert_bytes_arg (P := Try.prog) (w.alloc (.cells #[.int .u8 (y : Int)] 5)) 134 5 Try.underlying134 Try.underlying5 w.heap.size 0 1 1 [(y : Int)] rfl (fun i hi => by
    obtain rfl : i = 0 := by omega
    rw [Nat.zero_add, (Blk.new w 5 #[.int .u8 (y : Int)]).cell]; rfl) 9 Try.underlying9
  generalize strOfNums [(y : Int)] = S at *
  go_enter Try.func69, Try.ntmps69
  go_wp2_with fail
  rw [HONE.out]
  clear hcv
  go_loopw [0, 3] (fun mv sv wr => ∃ (m : Nat) (L : List Nat), mv = .int .i64 m ∧ m ≤ 9223372036854775807 ∧ sv = .string (txd L) ∧ Hid (D = L ++ dg m ∧ Below w.heap.size w wr)) (fun mv _ _ => (intOf mv).toNat)
  case atStart => exact ⟨q, [x], rfl, hq2, rfl, Lib.hid ⟨HS.out, al w _⟩⟩
  case round =>
    obtain ⟨m, L, rfl, hm, rfl, HJ⟩ := hrel
    by_cases h0 : m = 0
    · have h1 := HJ.out.1
      rw [h0, show dg 0 = [] by rw [dg]; rfl, List.append_nil] at h1
      have HE := Lib.hid h1; clear h1
      have t0 : decide ((0 : Int) < (m : Int)) = false := by simp; omega
      have h0' : ¬ 0 < m := by omega
      clear h0
      go_wp2_with fail
      go_ret
      exact ⟨by rw [HD.out, HE.out]; rfl, HJ.out.2⟩
    · have h1 := HJ.out.1
      rw [dg_pos h0, show L ++ m % 10 :: dg (m / 10) = (L ++ [m % 10]) ++ dg (m / 10) by simp] at h1
      have hsz : (txd L).size ≤ 19 := by
        rw [txd_size]; have := HLN.out; rw [h1] at this; simp at this; omega
      obtain ⟨q1, hq⟩ : ∃ q, q = m / 10 := ⟨_, rfl⟩
      obtain ⟨x1, hx⟩ : ∃ x, x = m % 10 := ⟨_, rfl⟩
      rw [← hq, ← hx] at h1
      have e1 : (m : Int) / 10 = (q1 : Int) := by omega
      have e2 : (m : Int) % 10 = (x1 : Int) := by omega
      obtain ⟨y1, hy⟩ : ∃ y, y = 48 + x1 := ⟨_, rfl⟩
      have e3 : (48 : Int) + (x1 : Int) = (y1 : Int) := by omega
      have hy2 : y1 ≤ 57 := by omega
      have hq2 : q1 ≤ 9223372036854775807 := by omega
      have hlt : q1 < m := by omega
      have htp := txd_front x1 L
      rw [← hy] at htp
      have t0 : decide ((0 : Int) < (m : Int)) = true := by simp; omega
      have h0' : 0 < m := by omega
      have hcv := run_convert_bytes_arg (P := Try.prog) (wr.alloc (.cells #[.int .u8 (y1 : Int)] 5)) 134 5 Try.underlying134 Try.underlying5 wr.heap.size 0 1 1 [(y1 : Int)] rfl (fun i hi => by
        obtain rfl : i = 0 := by omega
        rw [Nat.zero_add, (Blk.new wr 5 #[.int .u8 (y1 : Int)]).cell]; rfl) 9 Try.underlying9
      have hs1 : (strOfNums [(y1 : Int)]).size = 1 := by simp [strOfNums, ByteArray.size]
      have H1 := Lib.hid h1; have HTP := Lib.hid htp
      clear h1 htp hq hx hy h0
      generalize strOfNums [(y1 : Int)] = S1 at *
      obtain ⟨T, hT⟩ : ∃ T, T = txd L := ⟨_, rfl⟩
      rw [← hT] at HTP hsz ⊢
      clear hT
      go_wp2_with fail
      rw [HTP.out]
      refine ⟨⟨q1, L ++ [x1], by go_num, hq2, rfl, Lib.hid ⟨H1.out, HJ.out.2.alloc HJ.out.2.size _⟩⟩, by simp [intOf]; omega⟩

/-- A decimal number without leading zeros. -/
def pgB (l : List Nat) : Bool := !l.isEmpty && (l.all (fun b => decide (48 ≤ b) && decide (b ≤ 57)) && (nth l 0 != 48 || l.length == 1))
theorem pgB_iff (l : List Nat) : pgB l = true ↔ PGood l := by
  unfold pgB PGood
  simp only [Bool.and_eq_true, Bool.not_eq_true', List.isEmpty_eq_false_iff, List.all_eq_true, decide_eq_true_eq, Bool.or_eq_true, bne_iff_ne, beq_iff_eq, ne_eq]
  refine and_congr Iff.rfl (and_congr ?_ ?_)
  · constructor
    · intro h j hj; exact h _ (nth_mem hj)
    · intro h b hb
      obtain ⟨k, hk, rfl⟩ := List.getElem_of_mem hb
      have := h k hk
      rwa [nth_eq hk] at this
  · constructor
    · rintro (h | h) h2
      · exact absurd h2 h
      · exact h
    · intro h
      by_cases h2 : nth l 0 = 48
      · exact .inr (h h2)
      · exact .inl h2
theorem pgB_no {l : List Nat} (h : ¬ PGood l) : pgB l = false := by
  cases h2 : pgB l with
  | false => rfl
  | true => exact absurd ((pgB_iff l).1 h2) h

set_option maxHeartbeats 4000000 in
theorem rtextq_any {x : Rat} (h1 : x.num.natAbs ≤ 9223372036854775807) (h2 : x.den ≤ 9223372036854775807) (w : World) : Calls Try.prog 30 #[QL x] w fun e w' => e = .returned (.string (txt x)) ∧ Below w.heap.size w w' := by
  have hz1 : (decT x.num.natAbs).size ≤ 19 := by rw [dec_dgs, txd_size]; exact dgs_len h1
  have hz2 : (decT x.den).size ≤ 19 := by rw [dec_dgs, txd_size]; exact dgs_len h2
  have HA := Lib.hid (fun W => rabs_any x.num (by omega) (by omega) W)
  have HB := Lib.hid (fun W => rnumber_any x.num.natAbs h1 W)
  have HC := Lib.hid (fun W => rnumber_any x.den h2 W)
  have hx : txt x = sgT (decide (x.num < 0)) ++ (if x.den = 1 then decT x.num.natAbs else strs2 (decT x.num.natAbs) (decT x.den)) := rfl
  have hsl : strs2 (decT x.num.natAbs) (decT x.den) = decT x.num.natAbs ++ ⟨#[47]⟩ ++ decT x.den := by
    apply ByteArray.ext; simp [strs2, ByteArray.data_append]
  have hcs : x.den = 1 ∨ x.den ≠ 1 := by omega
  unfold QL
  generalize txt x = X at *
  generalize x.num.natAbs = N at *
  generalize x.den = M at *
  generalize x.num = z at *
  rw [hsl] at hx
  generalize decT N = T1 at *
  generalize decT M = T2 at *
  have HX := Lib.hid hx; clear hx hsl h1 h2
  by_cases hz : z < 0
  · have HX2 := Lib.hid (show X = ⟨#[45]⟩ ++ (if M = 1 then T1 else T1 ++ ⟨#[47]⟩ ++ T2) by rw [HX.out, decide_eq_true hz]; rfl)
    have tz := decide_eq_true hz
    clear hz HX
    rcases hcs with hm | hm
    · have tm : ((M : Int) != 1) = false := by simp [hm]
      have HX3 := Lib.hid (show X = ⟨#[45]⟩ ++ T1 by rw [HX2.out, if_pos hm])
      clear hm HX2
      go_enter Try.func30, Try.ntmps30
      go_wp2_with fail
      refine (HA.out _).mono ?_
      rintro e w1 ⟨rfl, rfl⟩
      go_wp2_with fail
      refine (HB.out _).mono ?_
      rintro e w2 ⟨rfl, hb⟩
      have hT := (GB.made w 58 (.int .i64 z) (.int .i64 M)).new hb
      have c0 := hT.c0; have c1 := hT.c1
      have HW := Lib.hid (bthen (al w _) hb (al w _).size); clear hb hT
      go_wp2_with fail
      go_ret
      exact ⟨by rw [HX3.out]; rfl, HW.out⟩
    · have tm : ((M : Int) != 1) = true := by simp; omega
      have HX3 := Lib.hid (show X = ⟨#[45]⟩ ++ T1 ++ ⟨#[47]⟩ ++ T2 by rw [HX2.out, if_neg hm]; apply ByteArray.ext; simp [ByteArray.data_append])
      clear hm HX2
      go_enter Try.func30, Try.ntmps30
      go_wp2_with fail
      refine (HA.out _).mono ?_
      rintro e w1 ⟨rfl, rfl⟩
      go_wp2_with fail
      refine (HB.out _).mono ?_
      rintro e w2 ⟨rfl, hb⟩
      have hT := (GB.made w 58 (.int .i64 z) (.int .i64 M)).new hb
      have c0 := hT.c0; have c1 := hT.c1
      have HW := Lib.hid (bthen (al w _) hb (al w _).size); clear hb hT
      go_wp2_with fail
      refine (HC.out _).mono ?_
      rintro e w3 ⟨rfl, hb⟩
      replace HW := Lib.hid (bthen HW.out hb HW.out.size); clear hb c0 c1
      go_wp2_with fail
      go_ret
      exact ⟨by rw [HX3.out]; rfl, HW.out⟩
  · have HX2 := Lib.hid (show X = (if M = 1 then T1 else T1 ++ ⟨#[47]⟩ ++ T2) by rw [HX.out, decide_eq_false hz]; apply ByteArray.ext; simp [sgT, ByteArray.data_append])
    have tz := decide_eq_false hz
    clear hz HX
    rcases hcs with hm | hm
    · have tm : ((M : Int) != 1) = false := by simp [hm]
      have HX3 := Lib.hid (show X = ⟨#[]⟩ ++ T1 by rw [HX2.out, if_pos hm]; apply ByteArray.ext; simp [ByteArray.data_append])
      clear hm HX2
      go_enter Try.func30, Try.ntmps30
      go_wp2_with fail
      refine (HA.out _).mono ?_
      rintro e w1 ⟨rfl, rfl⟩
      go_wp2_with fail
      refine (HB.out _).mono ?_
      rintro e w2 ⟨rfl, hb⟩
      have hT := (GB.made w 58 (.int .i64 z) (.int .i64 M)).new hb
      have c0 := hT.c0; have c1 := hT.c1
      have HW := Lib.hid (bthen (al w _) hb (al w _).size); clear hb hT
      go_wp2_with fail
      go_ret
      exact ⟨by rw [HX3.out]; rfl, HW.out⟩
    · have tm : ((M : Int) != 1) = true := by simp; omega
      have HX3 := Lib.hid (show X = ⟨#[]⟩ ++ T1 ++ ⟨#[47]⟩ ++ T2 by rw [HX2.out, if_neg hm]; apply ByteArray.ext; simp [ByteArray.data_append])
      clear hm HX2
      go_enter Try.func30, Try.ntmps30
      go_wp2_with fail
      refine (HA.out _).mono ?_
      rintro e w1 ⟨rfl, rfl⟩
      go_wp2_with fail
      refine (HB.out _).mono ?_
      rintro e w2 ⟨rfl, hb⟩
      have hT := (GB.made w 58 (.int .i64 z) (.int .i64 M)).new hb
      have c0 := hT.c0; have c1 := hT.c1
      have HW := Lib.hid (bthen (al w _) hb (al w _).size); clear hb hT
      go_wp2_with fail
      refine (HC.out _).mono ?_
      rintro e w3 ⟨rfl, hb⟩
      replace HW := Lib.hid (bthen HW.out hb HW.out.size); clear hb c0 c1
      go_wp2_with fail
      go_ret
      exact ⟨by rw [HX3.out]; rfl, HW.out⟩
end Go.Proofs.Ytamcibmjpmibdaa
namespace Go.Proofs.Ytamcibmjpmibdaa
open Go.RowKit
set_option linter.unusedSimpArgs false
set_option linter.unusedVariables false

/-- What the reference's Parse answers. -/
def RetRP (w : World) (L : List Nat) (e : Ending) (w' : World) : Prop :=
  Below w.heap.size w w' ∧ (POk L → e = .returned (.tuple #[QL (PVal L), .int .i64 0])) ∧ (¬ POk L → e = .returned (.tuple #[.agg #[.int .i64 0, .int .i64 0], .int .i64 15]))
theorem RetRP.bad {w w' : World} {L : List Nat} (h : ¬ POk L) (hb : Below w.heap.size w w') : RetRP w L (.returned (.tuple #[.agg #[.int .i64 0, .int .i64 0], .int .i64 15])) w' := ⟨hb, fun h1 => absurd h1 h, fun _ => rfl⟩
theorem pL_ne : ∀ {L : List Nat} {k : Nat}, k < pL L → nth L k ≠ 47
  | [], k, h => by simp [pL] at h
  | b :: L, k, h => by
    rw [pL_cons] at h
    by_cases hb : b = 47
    · rw [if_pos hb] at h; omega
    · rw [if_neg hb] at h
      cases k with
      | zero => simpa [nth] using hb
      | succ k =>
        have := pL_ne (L := L) (k := k) (by omega)
        simpa [nth] using this
theorem pL_eq : ∀ {L : List Nat}, pL L < L.length → nth L (pL L) = 47
  | [], h => by simp at h
  | b :: L, h => by
    rw [pL_cons] at h ⊢
    by_cases hb : b = 47
    · rw [if_pos hb]; simpa [nth] using hb
    · rw [if_neg hb] at h ⊢
      have := pL_eq (L := L) (by simp at h; omega)
      simpa [nth] using this
theorem bytes_one (c : UInt8) : bytesOf ⟨#[c]⟩ = [c.toNat] := by simp [bytesOf, ByteArray.toList_eq]
theorem good_zero {l : List Nat} (h : PGood l) : dw l = 0 ↔ l = [48] := by
  constructor
  · intro h0
    have h1 := good_dT h
    rw [show dv l l.length = 0 from h0] at h1
    rw [← h1]
    have h2 : PGood [48] := (pgB_iff _).1 rfl
    exact good_dT h2
  · rintro rfl; rfl
theorem good_onev {l : List Nat} (h : PGood l) : dw l = 1 ↔ l = [49] := by
  constructor
  · intro h0
    have h1 := good_dT h
    rw [show dv l l.length = 1 from h0] at h1
    rw [← h1]
    have h2 : PGood [49] := (pgB_iff _).1 rfl
    exact good_dT h2
  · rintro rfl; rfl
theorem str_is {s : ByteArray} {c : UInt8} : (s.toList == [c]) = decide (bytesOf s = [c.toNat]) := by
  rw [Bool.eq_iff_iff, beq_iff_eq, decide_eq_true_eq]
  constructor
  · intro h; rw [bytesOf, h]; rfl
  · intro h
    have := bytes_inj (h.trans (bytes_one c).symm)
    rw [this]; simp [ByteArray.toList_eq]
/-- The fraction of a sign and two parts. -/
theorem qv_frac' (neg : Bool) (N M : Nat) (hM : M ≠ 0) (hg : Nat.gcd N M = 1) : (qv neg N M).num = (if neg then -(N : Int) else (N : Int)) ∧ (qv neg N M).den = M := by
  rw [qv_num hM, qv_den hM, hg, Nat.div_one, Nat.div_one]
  exact ⟨rfl, rfl⟩
theorem low_parts (N M : Nat) (hM : M ≠ 0) : (((N : Int) : Rat) / ((M : Int) : Rat)).num = ((N / Nat.gcd N M : Nat) : Int) ∧ (((N : Int) : Rat) / ((M : Int) : Rat)).den = M / Nat.gcd N M := by
  have h := qv_frac (N : Int) (M : Int) (by omega)
  rw [show decide ((N : Int) < 0) = false by simp, show decide ((M : Int) < 0) = false by simp, Int.natAbs_natCast, Int.natAbs_natCast] at h
  rw [← h]
  exact ⟨by rw [show ((false != false) : Bool) = false from rfl, qv_num hM]; rfl, qv_den hM⟩
theorem div_lt_self' {M g : Nat} (hM : M ≠ 0) (hg : g ≠ 1) : M / g ≠ M := by
  rcases Nat.lt_or_ge g 2 with h | h
  · have : g = 0 := by omega
    subst this; rw [Nat.div_zero]; omega
  · have := Nat.div_lt_self (show 0 < M by omega) h; omega

end Go.Proofs.Ytamcibmjpmibdaa
namespace Go.Proofs.Ytamcibmjpmibdaa
open Go.RowKit

theorem Rw.parts {b : Nat} {x : Rat} {v : Value} {w : World} (h : Rw b x v w) : x.num.natAbs < PB b ∧ x.den < PB b ∧ 1 ≤ b := by
  obtain ⟨s, A, n, c, B, m, d, rfl, N, M, h1, h2, rfl⟩ := h
  have b1 := h1.2.1
  have n1 := h1.2.2.2.1
  have m1 := h2.2.2.2.1
  have p1 : 1 < PB b := by
    have : PB 1 ≤ PB b := PB_mono b1
    have : PB 1 = 4294967296 := by simp [PB]
    omega
  by_cases hM : M = 0
  · rw [hM, qv_den0, qv_abs (by omega), qv_den (by omega), Nat.gcd_one_right]
    exact ⟨by omega, by omega, b1⟩
  · rw [qv_abs hM, qv_den hM]
    exact ⟨Nat.lt_of_le_of_lt (Nat.div_le_self _ _) n1, Nat.lt_of_le_of_lt (Nat.div_le_self _ _) m1, b1⟩
theorem dT_size {n b : Nat} (h : n < PB b) (hb : 1 ≤ b) : (dT n).length ≤ 10 * b := by
  unfold dT; rw [bytes_length]; exact decT_size h hb
theorem txt_size {x : Rat} {b : Nat} (h1 : x.num.natAbs < PB b) (h2 : x.den < PB b) (hb : 1 ≤ b) : (txt x).size ≤ 20 * b + 2 := by
  have a1 := dT_size h1 hb
  have a2 := dT_size h2 hb
  rw [← bytes_length, bytes_txt]
  unfold tB
  by_cases h : x.den = 1
  · rw [if_pos h]; cases decide (x.num < 0) <;> simp <;> omega
  · rw [if_neg h]; cases decide (x.num < 0) <;> simp <;> omega
theorem call_text : callsB Try.prog 29 = true := by kernel_rfl
end Go.Proofs.Ytamcibmjpmibdaa
namespace Go.Proofs.Ytamcibmjpmibdaa
open Go.RowKit
set_option linter.unusedSimpArgs false

theorem rtext_v {x : Rat} (hx : Sm x) (v : Value) (hv : v = QL x) (w : World) : Calls Try.prog 30 #[v] w (RV w (fun u _ => u = .string (txt x))) := by
  subst hv
  exact rv_one (rtextq_any hx.le.1 hx.le.2 w)
theorem call_rtext : callsB Try.prog 30 = true := by kernel_rfl
theorem short_long {L : List Nat} (h : L.length ≤ 1200) : ¬ PLong L := by
  have h1 := rL_length L
  have h2 := fL_length (rL L)
  have h3 := gL_length (rL L)
  rintro (h | h) <;> omega
/-- The parts of a short text are small. -/
theorem dw_lt {l : List Nat} (h : PGood l) (hl : l.length ≤ 14) : dw l < 100000000000000 := by
  have h1 := dv_lt (bs := l) l.length (fun j hj => (h.2.1 j hj).2)
  exact Nat.lt_of_lt_of_le h1 (Nat.pow_le_pow_right (by omega) hl)
theorem pval_small {L : List Nat} (h : POk L) (hl : L.length ≤ 14) : (PVal L).num.natAbs ≤ 9223372036854775807 ∧ (PVal L).den ≤ 9223372036854775807 := by
  have h1 := rL_length L
  have h2 := fL_length (rL L)
  have h3 := gL_length (rL L)
  have b1 := dw_lt h.1 (by omega)
  unfold PVal
  have key : ∀ (s : Bool) (N M : Nat), N < 100000000000000 → M < 100000000000000 → (qv s N M).num.natAbs ≤ 9223372036854775807 ∧ (qv s N M).den ≤ 9223372036854775807 := by
    intro s N M hN hM
    by_cases hM0 : M = 0
    · rw [hM0, qv_den0, qv_abs (by omega), qv_den (by omega), Nat.gcd_one_right]; omega
    · rw [qv_abs hM0, qv_den hM0]
      have := Nat.div_le_self N (Nat.gcd N M)
      have := Nat.div_le_self M (Nat.gcd N M)
      omega
  by_cases hh : hasL (rL L) = true
  · rw [if_pos hh]; exact key _ _ _ b1 (dw_lt (h.2.1 hh) (by omega))
  · rw [if_neg hh]; exact key _ _ _ b1 (by omega)

end Go.Proofs.Ytamcibmjpmibdaa
namespace Go.Proofs.Ytamcibmjpmibdaa
open Go.RowKit
set_option linter.unusedVariables false
set_option linter.unusedSimpArgs false

set_option maxRecDepth 100000 in
set_option maxHeartbeats 8000000 in
theorem Dot_ok (n ca cb ba bb : Nat) (AA AB : Option Addr) (f g : Nat → Rat) (w : World) (hA : Rs w w.heap.size AA n (PW w ba f)) (hB : Rs w w.heap.size AB n (PW w bb g)) (hn1 : n ≤ 1000) (hba : ba ≤ 1400) (hbb : bb ≤ 1400) (hcap : n * (ba + bb + 1) ≤ 2000) :
    Calls Try.prog 27 #[.slice AA n ca, .slice AB n cb] w (RV w (fun v w' => ∃ q, v = .tuple #[q, .int .i64 0] ∧ Rw (2 + n * (ba + bb + 1)) (sm (fun i => f i * g i) n) q w')) := by
  have HA := Lib.hid hA; have HBB := Lib.hid hB; clear hA hB
  have HCap := Lib.hid hcap; clear hcap
  go_enter Try.func27, Try.ntmps27
  go_upto_region 1 with (fail)
  have HB0 := Lib.hid (al w (.cells #[.bool false, .slice none 0 0, .slice none 0 0] 41))
  have HZ0 := Lib.hid (Zx.rb (show Zx w.heap.size w.heap.size (w.alloc (.cells #[.bool false, .slice none 0 0, .slice none 0 0] 41)) from ⟨Nat.le_refl _, TB.made w _ _ _ _⟩))
  obtain ⟨g4, hg4⟩ : ∃ g4, g4 = w.heap.size := ⟨_, rfl⟩
  have HG4 := Lib.hid hg4
  rw [← hg4] at HZ0 ⊢
  clear hg4
  generalize w.alloc (.cells #[.bool false, .slice none 0 0, .slice none 0 0] 41) = w0 at *
  go_upto_region 3 with (fail)
-- %D3
  refine wp_region_joins (kss := [[], [], [(0, 12), (1, 13)]]) [(0, .slice AA n ca), (1, .slice AB n cb)] [fun zz _ => zz = .slice AA n ca, fun zz _ => zz = .slice AB n cb, Rw (2 + n * (ba + bb + 1)) (sm (fun i => f i * g i) n)] 3 (by kernel_rfl) ⟨rfl, rfl, trivial⟩ [false, false, false] ?_ ?_ ?_
  · exact ⟨fun _ _ _ h _ => h, fun _ _ _ h _ => h, fun _ _ _ h hb => h.new hb, trivial⟩
  · refine ⟨?_, ?_, ?_, trivial⟩
    · exact fun aa ww hb he hd => ob_plain rfl (gives_move _ rfl ⟨he.1, Below.refl _ _⟩)
    · exact fun aa ww hb he hd => ob_plain rfl (gives_move _ rfl ⟨he.2.1, Below.refl _ _⟩)
    · exact fun aa ww hb he hd => ob_plain rfl (gives_call2 _ _ _ _ rfl (by kernel_rfl) (by rw [show aa.eval (.tmp 12) = .slice AA n ca from hd.1, show aa.eval (.tmp 13) = .slice AB n cb from hd.2.1]; exact dot_any n n ca cb ba bb _ _ f g _ (Rs.newW HA.out (bthen HB0.out hb HB0.out.size)) (Rs.newW HBB.out (bthen HB0.out hb HB0.out.size)) (Nat.le_refl _) hn1 hba hbb HCap.out))
  intro vs w4 hb hR
  have r14 : Rw (2 + n * (ba + bb + 1)) (sm (fun i => f i * g i) n) (vs 2) w4 := hR 2 (by decide)
  clear hR
  simp only [putsL, Nat.zero_add, Nat.reduceAdd, List.take_succ_cons, List.take_zero, Act.put, List.setIfInBounds_toArray, List.set_cons_zero, List.set_cons_succ]
  show wpOps _ _ _ [3, 4] _ _
  refine wpOps_next rfl rfl (store_row (v := vs 2) (g := g4) (j := 0) (n := 1) (b := 2 + n * (ba + bb + 1)) (x := sm (fun i => f i * g i) n) rfl rfl rfl rfl (HZ0.out.below hb (Q := fun _ _ => True) (fun _ _ _ _ => trivial)) (by omega) r14 ?_)
-- %end D3
  intro wa kp hg hsz hR
  have HXa := Lib.hid (RB.bx (hR (fun _ v => Rw (2 + n * (ba + bb + 1)) (sm (fun i => f i * g i) n) v wa) (fun l u hl hne _ => absurd hl (by omega)) (r14.keepN kp)))
  have HBa := Lib.hid (show Below w.heap.size w wa from (bthen HB0.out hb HB0.out.size).grown hg (bthen HB0.out hb HB0.out.size).size (fun x hx => by cases hx; rw [HG4.out]; exact Nat.le_refl _))
  clear hb kp hg hsz hR r14 HB0 HZ0
  refine wpOps_next rfl rfl (wp_assign 5 (.const (.int .i64 0)) rfl rfl (.int .i64 0) rfl ?_)
  simp only [Act.put, List.setIfInBounds_toArray, List.set_cons_zero, List.set_cons_succ]
  show Exit.then _ _ _ _ _
  go_wp2_with fail
  obtain ⟨s, A, k1, c1, B, m1, d1, h1, h2⟩ := HXa.out
  refine bodyPost_ret (v := .tuple #[.agg #[.bool s, .slice A k1 c1, .slice B m1 d1], .int .i64 0]) (results_cell_tmp Try.results27 _ _ _ _ _ (0, 0) _ rfl h1 Try.underlying41 rfl rfl) rfl ?_
  exact ⟨_, rfl, ⟨_, rfl, s, A, k1, c1, B, m1, d1, rfl, h2⟩, HBa.out⟩
set_option maxRecDepth 100000 in
set_option maxHeartbeats 8000000 in
theorem Dot_bad (n n' ca cb : Nat) (AA AB : Option Addr) (w : World) (hne : n ≠ n') :
    Calls Try.prog 27 #[.slice AA n ca, .slice AB n' cb] w (RV w (fun v w' => v = .tuple #[.agg #[.bool false, .slice none 0 0, .slice none 0 0], .int .i64 1])) := by
  go_enter Try.func27, Try.ntmps27
  go_upto_region 1 with (fail)
  have HB0 := Lib.hid (al w (.cells #[.bool false, .slice none 0 0, .slice none 0 0] 41))
  have T4 := Lib.hid (TB.made w 41 (.bool false) (.slice none 0 0) (.slice none 0 0))
  generalize w.alloc (.cells #[.bool false, .slice none 0 0, .slice none 0 0] 41) = w0 at *
  have r0 := T4.out.c0; have r1 := T4.out.c1; have r2 := T4.out.c2; have f0 := T4.out.f0; have f1 := T4.out.f1; have f2 := T4.out.f2
  have hne' : ¬ ((n : Int) = (n' : Int)) := by omega
  go_wp2_with fail
  refine bodyPost_ret (v := .tuple #[.agg #[.bool false, .slice none 0 0, .slice none 0 0], .int .i64 1]) ?_ rfl ⟨_, rfl, rfl, below_store3 HB0.out (by omega) _ _ _⟩
  exact results_cell_tmp Try.results27 _ _ _ _ _ (0, 0) _ rfl (T4.out.set3 _ _ _) Try.underlying41 rfl rfl
end Go.Proofs.Ytamcibmjpmibdaa
namespace Go.Proofs.Ytamcibmjpmibdaa
open Go.RowKit
set_option linter.unusedVariables false
set_option linter.unusedSimpArgs false

set_option maxRecDepth 100000 in
set_option maxHeartbeats 16000000 in
theorem dots_walk (PA : Option Addr) (n ca : Nat) (NA : Nat → Int) (DA : Nat → Nat) (PB : Option Addr) (n' cb : Nat) (NB : Nat → Int) (DB : Nat → Nat) (w : World)
    (hA : Reads w w.heap.size 2 PA n (smL NA DA n)) (sA : SmB NA DA n) (hB : Reads w w.heap.size 2 PB n' (smL NB DB n')) (sB : SmB NB DB n') :
    Calls Try.prog 9 #[.slice PA n ca, .slice PB n' cb] w (fun e w' => e = .returned (.bool true) ∧ Below w.heap.size w w') := by
  have HA := Lib.hid hA; have HBB := Lib.hid hB; have SA := Lib.hid sA; have SB := Lib.hid sB; clear hA hB sA sB
  go_enter Try.func9, Try.ntmps9
  by_cases hn : 8 < n
  · have h1 : ((n : Int) > 8) := by omega
    go_wp2_with fail
    refine (awake_any _).mono ?_
    rintro e w1 ⟨rfl, hb⟩
    go_wp2_with fail
    go_ret
    exact ⟨rfl, hb⟩
  have h1 : ¬ ((n : Int) > 8) := by omega
  by_cases hn' : 8 < n'
  · have h2 : ((n' : Int) > 8) := by omega
    go_wp2_with fail
    refine (awake_any _).mono ?_
    rintro e w1 ⟨rfl, hb⟩
    go_wp2_with fail
    go_ret
    exact ⟨rfl, hb⟩
  have h2 : ¬ ((n' : Int) > 8) := by omega
  go_wp2_with fail
  refine (qs_any n ca PA NA DA w HA.out SA.out (by omega)).mono ?_
  rintro e w1 ⟨A1, c1, rfl, ho1, hb⟩
  have HO1 := Lib.hid (Reads.of_own ho1.own)
  have HB := Lib.hid hb
  clear ho1 hb
  go_wp2_with fail
  refine (Rats_any n c1 A1 _ w1 HO1.out (fun i _ => smq_small _ _) (by omega)).mono ?_
  rintro e w2 ⟨A2, c2, rfl, ho2, hb⟩
  have HO2 := Lib.hid ho2.rs.toW
  replace HB := Lib.hid (bthen HB.out hb HB.out.size)
  clear ho2 hb HO1
  go_wp2_with fail
  refine (qs_any n' cb PB NB DB w2 ((HBB.out.below HB.out).more HB.out.size) SB.out (by omega)).mono ?_
  rintro e w3 ⟨A3, c3, rfl, ho3, hb⟩
  have HO3 := Lib.hid (Reads.of_own ho3.own)
  replace HO2 := Lib.hid (HO2.out.newW hb)
  replace HB := Lib.hid (bthen HB.out hb HB.out.size)
  clear ho3 hb
  go_wp2_with fail
  refine (Rats_any n' c3 A3 _ w3 HO3.out (fun i _ => smq_small _ _) (by omega)).mono ?_
  rintro e w4 ⟨A9, c4, rfl, ho4, hb⟩
  have HO4 := Lib.hid ho4.rs.toW
  replace HO2 := Lib.hid (HO2.out.newW hb)
  replace HB := Lib.hid (bthen HB.out hb HB.out.size)
  clear ho4 hb HO3
  go_wp2_with fail
  by_cases hnn : n = n'
  · subst hnn
    refine (Dot_ok n c2 c4 2 2 A2 A9 _ _ w4 HO2.out HO4.out (by omega) (by omega) (by omega) (by omega)).mono ?_
    rintro e w5 ⟨v, rfl, ⟨q, rfl, hq⟩, hb⟩
    obtain ⟨s, A5, k5, c5, B5, m5, d5, rfl, hra⟩ := hq
    replace HB := Lib.hid (bthen HB.out hb HB.out.size)
    have HRa := Lib.hid hra
    clear hb hra HO2 HO4
    go_upto_region 6 with (fail)
    have HX := Lib.hid (show Bx (2 + n * (2 + 2 + 1)) (sm (fun i => smq (NA i) (DA i) * smq (NB i) (DB i)) n) w5.heap.size (w5.alloc (.cells #[.bool s, .slice A5 k5 c5, .slice B5 m5 d5] 41)) from ⟨s, A5, k5, c5, B5, m5, d5, TB.made w5 _ _ _ _, HRa.out.new (al w5 _)⟩)
    replace HB := Lib.hid (bthen HB.out (al w5 (.cells #[.bool s, .slice A5 k5 c5, .slice B5 m5 d5] 41)) HB.out.size)
    obtain ⟨g5, hg5⟩ : ∃ g5, g5 = w5.heap.size := ⟨_, rfl⟩
    rw [← hg5] at HX ⊢
    clear hg5 HRa
    generalize w5.alloc (.cells #[.bool s, .slice A5 k5 c5, .slice B5 m5 d5] 41) = w6 at *
    go_wp2_with fail
    refine (qs_any n ca PA NA DA w6 ((HA.out.below HB.out).more HB.out.size) SA.out (by omega)).mono ?_
    rintro e w7 ⟨A7, c7, rfl, ho7, hb⟩
    have HO7 := Lib.hid (Reads.of_own ho7.own)
    replace HX := Lib.hid (HX.out.new hb)
    replace HB := Lib.hid (bthen HB.out hb HB.out.size)
    clear ho7 hb
    go_wp2_with fail
    refine (qs_any n cb PB NB DB w7 ((HBB.out.below HB.out).more HB.out.size) SB.out (by omega)).mono ?_
    rintro e w8 ⟨A8, c8, rfl, ho8, hb⟩
    have HO8 := Lib.hid (Reads.of_own ho8.own)
    replace HO7 := Lib.hid ((HO7.out.below hb).more hb.size)
    replace HX := Lib.hid (HX.out.new hb)
    replace HB := Lib.hid (bthen HB.out hb HB.out.size)
    clear ho8 hb
    go_wp2_with fail
    have hd := dotS (f := fun i => smq (NA i) (DA i)) (g := fun i => smq (NB i) (DB i)) (n := n) (by omega) (fun _ _ => smq_frac _ _) (fun _ _ => smq_frac _ _)
    have HSm := Lib.hid (hd.h4 n (Nat.le_refl _))
    refine (rdot_any n n c7 c8 A7 A8 _ _ w8 HO7.out HO8.out (Nat.le_refl _) (by omega) hd).mono ?_
    rintro e wa ⟨v, he, hv, hb⟩
    obtain ⟨z, hz⟩ : ∃ z, z = (sm (fun i => smq (NA i) (DA i) * smq (NB i) (DB i)) n).num := ⟨_, rfl⟩
    obtain ⟨d, hd'⟩ : ∃ d, d = (((sm (fun i => smq (NA i) (DA i) * smq (NB i) (DB i)) n).den : Nat) : Int) := ⟨_, rfl⟩
    obtain rfl : e = .returned (.agg #[.int .i64 z, .int .i64 d]) := by rw [he, hv, hz, hd']; rfl
    have HZ := Lib.hid (And.intro hz hd')
    replace HX := Lib.hid (HX.out.new hb)
    replace HB := Lib.hid (bthen HB.out hb HB.out.size)
    clear hb he hv hd hz hd' HO7 HO8
    go_upto_region 7 with (fail)
    have H7 := Lib.hid (show Qb (sm (fun i => smq (NA i) (DA i) * smq (NB i) (DB i)) n) wa.heap.size (wa.alloc (.cells #[.int .i64 z, .int .i64 d] 58)) from by rw [HZ.out.1, HZ.out.2]; exact GB.made _ _ _ _)
    replace HX := Lib.hid (HX.out.new (al wa (.cells #[.int .i64 z, .int .i64 d] 58)))
    replace HB := Lib.hid (bthen HB.out (al wa (.cells #[.int .i64 z, .int .i64 d] 58)) HB.out.size)
    obtain ⟨g7, hg7⟩ : ∃ g7, g7 = wa.heap.size := ⟨_, rfl⟩
    rw [← hg7] at H7 ⊢
    clear hg7
    generalize wa.alloc (.cells #[.int .i64 z, .int .i64 d] 58) = wb at *
-- %L7
    refine wp_region_each (kss := [[], [(0, 42)], [(1, 43)], [(2, 44)], [(2, 44), (3, 45)], [(2, 44)], [(2, 44), (5, 47)], [(2, 44), (4, 46), (6, 48)], [(2, 44), (7, 49)], [(8, 50)], [(9, 51)], [(9, 51), (10, 52)], [(11, 53)]]) [(6, .int .i64 0), (5, .pointer (some ⟨g5, 0, none⟩)), (7, .pointer (some ⟨g7, 0, none⟩))] [fun zz _ => zz = .int .i64 0, fun zz _ => zz = .bool true, fun zz _ => zz = .bool true, Rw (2 + n * (2 + 2 + 1)) (sm (fun i => smq (NA i) (DA i) * smq (NB i) (DB i)) n), fun zz _ => zz = .string (txt (sm (fun i => smq (NA i) (DA i) * smq (NB i) (DB i)) n)), fun zz _ => zz = QL (sm (fun i => smq (NA i) (DA i) * smq (NB i) (DB i)) n), fun zz _ => zz = .string (txt (sm (fun i => smq (NA i) (DA i) * smq (NB i) (DB i)) n)), fun zz _ => zz = .bool true, fun zz _ => zz = .bool true, fun zz _ => zz = .bool true, fun zz _ => zz = .bool true, fun zz _ => zz = .bool true, fun zz _ => zz = .bool true] (by kernel_rfl) (by kernel_rfl) ⟨rfl, rfl, rfl, trivial⟩ ?_ ?_ ?_
    · exact ⟨fun _ _ _ h _ => h, fun _ _ _ h _ => h, fun _ _ _ h _ => h, fun _ _ _ h hb => h.new hb, fun _ _ _ h _ => h, fun _ _ _ h _ => h, fun _ _ _ h _ => h, fun _ _ _ h _ => h, fun _ _ _ h _ => h, fun _ _ _ h _ => h, fun _ _ _ h _ => h, fun _ _ _ h _ => h, fun _ _ _ h _ => h, trivial⟩
    · refine ⟨?_, ?_, ?_, ?_, ?_, ?_, ?_, ?_, ?_, ?_, ?_, ?_, ?_, trivial⟩
      · exact fun aa ww hb he hd => ob_plain rfl (gives_move _ rfl ⟨he.1, Below.refl _ _⟩)
      · exact fun aa ww hb he hd => ob_plain rfl (gives_eq_int 0 0 .i64 _ _ _ _ rfl hd.1 rfl ⟨congrArg Value.bool (by decide), Below.refl _ _⟩)
      · exact fun aa ww hb he hd => ob_plain rfl (gives_move _ rfl ⟨hd.1, Below.refl _ _⟩)
      · exact fun aa ww hb he hd => ob_on 44 rfl (by kernel_rfl) hd.1 (load_bx rfl he.2.1 (Bx.new HX.out hb))
      · exact fun aa ww hb he hd => ob_on 44 rfl (by kernel_rfl) hd.1 (gives_call1 _ _ _ rfl (by kernel_rfl) (text_v (hd.2.1) (by omega)))
      · exact fun aa ww hb he hd => ob_on 44 rfl (by kernel_rfl) hd.1 (load_qb rfl he.2.2.1 (Qb.new H7.out hb))
      · exact fun aa ww hb he hd => ob_on 44 rfl (by kernel_rfl) hd.1 (gives_call1 _ _ _ rfl (by kernel_rfl) (rtext_v (x := sm (fun i => smq (NA i) (DA i) * smq (NB i) (DB i)) n) HSm.out _ hd.2.1 _))
      · exact fun aa ww hb he hd => ob_on 44 rfl (by kernel_rfl) hd.1 (eq_str (S := txt (sm (fun i => smq (NA i) (DA i) * smq (NB i) (DB i)) n)) rfl hd.2.1 hd.2.2.1)
      · exact fun aa ww hb he hd => ob_plain rfl (gives_pick true _ _ _ rfl hd.1 ⟨hd.2.1, Below.refl _ _⟩)
      · exact fun aa ww hb he hd => ob_plain rfl (gives_move _ rfl ⟨hd.1, Below.refl _ _⟩)
      · exact fun aa ww hb he hd => ob_on 51 rfl (by kernel_rfl) hd.1 (gives_call0 _ _ rfl (by kernel_rfl) (rv_one (awake_any _)))
      · exact fun aa ww hb he hd => ob_plain rfl (gives_pick true _ _ _ rfl hd.1 ⟨hd.2.1, Below.refl _ _⟩)
      · exact fun aa ww hb he hd => ob_plain rfl (gives_assign _ rfl ⟨hd.1, Below.refl _ _⟩)
    intro vs w9 hb hR
    have e4 : vs 12 = .bool true := hR 12 (by decide)
    clear hR
    simp only [putsL, Nat.zero_add, Nat.reduceAdd, List.take_succ_cons, List.take_zero, Act.put, List.setIfInBounds_toArray, List.set_cons_zero, List.set_cons_succ]
    rw [e4]
    clear e4
-- %end L7
    go_wp2_with fail
    go_ret
    exact ⟨rfl, bthen HB.out hb HB.out.size⟩
  · have h3 : ¬ ((n : Int) = (n' : Int)) := by omega
    refine (Dot_bad n n' c2 c4 A2 A9 w4 hnn).mono ?_
    rintro e w5 ⟨v, rfl, rfl, hb⟩
    replace HB := Lib.hid (bthen HB.out hb HB.out.size)
    clear hb HO2 HO4
    go_wp2_with fail
    refine (awake_any _).mono ?_
    rintro e w6 ⟨rfl, hb⟩
    go_wp2_with fail
    go_ret
    exact ⟨rfl, bthen (bthen HB.out (al w5 _) HB.out.size) hb (by have := HB.out.size; simp; omega)⟩
end Go.Proofs.Ytamcibmjpmibdaa
namespace Go.Proofs.Ytamcibmjpmibdaa
open Go.RowKit Go.ChangeShapes Go.WideShapes Go.Deep
set_option linter.unusedVariables false

theorem Reads.of_pr {w : World} {B n : Nat} {ad : Addr} {u v : Nat → Value} (hb : 0 < n → ad.block < B) (h : ∀ k, k < n → w.cell? (ad.add (k * 2)) = some (u k) ∧ w.cell? (ad.add (k * 2 + 1)) = some (v k)) : Reads w B 2 (some ad) n (pr2 u v n) := by
  refine ⟨pr2_length u v n, fun hn => ⟨ad, rfl, hb hn, fun j x hx => ?_⟩⟩
  have hj : j < n * 2 := by
    have := (List.getElem?_eq_some_iff.1 hx).1
    rw [pr2_length] at this; exact this
  obtain ⟨h1, h2⟩ := h (j / 2) (by omega)
  obtain ⟨g1, g2⟩ := pr2_at (u := u) (v := v) (show j / 2 < n by omega)
  have : j = j / 2 * 2 ∨ j = j / 2 * 2 + 1 := by omega
  rcases this with e | e
  · rw [← e] at h1 g1
    rw [g1] at hx
    injection hx with hx
    rw [← hx]; exact h1
  · rw [← e] at h2 g2
    rw [g2] at hx
    injection hx with hx
    rw [← hx]; exact h2
section
variable {H : Type} {enc : TypeId × Value → H} {w : World} {base : Nat} {spare : Nat → Bool} {held : Bool}
theorem open_smalls {fuel : Nat} {v : Value} {x : DataW H × List MemPlace} (h : DataW.trod enc Try.prog w base spare held fuel 22 [v] = some x) :
    ∃ (A : Option Addr) (len cap : Nat) (N : Nat → Int) (D : Nat → Nat), v = .slice A len cap ∧ Reads w w.heap.size 2 A len (smL N D len) ∧ SmB N D len ∧ ((x.1 = .nil ∧ len = 0) ∨ ∃ (E F : Nat → DataW H) (sp : List (DataW H)), x.1 = .slice ((List.range len).map fun i => .agg [E i, F i]) sp) := by
  rcases open_slice_pairs Try.underlying22 Try.underlying52 (by kernel_rfl) rfl rfl (by kernel_rfl) (by kernel_rfl) h with ⟨hcs, hx⟩ | ⟨a, len, cap, m, n, V0, V1, D0, D1, P0, P1, hcs, hb, hl, hm, hmm, hx, hc⟩
  · cases hcs
    exact ⟨none, 0, 0, fun _ => 0, fun _ => 0, rfl, Reads.none_, fun i hi => absurd hi (by omega), .inl ⟨by rw [hx], rfl⟩⟩
  · cases hcs
    have hlm : len ≤ m := by rw [hmm]; split <;> omega
    have each : ∀ i, i < len → ∃ z d : Int, V0 i = .int .i8 z ∧ V1 i = .int .u8 d ∧ (-128 ≤ z ∧ z ≤ 127) ∧ 0 ≤ d ∧ d ≤ 255 := by
      intro i hi
      obtain ⟨h1, h2, h3, h4⟩ := hc i (by omega)
      obtain ⟨z, f0, -, w0⟩ := DataW.trod_int Try.underlying50 h3
      obtain ⟨d, f1, -, w1⟩ := DataW.trod_int Try.underlying5 h4
      simp only [List.cons.injEq, and_true] at f0 f1
      have b0 := bounds_i8 w0
      have b1 := bounds_u8 w1
      exact ⟨z, d, f0, f1, by omega, by omega⟩
    refine ⟨some a, len, cap, fun i => intOf (V0 i), fun i => (intOf (V1 i)).toNat, rfl, ?_, fun i hi => ?_, .inr ⟨_, _, _, by rw [hx]⟩⟩
    · refine Reads.of_pr (fun hn => ?_) (fun k hk => ?_)
      · have := block_lt_of_cell (hc 0 (by omega)).1
        rwa [block_of_add] at this
      · obtain ⟨h1, h2, -, -⟩ := hc k (by omega)
        obtain ⟨z, d, e1, e2, -, b1⟩ := each k hk
        simp only [h1, h2, e1, e2, intOf]
        refine ⟨trivial, ?_⟩
        rw [Int.toNat_of_nonneg b1.1]
    · obtain ⟨z, d, e1, e2, b0, b1⟩ := each i hi
      simp only [e1, e2, intOf]
      omega
end
end Go.Proofs.Ytamcibmjpmibdaa
