/-
  rat.Parse.
-/
import Derived.Test.YtifnbpkcnkfanaaQText
import Derived.Lib.Bytealg
import Derived.Test.YtifnbpkcnkfanaaShelf
import Derived.Test.YtifnbpkcnkfanaaNParse
import Derived.Test.YtifnbpkcnkfanaaQW
namespace Go.Proofs.Ytifnbpkcnkfanaa
open Go.RowKit

/-- A minus in front. -/
def negL (L : List Nat) : Bool := nth L 0 == 45
/-- What is behind it. -/
def rL (L : List Nat) : List Nat := if negL L then L.drop 1 else L
/-- The place of the first slash, or the length. -/
def pL (L : List Nat) : Nat := (L.takeWhile (· != 47)).length
def hasL (L : List Nat) : Bool := decide (pL L < L.length)
def fL (L : List Nat) : List Nat := L.take (pL L)
def gL (L : List Nat) : List Nat := L.drop (pL L + 1)
theorem pL_le (L : List Nat) : pL L ≤ L.length := by
  unfold pL
  induction L with
  | nil => simp
  | cons b L ih =>
    rw [List.takeWhile_cons]
    split <;> simp
    exact ih
theorem pL_cons (b : Nat) (L : List Nat) : pL (b :: L) = if b = 47 then 0 else pL L + 1 := by
  unfold pL
  rw [List.takeWhile_cons]
  by_cases h : b = 47
  · simp [h]
  · simp [h]
theorem pL_none {L : List Nat} (h : ∀ b ∈ L, b ≠ 47) : pL L = L.length := by
  induction L with
  | nil => rfl
  | cons b L ih =>
    rw [pL_cons, if_neg (h b (by simp)), ih (fun x hx => h x (by simp [hx]))]; simp
theorem pL_at {A B : List Nat} (h : ∀ b ∈ A, b ≠ 47) : pL (A ++ 47 :: B) = A.length := by
  induction A with
  | nil => rw [List.nil_append, pL_cons, if_pos rfl]; rfl
  | cons b A ih =>
    rw [List.cons_append, pL_cons, if_neg (h b (by simp)), ih (fun x hx => h x (by simp [hx]))]; simp
theorem index_pos (l : List UInt8) : Lib.indexByte l 47 = if pL (l.map UInt8.toNat) < l.length then (pL (l.map UInt8.toNat) : Int) else -1 := by
  induction l with
  | nil => rfl
  | cons b l ih =>
    rw [Lib.indexByte, List.map_cons, pL_cons]
    by_cases h : b = 47
    · subst h; simp
    · have h1 : (b == 47) = false := by simpa using h
      have h2 : b.toNat ≠ 47 := fun h2 => h (UInt8.toNat_inj.1 h2)
      have h3 := pL_le (l.map UInt8.toNat)
      rw [List.length_map] at h3
      rw [h1, if_neg (by simp), if_neg h2, ih]
      by_cases h4 : pL (l.map UInt8.toNat) < l.length
      · rw [if_pos h4, if_neg (by simp), if_pos (by simp; omega)]; simp
      · rw [if_neg h4, if_pos (by simp), if_neg (by rw [List.length_cons]; omega)]
theorem bytes_extract (s : ByteArray) (a b : Nat) : bytesOf (s.extract a b) = ((bytesOf s).take b).drop a := by
  simp only [bytesOf, ByteArray.toList_eq]
  have : (s.extract a b).data.toList = (s.data.toList.take b).drop a := by
    rw [ByteArray.data_extract, Array.toList_extract]
    simp [List.extract_eq_take_drop, List.drop_take]
  rw [this, List.map_drop, List.map_take]
theorem bytes_append (s t : ByteArray) : bytesOf (s ++ t) = bytesOf s ++ bytesOf t := by
  simp [bytesOf, ByteArray.toList_eq]
/-- The digits. -/
def dT (n : Nat) : List Nat := bytesOf (decT n)
theorem dT_good (n : Nat) : PGood (dT n) := (text_good (dg_nrm n)).1
theorem dT_val (n : Nat) : dv (dT n) (dT n).length = n := (text_good (dg_nrm n)).2
theorem good_dT {l : List Nat} (h : PGood l) : dT (dv l l.length) = l := good_text h (dg_nrm _)
theorem good_range {l : List Nat} (h : PGood l) : ∀ b ∈ l, 48 ≤ b ∧ b ≤ 57 := by
  intro b hb
  obtain ⟨k, hk, rfl⟩ := List.getElem_of_mem hb
  have := h.2.1 k hk
  rwa [nth_eq hk] at this
theorem dT_inj {a b : Nat} (h : dT a = dT b) : a = b := by rw [← dT_val a, h, dT_val]
theorem bytes_strs2 (a b : ByteArray) : bytesOf (strs2 a b) = bytesOf a ++ 47 :: bytesOf b := by
  simp [bytesOf, strs2, ByteArray.toList_eq]
/-- The bytes of a text form. -/
def tB (s : Bool) (N : Nat) (o : Option Nat) : List Nat := (if s then [45] else []) ++ (dT N ++ match o with | none => [] | some M => 47 :: dT M)
theorem bytes_txt (x : Rat) : bytesOf (txt x) = tB (decide (x.num < 0)) x.num.natAbs (if x.den = 1 then none else some x.den) := by
  unfold txt tB
  rw [bytes_append]
  congr 1
  · cases decide (x.num < 0) <;> simp [sgT, bytesOf, ByteArray.toList_eq]
  · by_cases h : x.den = 1
    · rw [if_pos h, if_pos h]; simp [dT]
    · rw [if_neg h, if_neg h, bytes_strs2]; rfl
section
variable {s : Bool} {N : Nat} {o : Option Nat}
theorem dT_hd (N : Nat) (l : List Nat) : nth (dT N ++ l) 0 ≠ 45 := by
  have h := dT_good N
  have hl : 0 < (dT N).length := List.length_pos_iff.2 h.1
  have := h.2.1 0 hl
  have e : nth (dT N ++ l) 0 = nth (dT N) 0 := by simp [nth, List.getD, List.getElem?_append, hl]
  rw [e]; omega
theorem neg_tB : negL (tB s N o) = s := by
  unfold negL tB
  cases s
  · have := dT_hd N (match o with | none => [] | some M => 47 :: dT M)
    simpa using this
  · simp [nth]
theorem r_tB : rL (tB s N o) = dT N ++ match o with | none => [] | some M => 47 :: dT M := by
  unfold rL
  rw [neg_tB]
  cases s
  · simp [tB]
  · simp [tB]
theorem p_tB : pL (rL (tB s N o)) = (dT N).length := by
  rw [r_tB]
  have h : ∀ b ∈ dT N, b ≠ 47 := fun b hb => by have := good_range (dT_good N) b hb; omega
  cases o with
  | none => simp only [List.append_nil]; exact pL_none h
  | some M => exact pL_at h
theorem f_tB : fL (rL (tB s N o)) = dT N := by
  unfold fL
  rw [p_tB, r_tB]; simp
theorem has_tB : hasL (rL (tB s N o)) = o.isSome := by
  unfold hasL
  rw [p_tB, r_tB]
  cases o <;> simp
theorem g_tB : gL (rL (tB s N o)) = match o with | none => [] | some M => dT M := by
  unfold gL
  rw [p_tB, r_tB]
  cases o with
  | none => simp
  | some M => simp [List.drop_append]
end
/-- A text is its parts. -/
theorem split_r (L : List Nat) : L = (if negL L then [45] else []) ++ rL L := by
  unfold rL
  cases h : negL L with
  | false => simp
  | true =>
    cases L with
    | nil => simp [negL, nth] at h
    | cons b L => simp [negL, nth] at h; simp [h]
theorem split_p (L : List Nat) : L = fL L ++ if hasL L then 47 :: gL L else [] := by
  unfold fL gL hasL
  induction L with
  | nil => rfl
  | cons b L ih =>
    rw [pL_cons]
    by_cases h : b = 47
    · simp [h]
    · rw [if_neg h]
      simp only [List.take_succ_cons, List.cons_append, List.length_cons, Nat.add_lt_add_iff_right, List.drop_succ_cons]
      rw [← ih]

/-- The value of digits. -/
def dw (l : List Nat) : Nat := dv l l.length
/-- What rat.Parse reads. -/
def PVal (L : List Nat) : Rat := qv (negL L) (dw (fL (rL L))) (if hasL (rL L) then dw (gL (rL L)) else 0)
def PLong (L : List Nat) : Prop := 1200 < (fL (rL L)).length ∨ 1200 < (gL (rL L)).length
/-- What it accepts. -/
def POk (L : List Nat) : Prop := PGood (fL (rL L)) ∧ (hasL (rL L) = true → PGood (gL (rL L))) ∧ bytesOf (txt (PVal L)) = L
/-- A text form is accepted, with its value. -/
theorem ok_txt (x : Rat) : POk (bytesOf (txt x)) ∧ PVal (bytesOf (txt x)) = x := by
  have hv : PVal (bytesOf (txt x)) = x := by
    rw [bytes_txt]
    unfold PVal
    rw [neg_tB, f_tB, has_tB, g_tB]
    have e1 : dw (dT x.num.natAbs) = x.num.natAbs := dT_val _
    rw [e1]
    by_cases h : x.den = 1
    · rw [if_pos h]
      simp only [Option.isSome_none, Bool.false_eq_true, if_false]
      have := qv_self x
      rw [h, ← qv_den0] at this
      exact this
    · rw [if_neg h]
      simp only [Option.isSome_some, if_true]
      have e2 : dw (dT x.den) = x.den := dT_val _
      rw [e2]; exact qv_self x
  refine ⟨⟨?_, ?_, by rw [hv]⟩, hv⟩
  · rw [bytes_txt, f_tB]; exact dT_good _
  · rw [bytes_txt, g_tB, has_tB]
    by_cases h : x.den = 1
    · rw [if_pos h]; intro h; simp at h
    · rw [if_neg h]; intro _; exact dT_good _
theorem long_txt {x : Rat} (h1 : (dT x.num.natAbs).length ≤ 1200) (h2 : (dT x.den).length ≤ 1200) : ¬ PLong (bytesOf (txt x)) := by
  unfold PLong
  rw [bytes_txt, f_tB, g_tB]
  by_cases h : x.den = 1
  · rw [if_pos h]; simp; omega
  · rw [if_neg h]; simp; omega
/-- What is accepted, said of the parts alone. -/
theorem ok_iff (L : List Nat) : POk L ↔ PGood (fL (rL L)) ∧ (hasL (rL L) = true → PGood (gL (rL L)) ∧ dw (gL (rL L)) ≠ 0 ∧ dw (gL (rL L)) ≠ 1) ∧ (negL L = true → dw (fL (rL L)) ≠ 0) ∧
    (hasL (rL L) = true → Nat.gcd (dw (fL (rL L))) (dw (gL (rL L))) = 1) := by
  obtain ⟨neg, hneg⟩ : ∃ b, b = negL L := ⟨_, rfl⟩
  obtain ⟨R, hR⟩ : ∃ R, R = rL L := ⟨_, rfl⟩
  have hL := split_r L
  have hRs := split_p R
  rw [← hneg, ← hR] at hL
  unfold POk PVal
  rw [← hneg, ← hR]
  obtain ⟨F, hF⟩ : ∃ F, F = fL R := ⟨_, rfl⟩
  obtain ⟨G, hG⟩ : ∃ G, G = gL R := ⟨_, rfl⟩
  obtain ⟨hs, hhs⟩ : ∃ b, b = hasL R := ⟨_, rfl⟩
  rw [← hF, ← hG, ← hhs]
  rw [← hF, ← hG, ← hhs] at hRs
  constructor
  · rintro ⟨h1, h2, h3⟩
    obtain ⟨x, hx⟩ : ∃ x, x = qv neg (dw F) (if hs = true then dw G else 0) := ⟨_, rfl⟩
    rw [← hx] at h3
    rw [bytes_txt] at h3
    have e1 : decide (x.num < 0) = neg := by rw [hneg, ← h3, neg_tB]
    have e2 : dT x.num.natAbs = F := by rw [hF, hR, ← h3, f_tB]
    have e3 : (if x.den = 1 then none else some x.den : Option Nat).isSome = hs := by rw [hhs, hR, ← h3, has_tB]
    have e4 : (match (if x.den = 1 then none else some x.den : Option Nat) with | none => [] | some M => dT M) = G := by rw [hG, hR, ← h3, g_tB]
    have d1 : dw F = x.num.natAbs := by rw [← e2]; exact dT_val _
    refine ⟨h1, fun hh => ?_, fun hn => ?_, fun hh => ?_⟩
    · rw [hh] at e3
      by_cases hd : x.den = 1
      · rw [if_pos hd] at e3; cases e3
      · rw [if_neg hd] at e4
        have d2 : dw G = x.den := by rw [← e4]; exact dT_val _
        refine ⟨h2 hh, ?_, ?_⟩
        · rw [d2]; exact x.den_nz
        · rw [d2]; exact hd
    · rw [hn] at e1
      have := of_decide_eq_true e1
      rw [d1]; omega
    · rw [hh] at e3
      by_cases hd : x.den = 1
      · rw [if_pos hd] at e3; cases e3
      · rw [if_neg hd] at e4
        have d2 : dw G = x.den := by rw [← e4]; exact dT_val _
        rw [d1, d2]; exact x.reduced
  · rintro ⟨h1, h2, h3, h4⟩
    refine ⟨h1, fun hh => (h2 hh).1, ?_⟩
    have e2 : dT (dw F) = F := good_dT h1
    rw [bytes_txt]
    have hx : decide ((qv neg (dw F) (if hs = true then dw G else 0)).num < 0) = neg ∧ (qv neg (dw F) (if hs = true then dw G else 0)).num.natAbs = dw F ∧ (if (qv neg (dw F) (if hs = true then dw G else 0)).den = 1 then none else some (qv neg (dw F) (if hs = true then dw G else 0)).den : Option Nat) = if hs = true then some (dw G) else none := by
      cases hs with
      | true =>
        obtain ⟨_, g0, g1⟩ := h2 rfl
        have hg := h4 rfl
        simp only [if_true]
        refine ⟨?_, by rw [qv_abs g0, hg, Nat.div_one], ?_⟩
        · rcases Nat.eq_zero_or_pos (dw F) with h0 | h0
          · rw [h0]
            cases neg with
            | false => rw [qv_zero]; rfl
            | true => exact absurd h0 (h3 rfl)
          · exact qv_neg g0 (by omega)
        · rw [qv_den g0, hg, Nat.div_one, if_neg g1]
      | false =>
        simp only [Bool.false_eq_true, if_false]
        rw [qv_den0]
        refine ⟨?_, by rw [qv_abs (by omega), Nat.gcd_one_right, Nat.div_one], ?_⟩
        · rcases Nat.eq_zero_or_pos (dw F) with h0 | h0
          · rw [h0]
            cases neg with
            | false => rw [qv_zero]; rfl
            | true => exact absurd h0 (h3 rfl)
          · exact qv_neg (by omega) (by omega)
        · rw [qv_den (by omega), Nat.gcd_one_right]; rfl
    rw [hx.1, hx.2.1, hx.2.2]
    unfold tB
    rw [e2]
    conv => rhs; rw [hL, hRs]
    cases hs with
    | true =>
      have e3 : dT (dw G) = G := good_dT (h2 rfl).1
      simp [e3]
    | false => simp
end Go.Proofs.Ytifnbpkcnkfanaa
namespace Go.Proofs.Ytifnbpkcnkfanaa
open Go.RowKit

def minus : ByteArray := ⟨#[45]⟩
def slash : ByteArray := ⟨#[47]⟩
theorem ext_bytes {s : ByteArray} (h : 0 < s.size) : bytesOf (s.extract 0 1) = [nth (bytesOf s) 0] := by
  rw [bytes_extract]
  have hl := bytes_length s
  match hb : bytesOf s with
  | [] => rw [hb] at hl; simp at hl; omega
  | b :: l => simp [nth]
theorem ext_minus {s : ByteArray} (h : 0 < s.size) : ((s.extract 0 1).toList == [45]) = negL (bytesOf s) := by
  have h1 := ext_bytes h
  have h2 : bytesOf ⟨#[45]⟩ = [45] := by simp [bytesOf, ByteArray.toList_eq]
  rw [Bool.eq_iff_iff, beq_iff_eq, negL, beq_iff_eq]
  constructor
  · intro e
    have e2 : s.extract 0 1 = ⟨#[45]⟩ := by
      apply bytes_inj
      rw [bytesOf, e, h2]; rfl
    rw [e2, h2] at h1
    simpa using h1.symm
  · intro e
    rw [e] at h1
    have e2 : s.extract 0 1 = ⟨#[45]⟩ := bytes_inj (by rw [h1, h2])
    rw [e2]; simp [ByteArray.toList_eq]
set_option maxHeartbeats 400000 in
theorem hasprefix_any (s : ByteArray) (hs : s.size ≤ 9223372036854775807) (w : World) : Calls Try.prog 79 #[.string s, .string ⟨#[45]⟩] w fun e w' => e = .returned (.bool (negL (bytesOf s))) ∧ w = w' := by
  by_cases h0 : 0 < s.size
  · have t1 : decide ((1 : Int) ≤ (s.size : Int)) = true := by simp; omega
    have t2 := ext_minus h0
    go_enter Try.func79, Try.ntmps79
    go_wp2_with fail
    go_ret
    exact ⟨rfl, rfl⟩
  · have h1 : s.size = 0 := by omega
    have hn : bytesOf s = [] := List.eq_nil_of_length_eq_zero (by rw [bytes_length]; exact h1)
    have HN := Lib.hid (show negL (bytesOf s) = false by rw [hn]; rfl)
    have t1 : decide ((1 : Int) ≤ (s.size : Int)) = false := by simp; omega
    clear hn h1
    go_enter Try.func79, Try.ntmps79
    go_wp2_with fail
    go_ret
    exact ⟨by rw [HN.out]; rfl, rfl⟩
/-- What is behind the sign. -/
def restS (s : ByteArray) : ByteArray := if negL (bytesOf s) then s.extract 1 s.size else s
theorem restS_bytes (s : ByteArray) : bytesOf (restS s) = rL (bytesOf s) := by
  unfold restS rL
  split
  · rw [bytes_extract, List.take_of_length_le (by rw [bytes_length]; omega)]
  · rfl
theorem neg_pos {s : ByteArray} (h : negL (bytesOf s) = true) : 1 ≤ s.size := by
  rcases Nat.eq_zero_or_pos s.size with h0 | h0
  · have hn : bytesOf s = [] := List.eq_nil_of_length_eq_zero (by rw [bytes_length]; exact h0)
    rw [hn] at h; cases h
  · exact h0
set_option maxHeartbeats 400000 in
theorem lcutprefix_any (s : ByteArray) (hs : s.size ≤ 9223372036854775807) (w : World) : Calls Try.prog 68 #[.string s, .string ⟨#[45]⟩] w fun e w' => e = .returned (.tuple #[.string (restS s), .bool (negL (bytesOf s))]) ∧ w = w' := by
  by_cases h : negL (bytesOf s) = true
  · have h1 := neg_pos h
    have HR := Lib.hid (show restS s = s.extract 1 s.size by rw [restS, if_pos h])
    go_enter Try.func68, Try.ntmps68
    go_wp2_with fail
    refine (hasprefix_any s hs _).mono ?_
    rintro e w' ⟨rfl, rfl⟩
    rw [h]
    go_wp2_with fail
    go_ret2
    exact ⟨by rw [HR.out, h]; rfl, rfl⟩
  · have h : negL (bytesOf s) = false := by simpa using h
    have HR := Lib.hid (show restS s = s by rw [restS, h]; rfl)
    go_enter Try.func68, Try.ntmps68
    go_wp2_with fail
    refine (hasprefix_any s hs _).mono ?_
    rintro e w' ⟨rfl, rfl⟩
    rw [h]
    go_wp2_with fail
    go_ret2
    exact ⟨by rw [HR.out, h]; rfl, rfl⟩
set_option maxHeartbeats 400000 in
theorem cutprefix_any (s : ByteArray) (hs : s.size ≤ 9223372036854775807) (w : World) : Calls Try.prog 53 #[.string s, .string ⟨#[45]⟩] w fun e w' => e = .returned (.tuple #[.string (restS s), .bool (negL (bytesOf s))]) ∧ w = w' := by
  go_enter Try.func53, Try.ntmps53
  go_wp2_with fail
  refine (lcutprefix_any s hs _).mono ?_
  rintro e w' ⟨rfl, rfl⟩
  go_wp2_with fail
  go_ret2
  exact ⟨rfl, rfl⟩

/-- The part before the slash, and the one behind it. -/
def fS (s : ByteArray) : ByteArray := if hasL (bytesOf s) then s.extract 0 (pL (bytesOf s)) else s
def gS (s : ByteArray) : ByteArray := if hasL (bytesOf s) then s.extract (pL (bytesOf s) + 1) s.size else ⟨#[]⟩
theorem has_lt {L : List Nat} (h : hasL L = true) : pL L < L.length := of_decide_eq_true h
theorem fS_bytes (s : ByteArray) : bytesOf (fS s) = fL (bytesOf s) := by
  unfold fS fL
  split
  · rw [bytes_extract]; simp
  · rename_i h
    have : ¬ pL (bytesOf s) < (bytesOf s).length := fun h1 => h (decide_eq_true h1)
    rw [List.take_of_length_le (by omega)]
theorem gS_bytes (s : ByteArray) : bytesOf (gS s) = gL (bytesOf s) := by
  unfold gS gL
  split
  · rw [bytes_extract, List.take_of_length_le (by rw [bytes_length]; omega)]
  · rename_i h
    have : ¬ pL (bytesOf s) < (bytesOf s).length := fun h1 => h (decide_eq_true h1)
    rw [List.drop_eq_nil_of_le (by omega)]; simp [bytesOf, ByteArray.toList_eq]
theorem index_bytes (s : ByteArray) : Lib.indexByte s.data.toList 47 = if hasL (bytesOf s) then (pL (bytesOf s) : Int) else -1 := by
  have e : s.data.toList.map UInt8.toNat = bytesOf s := by rw [bytesOf, ByteArray.toList_eq]
  have e2 : s.data.toList.length = (bytesOf s).length := by rw [← e, List.length_map]
  rw [index_pos, e, e2, hasL]
  simp
set_option maxHeartbeats 800000 in
theorem lcut_any (s : ByteArray) (hs : s.size ≤ 1000000000) (w : World) : Calls Try.prog 69 #[.string s, .string ⟨#[47]⟩] w fun e w' => e = .returned (.tuple #[.string (fS s), .string (gS s), .bool (hasL (bytesOf s))]) ∧ Below w.heap.size w w' := by
  have hl := bytes_length s
  have HI := Lib.hid (index_bytes s)
  by_cases h : hasL (bytesOf s) = true
  · have h1 := has_lt h
    have HF := Lib.hid (show fS s = s.extract 0 (pL (bytesOf s)) by rw [fS, if_pos h])
    have HG := Lib.hid (show gS s = s.extract (pL (bytesOf s) + 1) s.size by rw [gS, if_pos h])
    have HH := Lib.hid h; clear h
    rw [hl] at h1
    have HL := Lib.hid hl; clear hl
    rw [HH.out] at HI ⊢
    generalize pL (bytesOf s) = k at *
    go_enter Try.func69, Try.ntmps69
    go_wp2_with fail
    refine (Try.stringslite_Index_one s 47 _).mono ?_
    rintro e w' ⟨rfl, rfl⟩
    rw [HI.out, if_pos trivial]
    have t1 : decide ((0 : Int) ≤ (k : Int)) = true := by simp
    go_wp2_with fail
    go_quiet (fail)
    go_wp2_with fail
    go_ret3
    exact ⟨by rw [HF.out, HG.out]; rfl, below_drewN (Below.refl _ _) _⟩
  · have h : hasL (bytesOf s) = false := by simpa using h
    have HF := Lib.hid (show fS s = s by rw [fS, h]; rfl)
    have HG := Lib.hid (show gS s = ⟨#[]⟩ by rw [gS, h]; rfl)
    have HH := Lib.hid h; clear h
    have HL := Lib.hid hl; clear hl
    rw [HH.out] at HI ⊢
    go_enter Try.func69, Try.ntmps69
    go_wp2_with fail
    refine (Try.stringslite_Index_one s 47 _).mono ?_
    rintro e w' ⟨rfl, rfl⟩
    rw [HI.out, if_neg (by simp)]
    go_wp2_with fail
    go_ret3
    exact ⟨by rw [HF.out, HG.out]; rfl, Below.refl _ _⟩
set_option maxHeartbeats 400000 in
theorem cut_any (s : ByteArray) (hs : s.size ≤ 1000000000) (w : World) : Calls Try.prog 54 #[.string s, .string ⟨#[47]⟩] w fun e w' => e = .returned (.tuple #[.string (fS s), .string (gS s), .bool (hasL (bytesOf s))]) ∧ Below w.heap.size w w' := by
  go_enter Try.func54, Try.ntmps54
  go_wp2_with fail
  refine (lcut_any s hs _).mono ?_
  rintro e w' ⟨rfl, hb⟩
  have HB := Lib.hid hb; clear hb
  go_wp2_with fail
  go_ret3
  exact ⟨rfl, HB.out⟩
end Go.Proofs.Ytifnbpkcnkfanaa
namespace Go.Proofs.Ytifnbpkcnkfanaa
open Go.RowKit
set_option linter.unusedSimpArgs false

def zeroR : Value := .agg #[.bool false, .slice none 0 0, .slice none 0 0]
/-- What rat.Parse answers. -/
def RetQP (w : World) (L : List Nat) (e : Ending) (w' : World) : Prop :=
  Below w.heap.size w w' ∧ (PLong L → e = .returned (.tuple #[zeroR, .int .i64 13])) ∧ (¬ PLong L → ¬ POk L → e = .returned (.tuple #[zeroR, .int .i64 15])) ∧
  (¬ PLong L → POk L → ∃ v, e = .returned (.tuple #[v, .int .i64 0]) ∧ Rv 1201 (PVal L) v w')
theorem fS_size (s : ByteArray) : (fS s).size = (fL (bytesOf s)).length := by rw [← fS_bytes, bytes_length]
theorem gS_size (s : ByteArray) : (gS s).size = (gL (bytesOf s)).length := by rw [← gS_bytes, bytes_length]
theorem rL_length (L : List Nat) : (rL L).length ≤ L.length := by unfold rL; split <;> simp
theorem fL_length (L : List Nat) : (fL L).length ≤ L.length := by unfold fL; simp; omega
theorem gL_length (L : List Nat) : (gL L).length ≤ L.length := by unfold gL; simp
theorem gL_none {L : List Nat} (h : hasL L = false) : gL L = [] := by
  unfold gL
  have : ¬ pL L < L.length := fun h1 => by rw [hasL, decide_eq_true h1] at h; cases h
  exact List.drop_eq_nil_of_le (by omega)

section
variable {w : World} {g h : Nat} {t : TypeId} {x y z : Value}
theorem TB.far {p : Addr} (hT : TB w h t x y z) (hne : h ≠ p.block) (u : Value) : TB (w.setCell p u) h t x y z := hT.blk.far hne u
theorem TB.set1 (hT : TB w g t x y z) (u : Value) : TB (w.setCell ⟨g, 1, none⟩ u) g t x u z := hT.blk.set_ 1 u
theorem TB.set2 (hT : TB w g t x y z) (u : Value) : TB (w.setCell ⟨g, 2, none⟩ u) g t x y u := hT.blk.set_ 2 u
theorem Num.far {A : Option Addr} {k c b N : Nat} (h : Num w A k c b N) {p : Addr} {v : Value} (hc : w.cell? p = some v) (hv : ∀ z, v ≠ .int .u32 z) (u : Value) : Num (w.setCell p u) A k c b N := by
  obtain ⟨h1, h2, h3, h4, l, h5, h6⟩ := h
  exact ⟨h1, h2, h3, h4, l, by rw [size_setCell]; exact h5.far hc hv u, h6⟩
end
theorem str_eq {a b : ByteArray} (h : a = b) : (a.toList == b.toList) = true := by simp [h]
theorem str_ne {a b : ByteArray} (h : a ≠ b) : (a.toList == b.toList) = false := by
  have : a.toList ≠ b.toList := fun h2 => h (bytes_inj (by rw [bytesOf, bytesOf, h2]))
  simpa using this

set_option maxRecDepth 100000 in
set_option maxHeartbeats 2000000 in
theorem qparse_any (s : ByteArray) (hs : s.size ≤ 1000000000) (w : World) : Calls Try.prog 33 #[.string s] w (RetQP w (bytesOf s)) := by
  obtain ⟨L, hL⟩ : ∃ L, L = bytesOf s := ⟨_, rfl⟩
  have hrs := restS_bytes s
  have hz : (restS s).size ≤ 1000000000 := by
    rw [← bytes_length, hrs]; have := rL_length (bytesOf s); rw [bytes_length] at this; omega
  have hf := fS_bytes (restS s)
  have hg := gS_bytes (restS s)
  have hfz := fS_size (restS s)
  have hgz := gS_size (restS s)
  have HC := Lib.hid (cut_any (restS s) hz)
  rw [hrs] at hf hg hfz hgz HC
  rw [← hL] at hf hg hfz hgz HC ⊢
  have hfl := fL_length (rL L)
  have hgl := gL_length (rL L)
  have hrl := rL_length L
  rw [hL, bytes_length, ← hL] at hrl
  have HP := Lib.hid (cutprefix_any s (by omega))
  rw [← hL] at HP
  have HF := Lib.hid hf; have HG := Lib.hid hg; have HS := Lib.hid hL; clear hf hg hL hrs hz
  generalize fS (restS s) = S1 at *
  generalize gS (restS s) = S2 at *
  generalize restS s = S0 at *
  obtain ⟨neg, hneg⟩ : ∃ b, b = negL L := ⟨_, rfl⟩
  obtain ⟨hs2, hhs⟩ : ∃ b, b = hasL (rL L) := ⟨_, rfl⟩
  rw [← hneg] at HP
  rw [← hhs] at HC
  have HN := Lib.hid hneg; have HH := Lib.hid hhs; clear hneg hhs
  go_enter Try.func33, Try.ntmps33
  go_wp2_with fail
  refine (HP.out _).mono ?_
  rintro e w1 ⟨rfl, rfl⟩
  go_wp2_with fail
  refine (HC.out _).mono ?_
  rintro e w2 ⟨rfl, hb⟩
  have hT := (TB.made w 29 (.bool false) (.slice none 0 0) (.slice none 0 0)).new hb
  have HW := Lib.hid (bthen (al w _) hb (al w _).size); clear hb HP HC
  have T2 := Lib.hid hT; clear hT
  have r0 := T2.out.c0; have r1 := T2.out.c1; have r2 := T2.out.c2; have f0 := T2.out.f0; have f1 := T2.out.f1; have f2 := T2.out.f2
  by_cases l1 : 1200 < S1.size
  · have HLG := Lib.hid (show PLong L from .inl (by omega))
    have t1 : decide ((1200 : Int) < (S1.size : Int)) = true := by simp; omega
    clear hfl hgl hrl hfz hgz
    go_wp2_with fail
    refine bodyPost_ret (v := .tuple #[.agg #[.bool false, .slice none 0 0, .slice none 0 0], .int .i64 13]) ?_ rfl ⟨below_store3 HW.out (Nat.le_refl _) _ _ _, fun _ => rfl, fun h => absurd HLG.out h, fun h => absurd HLG.out h⟩
    exact results_cell_tmp Try.results33 _ _ _ _ _ (0, 0) _ rfl (T2.out.set3 _ _ _) Try.underlying29 rfl rfl
  have t1 : decide ((1200 : Int) < (S1.size : Int)) = false := by simp; omega
  by_cases l2 : 1200 < S2.size
  · have HLG := Lib.hid (show PLong L from .inr (by omega))
    have t2 : decide ((1200 : Int) < (S2.size : Int)) = true := by simp; omega
    clear hfl hgl hrl hfz hgz
    go_wp2_with fail
    refine bodyPost_ret (v := .tuple #[.agg #[.bool false, .slice none 0 0, .slice none 0 0], .int .i64 13]) ?_ rfl ⟨below_store3 HW.out (Nat.le_refl _) _ _ _, fun _ => rfl, fun h => absurd HLG.out h, fun h => absurd HLG.out h⟩
    exact results_cell_tmp Try.results33 _ _ _ _ _ (0, 0) _ rfl (T2.out.set3 _ _ _) Try.underlying29 rfl rfl
  have t2 : decide ((1200 : Int) < (S2.size : Int)) = false := by simp; omega
  have HNL := Lib.hid (show ¬ PLong L from fun h => by rcases h with h | h <;> omega)
  have HP1 := Lib.hid (fun W => parse_any S1 W (by omega)); have HP2 := Lib.hid (fun W => parse_any S2 W (by omega))
  clear hfl hgl hrl hfz hgz
  go_upto_region 7 with (fail)
  have hT9 := TB.made w2 29 (.bool neg) (.slice none 0 0) (.slice none 0 0)
  have hA := al w2 (.cells #[.bool neg, .slice none 0 0, .slice none 0 0] 29)
  generalize w2.alloc (.cells #[.bool neg, .slice none 0 0, .slice none 0 0] 29) = w3 at hT9 hA ⊢
  have HNE := Lib.hid (show w.heap.size ≠ w2.heap.size by have := T2.out.lt; omega)
  have HLE := Lib.hid (show w.heap.size ≤ w2.heap.size by have := T2.out.lt; omega)
  replace T2 := Lib.hid (T2.out.new hA); replace HW := Lib.hid (bthen HW.out hA HW.out.size)
  have T9 := Lib.hid hT9; clear hA hT9 r0 r1 r2 f0 f1 f2
  have LS1 := Lib.hid (show (bytesOf S1).length ≤ 1200 by rw [bytes_length]; omega)
  have LS2 := Lib.hid (show (bytesOf S2).length ≤ 1200 by rw [bytes_length]; omega)
  go_wp2_with fail
  refine (HP1.out _).mono ?_
  rintro e w4 hp
  by_cases hgf : PGood (fL (rL L))
  case neg =>
    have HBAD := Lib.hid (show ¬ POk L from fun h => hgf h.1)
    obtain ⟨rfl, hb⟩ := hp.2.1 LS1.out (by rw [HF.out]; exact hgf)
    replace T2 := Lib.hid ((T2.out.new hb).far HNE.out (.slice none 0 0) (p := ⟨w2.heap.size, 1, none⟩))
    replace HW := Lib.hid ((bthen HW.out hb HW.out.size).setCell (p := ⟨w2.heap.size, 1, none⟩) HLE.out (.slice none 0 0))
    have q1 := (T9.out.new hb).c1; have g1 := (T9.out.new hb).f1; have lq := (T9.out.new hb).lt
    clear hp hb hgf HP1 HP2
    go_upto_region 8 with (fail)
    generalize w4.setCell ⟨w2.heap.size, 1, none⟩ (.slice none 0 0) = w5 at T2 HW ⊢
    clear q1 g1 lq
    have r0 := T2.out.c0; have r1 := T2.out.c1; have r2 := T2.out.c2; have f0 := T2.out.f0; have f1 := T2.out.f1; have f2 := T2.out.f2
    go_wp2_with fail
    refine bodyPost_ret (v := .tuple #[.agg #[.bool false, .slice none 0 0, .slice none 0 0], .int .i64 15]) ?_ rfl ⟨below_store3 HW.out (Nat.le_refl _) _ _ _, fun h => absurd h HNL.out, fun _ _ => rfl, fun _ h => absurd h HBAD.out⟩
    exact results_cell_tmp Try.results33 _ _ _ _ _ (0, 0) _ rfl (T2.out.set3 _ _ _) Try.underlying29 rfl rfl
  obtain ⟨A, k, c, rfl, hnum, hnorm, hb⟩ := hp.2.2 LS1.out (by rw [HF.out]; exact hgf)
  rw [HF.out] at hnum
  have HGF := Lib.hid hgf
  replace T2 := Lib.hid ((T2.out.new hb).far HNE.out (.slice A k c) (p := ⟨w2.heap.size, 1, none⟩))
  replace HW := Lib.hid ((bthen HW.out hb HW.out.size).setCell (p := ⟨w2.heap.size, 1, none⟩) HLE.out (.slice A k c))
  have q1 := (T9.out.new hb).c1; have g1 := (T9.out.new hb).f1; have lq := (T9.out.new hb).lt
  have NA := Lib.hid (hnum.far (T9.out.new hb).c1 (by simp) (.slice A k c))
  replace T9 := Lib.hid ((T9.out.new hb).set1 (.slice A k c))
  clear hp hb hgf HP1 hnum hnorm
  go_upto_region 8 with (fail)
  generalize w4.setCell ⟨w2.heap.size, 1, none⟩ (.slice A k c) = w5 at T2 HW NA T9 ⊢
  clear q1 g1 lq
  cases hs2
  case false =>
    have HV := Lib.hid (show PVal L = qv neg (dw (fL (rL L))) 0 by rw [PVal, ← HN.out, ← HH.out]; rfl)
    have HGG := Lib.hid (show hasL (rL L) = true → PGood (gL (rL L)) from fun h => by rw [← HH.out] at h; cases h)
    have RA := Lib.hid (show Ra w5 neg A k c none 0 0 1201 (PVal L) from ⟨_, 0, NA.out, nil_num' _ _ (by omega), HV.out⟩)
    clear NA HP2
    have q0 := T9.out.c0; have q1 := T9.out.c1; have q2 := T9.out.c2; have g0 := T9.out.f0; have g1 := T9.out.f1; have g2 := T9.out.f2
    go_wp2_with fail
    refine (qnorm_any RA.out (by omega)).mono ?_
    rintro e w7 ⟨s7, A7, n7, c7, B7, m7, d7, rfl, h7, hb⟩
    have U9 := T9.out.new hb
    have H7 := Lib.hid (h7.store3 U9 (.bool s7) (.slice A7 n7 c7) (.slice B7 m7 d7))
    have V9 : Hid (TB _ _ _ _ _ _) := Lib.hid (U9.set3 (.bool s7) (.slice A7 n7 c7) (.slice B7 m7 d7))
    replace T2 := Lib.hid ((T2.out.new hb).far3 HNE.out (.bool s7) (.slice A7 n7 c7) (.slice B7 m7 d7))
    replace HW := Lib.hid (below_store3 (bthen HW.out hb HW.out.size) HLE.out (.bool s7) (.slice A7 n7 c7) (.slice B7 m7 d7))
    clear q0 q1 q2 g0 g1 g2
    have e0 := U9.c0; have e1 := U9.c1; have e2 := U9.c2; have g0 := U9.f0; have g1 := U9.f1; have g2 := U9.f2
    clear h7 hb U9 T9 RA
    go_upto_region 15 with (fail)
    generalize ((w7.setCell ⟨w2.heap.size, 0, none⟩ (.bool s7)).setCell ⟨w2.heap.size, 1, none⟩ (.slice A7 n7 c7)).setCell ⟨w2.heap.size, 2, none⟩ (.slice B7 m7 d7) = w8 at H7 V9 T2 HW ⊢
    clear e0 e1 e2 g0 g1 g2
    have q0 := V9.out.c0; have q1 := V9.out.c1; have q2 := V9.out.c2
    go_wp2_with fail
    refine (qtext_any H7.out.ra (by omega)).mono ?_
    rintro e w9 ⟨rfl, hb⟩
    replace V9 := Lib.hid (V9.out.new hb); replace T2 := Lib.hid (T2.out.new hb); replace HW := Lib.hid (bthen HW.out hb HW.out.size); replace H7 := Lib.hid (H7.out.new hb)
    clear hb q0 q1 q2
    have q0 := V9.out.c0; have q1 := V9.out.c1; have q2 := V9.out.c2
    have r0 := T2.out.c0; have r1 := T2.out.c1; have r2 := T2.out.c2; have f0 := T2.out.f0; have f1 := T2.out.f1; have f2 := T2.out.f2
    by_cases hok : txt (PVal L) = s
    · have HOK := Lib.hid (show POk L from ⟨HGF.out, HGG.out, by rw [hok, HS.out]⟩)
      have t5 := str_eq hok
      clear hok
      have R7 := Lib.hid (H7.out.store3 T2.out (.bool s7) (.slice A7 n7 c7) (.slice B7 m7 d7))
      go_wp2_with fail
      refine bodyPost_ret (v := .tuple #[.agg #[.bool s7, .slice A7 n7 c7, .slice B7 m7 d7], .int .i64 0]) ?_ rfl ⟨below_store3 HW.out (Nat.le_refl _) _ _ _, fun h => absurd h HNL.out, fun _ h => absurd HOK.out h, fun _ _ => ⟨_, rfl, s7, A7, n7, c7, B7, m7, d7, rfl, R7.out⟩⟩
      exact results_cell_tmp Try.results33 _ _ _ _ _ (0, 0) _ rfl (T2.out.set3 _ _ _) Try.underlying29 rfl rfl
    · have HBAD := Lib.hid (show ¬ POk L from fun h => hok (bytes_inj (by rw [h.2.2, HS.out])))
      have t5 := str_ne hok
      clear hok
      go_wp2_with fail
      refine bodyPost_ret (v := .tuple #[.agg #[.bool false, .slice none 0 0, .slice none 0 0], .int .i64 15]) ?_ rfl ⟨below_store3 HW.out (Nat.le_refl _) _ _ _, fun h => absurd h HNL.out, fun _ _ => rfl, fun _ h => absurd h HBAD.out⟩
      exact results_cell_tmp Try.results33 _ _ _ _ _ (0, 0) _ rfl (T2.out.set3 _ _ _) Try.underlying29 rfl rfl
  case true =>
    have q2 := T9.out.c2; have g2 := T9.out.f2
    go_wp2_with fail
    refine (HP2.out _).mono ?_
    rintro e w6 hp
    by_cases hgg : PGood (gL (rL L))
    case neg =>
      have HBAD := Lib.hid (show ¬ POk L from fun h => hgg (h.2.1 HH.out.symm))
      obtain ⟨rfl, hb⟩ := hp.2.1 LS2.out (by rw [HG.out]; exact hgg)
      replace T2 := Lib.hid ((T2.out.new hb).far HNE.out (.slice none 0 0) (p := ⟨w2.heap.size, 2, none⟩))
      replace HW := Lib.hid ((bthen HW.out hb HW.out.size).setCell (p := ⟨w2.heap.size, 2, none⟩) HLE.out (.slice none 0 0))
      have q1 := (T9.out.new hb).c2; have g1 := (T9.out.new hb).f2; have lq := (T9.out.new hb).lt
      clear hp hb hgg HP2 q2 g2
      go_upto_region 12 with (fail)
      generalize w6.setCell ⟨w2.heap.size, 2, none⟩ (.slice none 0 0) = w7 at T2 HW ⊢
      clear q1 g1 lq
      have r0 := T2.out.c0; have r1 := T2.out.c1; have r2 := T2.out.c2; have f0 := T2.out.f0; have f1 := T2.out.f1; have f2 := T2.out.f2
      go_wp2_with fail
      refine bodyPost_ret (v := .tuple #[.agg #[.bool false, .slice none 0 0, .slice none 0 0], .int .i64 15]) ?_ rfl ⟨below_store3 HW.out (Nat.le_refl _) _ _ _, fun h => absurd h HNL.out, fun _ _ => rfl, fun _ h => absurd h HBAD.out⟩
      exact results_cell_tmp Try.results33 _ _ _ _ _ (0, 0) _ rfl (T2.out.set3 _ _ _) Try.underlying29 rfl rfl
    obtain ⟨A', k', c', rfl, hnum, hnorm, hb⟩ := hp.2.2 LS2.out (by rw [HG.out]; exact hgg)
    rw [HG.out] at hnum
    have HGG := Lib.hid (show hasL (rL L) = true → PGood (gL (rL L)) from fun _ => hgg)
    replace T2 := Lib.hid ((T2.out.new hb).far HNE.out (.slice A' k' c') (p := ⟨w2.heap.size, 2, none⟩))
    replace HW := Lib.hid ((bthen HW.out hb HW.out.size).setCell (p := ⟨w2.heap.size, 2, none⟩) HLE.out (.slice A' k' c'))
    have q1 := (T9.out.new hb).c2; have g1 := (T9.out.new hb).f2; have lq := (T9.out.new hb).lt
    have NB := Lib.hid (hnum.far (T9.out.new hb).c2 (by simp) (.slice A' k' c'))
    replace NA := Lib.hid ((NA.out.new hb).far (T9.out.new hb).c2 (by simp) (.slice A' k' c'))
    replace T9 := Lib.hid ((T9.out.new hb).set2 (.slice A' k' c'))
    clear hp hb hgg HP2 hnum hnorm q2 g2
    go_upto_region 12 with (fail)
    generalize w6.setCell ⟨w2.heap.size, 2, none⟩ (.slice A' k' c') = w10 at T2 HW NA NB T9 ⊢
    clear q1 g1 lq
    have HV := Lib.hid (show PVal L = qv neg (dw (fL (rL L))) (dw (gL (rL L))) by rw [PVal, ← HN.out, ← HH.out]; rfl)
    have RA := Lib.hid (show Ra w10 neg A k c A' k' c' 1201 (PVal L) from ⟨_, _, NA.out, NB.out, HV.out⟩)
    clear NA NB
    have q0 := T9.out.c0; have q1 := T9.out.c1; have q2 := T9.out.c2; have g0 := T9.out.f0; have g1 := T9.out.f1; have g2 := T9.out.f2
    go_wp2_with fail
    refine (qnorm_any RA.out (by omega)).mono ?_
    rintro e w7 ⟨s7, A7, n7, c7, B7, m7, d7, rfl, h7, hb⟩
    have U9 := T9.out.new hb
    have H7 := Lib.hid (h7.store3 U9 (.bool s7) (.slice A7 n7 c7) (.slice B7 m7 d7))
    have V9 : Hid (TB _ _ _ _ _ _) := Lib.hid (U9.set3 (.bool s7) (.slice A7 n7 c7) (.slice B7 m7 d7))
    replace T2 := Lib.hid ((T2.out.new hb).far3 HNE.out (.bool s7) (.slice A7 n7 c7) (.slice B7 m7 d7))
    replace HW := Lib.hid (below_store3 (bthen HW.out hb HW.out.size) HLE.out (.bool s7) (.slice A7 n7 c7) (.slice B7 m7 d7))
    clear q0 q1 q2 g0 g1 g2
    have e0 := U9.c0; have e1 := U9.c1; have e2 := U9.c2; have g0 := U9.f0; have g1 := U9.f1; have g2 := U9.f2
    clear h7 hb U9 T9 RA
    go_upto_region 15 with (fail)
    generalize ((w7.setCell ⟨w2.heap.size, 0, none⟩ (.bool s7)).setCell ⟨w2.heap.size, 1, none⟩ (.slice A7 n7 c7)).setCell ⟨w2.heap.size, 2, none⟩ (.slice B7 m7 d7) = w8 at H7 V9 T2 HW ⊢
    clear e0 e1 e2 g0 g1 g2
    have q0 := V9.out.c0; have q1 := V9.out.c1; have q2 := V9.out.c2
    go_wp2_with fail
    refine (qtext_any H7.out.ra (by omega)).mono ?_
    rintro e w9 ⟨rfl, hb⟩
    replace V9 := Lib.hid (V9.out.new hb); replace T2 := Lib.hid (T2.out.new hb); replace HW := Lib.hid (bthen HW.out hb HW.out.size); replace H7 := Lib.hid (H7.out.new hb)
    clear hb q0 q1 q2
    have q0 := V9.out.c0; have q1 := V9.out.c1; have q2 := V9.out.c2
    have r0 := T2.out.c0; have r1 := T2.out.c1; have r2 := T2.out.c2; have f0 := T2.out.f0; have f1 := T2.out.f1; have f2 := T2.out.f2
    by_cases hok : txt (PVal L) = s
    · have HOK := Lib.hid (show POk L from ⟨HGF.out, HGG.out, by rw [hok, HS.out]⟩)
      have t5 := str_eq hok
      clear hok
      have R7 := Lib.hid (H7.out.store3 T2.out (.bool s7) (.slice A7 n7 c7) (.slice B7 m7 d7))
      go_wp2_with fail
      refine bodyPost_ret (v := .tuple #[.agg #[.bool s7, .slice A7 n7 c7, .slice B7 m7 d7], .int .i64 0]) ?_ rfl ⟨below_store3 HW.out (Nat.le_refl _) _ _ _, fun h => absurd h HNL.out, fun _ h => absurd HOK.out h, fun _ _ => ⟨_, rfl, s7, A7, n7, c7, B7, m7, d7, rfl, R7.out⟩⟩
      exact results_cell_tmp Try.results33 _ _ _ _ _ (0, 0) _ rfl (T2.out.set3 _ _ _) Try.underlying29 rfl rfl
    · have HBAD := Lib.hid (show ¬ POk L from fun h => hok (bytes_inj (by rw [h.2.2, HS.out])))
      have t5 := str_ne hok
      clear hok
      go_wp2_with fail
      refine bodyPost_ret (v := .tuple #[.agg #[.bool false, .slice none 0 0, .slice none 0 0], .int .i64 15]) ?_ rfl ⟨below_store3 HW.out (Nat.le_refl _) _ _ _, fun h => absurd h HNL.out, fun _ _ => rfl, fun _ h => absurd h HBAD.out⟩
      exact results_cell_tmp Try.results33 _ _ _ _ _ (0, 0) _ rfl (T2.out.set3 _ _ _) Try.underlying29 rfl rfl
end Go.Proofs.Ytifnbpkcnkfanaa
