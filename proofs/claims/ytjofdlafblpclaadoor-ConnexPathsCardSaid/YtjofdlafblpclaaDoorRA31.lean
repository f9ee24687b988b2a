/-
  Contracts of the reference of layer 31: Adjacent, Is.
-/
import Derived.Test.YtjofdlafblpclaaDoorBase
import Derived.Test.YtjofdlafblpclaaDoorChkP
import Derived.Test.YtjofdlafblpclaaDoorCxK
namespace Go.Proofs.YtjofdlafblpclaaDoor
open Go.RowKit
set_option linter.unusedSimpArgs false
set_option linter.unusedVariables false

def adj31 (es : List Nat) (a b : Nat) : Bool := decide (a ≠ b) && es.any fun e => e.testBit a && e.testBit b
theorem any_take9 (p : Nat → Bool) (l : List Nat) (k : Nat) (h : k < l.length) : (l.take (k + 1)).any p = ((l.take k).any p || p (nth l k)) := by
  rw [List.take_succ_eq_append_getElem h, List.any_append, nth_eq h]; simp
theorem rem_bit (e v : Nat) : (((e : Int) / 2 ^ v).tmod 2 == 1) = e.testBit v := by
  have h1 : ((e : Int) / 2 ^ v) = ((e / 2 ^ v : Nat) : Int) := by simp
  rw [h1, Int.tmod_eq_emod_of_nonneg (Int.natCast_nonneg _), Nat.testBit_eq_decide_div_mod_eq, Bool.eq_iff_iff]
  generalize e / 2 ^ v = q
  simp only [beq_iff_eq, decide_eq_true_eq]
  omega
set_option maxHeartbeats 2000000 in
theorem adj31_any (a b : Nat) (A : Option Addr) (es : List Nat) (len c : Nat) (w : World) (hr : Es w w.heap.size A len es) (ha : a < 32) (hb : b < 32) :
    Calls Tryd.prog 37 #[.slice A len c, .int .i64 a, .int .i64 b] w fun e w' => e = .returned (.bool (adj31 es a b)) ∧ w = w' := by
  have hle := hr.le
  have hlen := hr.len
  have HLEN := Lib.hid hlen; clear hlen
  have HR := Lib.hid hr; clear hr
  have i1 : (0 : Int) ≤ (a : Int) := by omega
  have i2 : (a : Int) < 32 := by omega
  have i3 : (0 : Int) ≤ (b : Int) := by omega
  have i4 : (b : Int) < 32 := by omega
  by_cases hab : a = b
  · have hne : ((a : Int) != (b : Int)) = false := by simp [hab]
    have HAB := Lib.hid hab; clear hab
    go_enter Tryd.func37, Tryd.ntmps37
    go_wp2_with fail
    go_loop [7] (fun i => ∃ k : Nat, k ≤ len ∧ i = .int .i64 k) (fun i => len - (intOf i).toNat)
    case atStart => exact ⟨0, Nat.zero_le _, rfl⟩
    case round =>
      obtain ⟨k, hk, rfl⟩ := hrel
      by_cases hlt : k < len
      · go_wp2_with fail
        exact ⟨⟨k + 1, by omega, by go_num⟩, by simp [intOf]; omega⟩
      · go_wp2_with fail
        go_ret
        exact ⟨ret_bool (by simp [adj31, HAB.out]), rfl⟩
  · have hne : ((a : Int) != (b : Int)) = true := by simp; omega
    have HAB := Lib.hid hab; clear hab
    go_enter Tryd.func37, Tryd.ntmps37
    go_wp2_with fail
    go_loop [7] (fun i => ∃ k : Nat, k ≤ len ∧ i = .int .i64 k ∧ Hid ((es.take k).any (fun e => e.testBit a && e.testBit b) = false)) (fun i => len - (intOf i).toNat)
    case atStart => exact ⟨0, Nat.zero_le _, rfl, Lib.hid rfl⟩
    case round =>
      obtain ⟨k, hk, rfl, HI⟩ := hrel
      by_cases hlt : k < len
      · obtain ⟨ad, rfl, hb1, hcell⟩ := HR.out.at_ hlt
        have hlk : k < es.length := by have := HLEN.out; omega
        have hek := HR.out.lt hlt
        have hst := Lib.hid (any_take9 (fun e => e.testBit a && e.testBit b) es k hlk)
        have j1 : (0 : Int) ≤ (k : Int) := by omega
        have j2 : (k : Int) < (len : Int) := by omega
        have hta := rem_bit (nth es k) a
        have htb := rem_bit (nth es k) b
        cases ha : (nth es k).testBit a with
        | false =>
          rw [ha] at hta
          have HA := Lib.hid ha; clear ha htb
          go_wp2_with fail
          exact ⟨⟨k + 1, by omega, by go_num, Lib.hid (by rw [hst.out, HI.out, HA.out]; rfl)⟩, by simp [intOf]; omega⟩
        | true =>
          rw [ha] at hta
          have HA := Lib.hid ha; clear ha
          cases hb2 : (nth es k).testBit b with
          | false =>
            rw [hb2] at htb
            have HB2 := Lib.hid hb2; clear hb2
            go_wp2_with fail
            exact ⟨⟨k + 1, by omega, by go_num, Lib.hid (by rw [hst.out, HI.out, HA.out, HB2.out]; rfl)⟩, by simp [intOf]; omega⟩
          | true =>
            rw [hb2] at htb
            have HB2 := Lib.hid hb2; clear hb2
            go_wp2_with fail
            go_ret
            refine ⟨ret_bool ?_, rfl⟩
            have : es.any (fun e => e.testBit a && e.testBit b) = true := by
              rw [List.any_eq_true]
              exact ⟨_, nth_mem hlk, by rw [HA.out, HB2.out]; rfl⟩
            simp [adj31, HAB.out, this]
      · go_wp2_with fail
        go_ret
        refine ⟨ret_bool ?_, rfl⟩
        have h1 := HI.out
        rw [List.take_of_length_le (by have := HLEN.out; omega)] at h1
        simp [adj31, h1]
def rowB (es : List Nat) (l : List Int) (i m : Nat) : Bool := (List.range m).all fun k => decide (inth l i ≠ inth l k) && (adj31 es (inth l i).toNat (inth l k).toNat == decide (k + 1 = i))
/-- The reference's Is. -/
def isTo (es : List Nat) (f : Nat) (l : List Int) (k : Nat) : Bool := (List.range k).all fun i => endAt f l i && rowB es l i i
def isB (es : List Nat) (f : Nat) (l : List Int) : Bool := decide (3 ≤ l.length) && isTo es f l l.length
theorem rowB_succ (es : List Nat) (l : List Int) (i m : Nat) : rowB es l i (m + 1) = (rowB es l i m && (decide (inth l i ≠ inth l m) && (adj31 es (inth l i).toNat (inth l m).toNat == decide (m + 1 = i)))) := all_range_succ _ _
theorem isTo_succ (es : List Nat) (f : Nat) (l : List Int) (i : Nat) : isTo es f l (i + 1) = (isTo es f l i && (endAt f l i && rowB es l i i)) := all_range_succ _ _
theorem is_bad {es : List Nat} {f : Nat} {l : List Int} {i : Nat} (hi : i < l.length) (h : (endAt f l i && rowB es l i i) = false) : isB es f l = false := by
  have : isTo es f l l.length = false := by
    cases h2 : isTo es f l l.length with
    | false => rfl
    | true =>
      rw [isTo, List.all_eq_true] at h2
      rw [h2 i (by simpa using hi)] at h; cases h
  rw [isB, this]; simp
theorem row_bad {es : List Nat} {l : List Int} {i j : Nat} (hj : j < i) (h : (decide (inth l i ≠ inth l j) && (adj31 es (inth l i).toNat (inth l j).toNat == decide (j + 1 = i))) = false) : rowB es l i i = false := by
  cases h2 : rowB es l i i with
  | false => rfl
  | true =>
    rw [rowB, List.all_eq_true] at h2
    rw [h2 j (by simpa using hj)] at h; cases h
def rangeTo (n : Int) (l : List Int) (k : Nat) : Bool := (List.range k).all fun j => decide (0 ≤ inth l j) && decide (inth l j < n)
theorem rangeTo_succ (n : Int) (l : List Int) (k : Nat) : rangeTo n l (k + 1) = (rangeTo n l k && (decide (0 ≤ inth l k) && decide (inth l k < n))) := all_range_succ _ _
theorem rangeTo_at {n : Int} {l : List Int} {m k : Nat} (h : rangeTo n l m = true) (hk : k < m) : 0 ≤ inth l k ∧ inth l k < n := by
  rw [rangeTo, List.all_eq_true] at h
  have := h k (by simpa using hk)
  simpa using this
theorem okTo_range {n : Nat} {l : List Int} (h : rangeTo n l l.length = false) : okTo n l l.length = false := by
  cases h2 : okTo n l l.length with
  | false => rfl
  | true =>
    have : rangeTo n l l.length = true := by
      rw [rangeTo, List.all_eq_true]
      intro k hk
      rw [okTo, List.all_eq_true] at h2
      have := h2 k hk
      simp only [okAt, Bool.and_eq_true] at this
      rw [this.1, this.2.1]; rfl
    rw [this] at h; cases h
theorem link_adj {n : Nat} {es : List Nat} {l : List Int} {i j : Nat} (hn : n ≤ 32) (hb : ∀ e ∈ es, e < 2 ^ n) (hi : 0 ≤ inth l i ∧ inth l i < n) : linkL (adjRow n es) l i j = adj31 es (inth l i).toNat (inth l j).toNat := by
  have hi2 : (inth l i).toNat < n := by omega
  rw [linkL, nth_adjRow (by omega), if_pos hi2, Bool.eq_iff_iff, adj_bit (fun e he => Nat.lt_of_lt_of_le (hb e he) (two_pow_le hn)) (by omega)]
  simp only [adj31, Bool.and_eq_true, decide_eq_true_eq, List.any_eq_true]
  constructor
  · rintro ⟨h1, e, h2, h3, h4⟩; exact ⟨fun h => h1 h.symm, e, h2, h3, h4⟩
  · rintro ⟨h1, e, h2, h3, h4⟩; exact ⟨fun h => h1 h.symm, e, h2, h3, h4⟩
theorem chk_is {n f : Nat} {es : List Nat} {l : List Int} (hn : n ≤ 32) (hb : ∀ e ∈ es, e < 2 ^ n) (h : rangeTo n l l.length = true) : chkW (adjRow n es) n f l = isB es f l := by
  rw [chkW, isB, Bool.eq_iff_iff]
  simp only [Bool.and_eq_true, okTo, wayTo, isTo, stepAt, rowB, List.all_eq_true, List.mem_range]
  constructor
  · rintro ⟨h0, h1, h2⟩
    refine ⟨h0, fun i hi => ⟨(h2 i hi).1, fun j hj => ?_⟩⟩
    have a1 := h1 i hi
    simp only [okAt, Bool.and_eq_true, List.all_eq_true, List.mem_range] at a1
    have a2 := a1.2.2 j hj
    have a3 := (h2 i hi).2 j hj
    rw [link_adj hn hb (rangeTo_at h hi)] at a3
    refine ⟨?_, a3⟩
    simp only [bne_iff_ne, ne_eq] at a2
    simp only [ne_eq, decide_eq_true_eq]
    exact fun he => a2 he.symm
  · rintro ⟨h0, h1⟩
    refine ⟨h0, fun i hi => ?_, fun i hi => ⟨(h1 i hi).1, fun j hj => ?_⟩⟩
    · simp only [okAt, Bool.and_eq_true, List.all_eq_true, List.mem_range]
      have h2 := rangeTo_at h hi
      refine ⟨decide_eq_true h2.1, decide_eq_true h2.2, fun j hj => ?_⟩
      have a1 := ((h1 i hi).2 j hj).1
      simp only [ne_eq, decide_eq_true_eq] at a1
      simp only [bne_iff_ne, ne_eq]
      exact fun he => a1 he.symm
    · rw [link_adj hn hb (rangeTo_at h hi)]
      exact ((h1 i hi).2 j hj).2
set_option maxRecDepth 100000 in
set_option maxHeartbeats 8000000 in
theorem is31_any (n f : Nat) (A : Option Addr) (es : List Nat) (len c : Nat) (B : Option Addr) (xs : List Int) (m d : Nat) (w : World) (hr : Es w w.heap.size A len es) (hx : Xs w w.heap.size B m xs) (hok : rangeTo n xs xs.length = true) (hn : n ≤ 32) :
    Calls Tryd.prog 20 #[.slice A len c, .int .i64 f, .slice B m d] w fun e w' => e = .returned (.bool (isB es f xs)) ∧ Below w.heap.size w w' := by
  have hm9 := hx.le
  have HML := Lib.hid hx.len
  have HX := Lib.hid hx; clear hx
  have HR := Lib.hid hr; clear hr
  have HOK := Lib.hid hok; clear hok
  by_cases hm3 : m < 3
  · have t3 : decide ((m : Int) < 3) = true := by simp; omega
    have HF := Lib.hid (show isB es f xs = false by
      rw [isB, decide_eq_false (by have := HML.out; omega)]; rfl)
    go_enter Tryd.func20, Tryd.ntmps20
    go_wp2_with fail
    go_ret
    exact ⟨ret_bool9 HF.out, Below.refl _ _⟩
  have t3 : decide ((m : Int) < 3) = false := by simp; omega
  go_enter Tryd.func20, Tryd.ntmps20
  go_wp2_with fail
  clear t3
  go_loopw [7] (fun iv wr => ∃ (i : Nat), iv = .int .i64 i ∧ i ≤ m ∧ Hid (isTo es f xs i = true ∧ Below w.heap.size w wr)) (fun iv _ => m - (intOf iv).toNat)
  case atStart => exact ⟨0, rfl, Nat.zero_le _, Lib.hid ⟨rfl, Below.refl _ _⟩⟩
  case round =>
    obtain ⟨i, rfl, hi, HI⟩ := hrel
    by_cases him : i < m
    · obtain ⟨yi, hyi⟩ := Int.eq_ofNat_of_zero_le (rangeTo_at HOK.out (show i < xs.length by have := HML.out; omega)).1
      have hyin : yi < n := by have := (rangeTo_at HOK.out (show i < xs.length by have := HML.out; omega)).2; omega
      obtain ⟨ad, rfl, hb1, hcell⟩ := (HX.out.new HI.out.2).at_ him
      rw [hyi] at hcell
      have HYI := Lib.hid hyi; clear hyi
      have HEND := Lib.hid (show endAt f xs i = (decide (i = 0 ∨ i + 1 = m) == decide (yi < f)) by
        rw [endAt, HYI.out, HML.out]; congr 1; rw [Bool.eq_iff_iff]; simp)
      have HILT := Lib.hid (show i < xs.length by have := HML.out; omega)
      have t1 : ((i : Int) == 0) = decide (i = 0) := by rw [Bool.eq_iff_iff]; simp
      have t3 : ((i : Int) == (m : Int) - 1) = decide (i + 1 = m) := by rw [Bool.eq_iff_iff]; simp; omega
      have HOR := Lib.hid (show decide (i = 0 ∨ i + 1 = m) = (decide (i = 0) || decide (i + 1 = m)) by rw [Bool.eq_iff_iff]; simp)
      rw [HOR.out] at HEND
      clear HOR
      have i5 : (0 : Int) ≤ (i : Int) := by omega
      have i6 : (i : Int) < (m : Int) := by omega
      generalize hd1 : decide (i = 0) = d1 at *
      generalize hd3 : decide (i + 1 = m) = d3 at *
      generalize hd4 : decide (yi < f) = d4 at *
      clear hd1 hd3
      by_cases he : (d1 || d3) = d4
      · have HEN := Lib.hid (show endAt f xs i = true by rw [HEND.out, he]; simp)
        obtain ⟨wo, rfl⟩ : ∃ wo : World, wo = wr := ⟨_, rfl⟩
        clear HEND
        cases d1 <;> cases d3 <;> cases d4 <;> simp at he
        all_goals
          go_wp2_with fail
          clear hcell t1 t3 hd4 hb1
          go_loopw [9] (fun jv wr => ∃ (j : Nat), jv = .int .i64 j ∧ j ≤ i ∧ Hid (rowB es xs i j = true ∧ Below w.heap.size w wr)) (fun jv _ => i - (intOf jv).toNat)
          case atStart => exact ⟨0, rfl, Nat.zero_le _, Lib.hid ⟨rfl, HI.out.2⟩⟩
          case round =>
            obtain ⟨j, rfl, hj, HJ⟩ := hrel
            by_cases hji : j < i
            · obtain ⟨yj, hyj⟩ := Int.eq_ofNat_of_zero_le (rangeTo_at HOK.out (show j < xs.length by have := HML.out; omega)).1
              have hyjn : yj < n := by have := (rangeTo_at HOK.out (show j < xs.length by have := HML.out; omega)).2; omega
              obtain ⟨ad', e', hb1', hcell⟩ := (HX.out.new HJ.out.2).at_ (show j < m by omega)
              injection e' with e'
              subst e'
              obtain ⟨ad', e', hb1', hcelli⟩ := (HX.out.new HJ.out.2).at_ (show i < m by omega)
              injection e' with e'
              subst e'
              rw [hyj] at hcell
              rw [HYI.out] at hcelli
              have HYJ := Lib.hid hyj; clear hyj
              have HLK := Lib.hid (show adj31 es (inth xs i).toNat (inth xs j).toNat = adj31 es yi yj by rw [HYI.out, HYJ.out]; rfl)
              have HNE := Lib.hid (show decide (inth xs i ≠ inth xs j) = decide (yi ≠ yj) by rw [HYI.out, HYJ.out, Bool.eq_iff_iff]; simp; omega)
              have j1 : (0 : Int) ≤ (j : Int) := by omega
              have j2 : (j : Int) < (m : Int) := by omega
              have t1 : ((j : Int) == (i : Int) - 1) = decide (j + 1 = i) := by rw [Bool.eq_iff_iff]; simp; omega
              have HBAD := Lib.hid (fun (h : (decide (yi ≠ yj) && (adj31 es yi yj == decide (j + 1 = i))) = false) => show isB es f xs = false from is_bad HILT.out (by rw [row_bad hji (by rw [HLK.out, HNE.out]; exact h)]; simp))
              have HNX := Lib.hid (fun (h : (decide (yi ≠ yj) && (adj31 es yi yj == decide (j + 1 = i))) = true) => show rowB es xs i (j + 1) = true by rw [rowB_succ, HJ.out.1, HLK.out, HNE.out, h]; rfl)
              have HAD := Lib.hid (fun W (h : Below w.heap.size w W) => adj31_any yi yj (A := A) (es := es) (len := len) (c := c) W (HR.out.new h) (by omega) (by omega))
              generalize hdd : decide (j + 1 = i) = d5 at *
              clear hdd HLK HNE
              by_cases hq : yi = yj
              · have t2 : ((yi : Int) == (yj : Int)) = true := by simp [hq]
                have HF := Lib.hid (HBAD.out (by rw [decide_eq_false (by omega)]; rfl))
                clear hq
                go_wp2_with fail
                go_quiet (fail)
                go_wp2_with fail
                go_ret
                exact ⟨ret_bool9 HF.out, below_drewN HJ.out.2 _⟩
              · have t2 : ((yi : Int) == (yj : Int)) = false := by simp; omega
                have HQ := Lib.hid (show decide (yi ≠ yj) = true from decide_eq_true hq)
                clear hq
                go_wp2_with fail
                go_quiet ((go_at_call 37; exact quiet_left (HAD.out _ (below_drewN HJ.out.2 _))))
                generalize adj31 es yi yj = lb at *
                cases lb <;> cases d5
                · have HN := Lib.hid (HNX.out (by rw [HQ.out]; rfl))
                  go_wp2_with fail
                  exact ⟨⟨j + 1, by go_num, by omega, Lib.hid ⟨HN.out, below_drewN HJ.out.2 _⟩⟩, by simp [intOf]; omega⟩
                · have HF := Lib.hid (HBAD.out (by rw [HQ.out]; rfl))
                  go_wp2_with fail
                  go_ret
                  exact ⟨ret_bool9 HF.out, below_drewN HJ.out.2 _⟩
                · have HF := Lib.hid (HBAD.out (by rw [HQ.out]; rfl))
                  go_wp2_with fail
                  go_ret
                  exact ⟨ret_bool9 HF.out, below_drewN HJ.out.2 _⟩
                · have HN := Lib.hid (HNX.out (by rw [HQ.out]; rfl))
                  go_wp2_with fail
                  exact ⟨⟨j + 1, by go_num, by omega, Lib.hid ⟨HN.out, below_drewN HJ.out.2 _⟩⟩, by simp [intOf]; omega⟩
            · obtain rfl : j = i := by omega
              have HW5 := Lib.hid (show isTo es f xs (j + 1) = true by rw [isTo_succ, HI.out.1, HEN.out, HJ.out.1]; rfl)
              go_wp2_with fail
              exact ⟨⟨j + 1, by go_num, by omega, Lib.hid ⟨HW5.out, HJ.out.2⟩⟩, by simp [intOf]; omega⟩
      · have HF := Lib.hid (show isB es f xs = false from is_bad HILT.out (by rw [HEND.out]; cases d1 <;> cases d3 <;> cases d4 <;> simp at he ⊢))
        cases d1 <;> cases d3 <;> cases d4 <;> simp at he
        all_goals
          go_wp2_with fail
          go_ret
          exact ⟨ret_bool9 HF.out, HI.out.2⟩
    · obtain rfl : m = i := by omega
      have HF := Lib.hid (show isB es f xs = true by
        rw [isB, decide_eq_true (by have := HML.out; omega), ← HML.out, HI.out.1]; rfl)
      go_wp2_with fail
      go_ret
      exact ⟨ret_bool9 HF.out, HI.out.2⟩
end Go.Proofs.YtjofdlafblpclaaDoor
