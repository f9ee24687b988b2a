/-
  Contracts of hypergraph.escapes and hypergraph.disjoint.
-/
import Derived.Test.YtkiahnffepbgpaaObsS
import Derived.Test.YtkiahnffepbgpaaAcy
namespace Go.Proofs.Ytkiahnffepbgpaa
open Go.RowKit
set_option linter.unusedSimpArgs false
set_option linter.unusedVariables false

def RetEsc (w : World) (es : List Nat) (c r : Nat) (e : Ending) (w' : World) : Prop :=
  ∃ (o : Nat) (cov : Bool), e = .returned (.tuple #[.int .u32 (o : Int), .bool cov]) ∧ o < 2 ^ 32 ∧ (cov = true → ∃ e ∈ es, sub c e ∧ o = andn r e) ∧ (cov = false → o = 0 ∧ ¬ Cov es c) ∧ Below w.heap.size w w'
/-- What the loop of escapes keeps. -/
structure Esc (es : List Nat) (c r k o : Nat) (cov : Bool) : Prop where
  yes : cov = true → ∃ e ∈ es, sub c e ∧ o = andn r e
  no : cov = false → o = 0 ∧ ∀ e ∈ es.take k, ¬ sub c e
theorem mem_take_nat {l : List Nat} {k : Nat} (hk : k < l.length) {x : Nat} : x ∈ l.take (k + 1) ↔ x ∈ l.take k ∨ x = nth l k := by
  rw [List.take_succ_eq_append_getElem hk, nth_eq hk, List.mem_append, List.mem_singleton]
theorem Esc.skip {es : List Nat} {c r k o : Nat} {cov : Bool} (h : Esc es c r k o cov) (hk : k < es.length) (hs : ¬ sub c (nth es k)) : Esc es c r (k + 1) o cov :=
  ⟨h.yes, fun hc => ⟨(h.no hc).1, fun e he => by
    rcases (mem_take_nat hk).1 he with h1 | h1
    · exact (h.no hc).2 e h1
    · rw [h1]; exact hs⟩⟩
theorem Esc.take {es : List Nat} {c r k o : Nat} {cov : Bool} (h : Esc es c r k o cov) (hk : k < es.length) (hs : sub c (nth es k)) : Esc es c r (k + 1) (andn r (nth es k)) true :=
  ⟨fun _ => ⟨_, nth_mem hk, hs, rfl⟩, fun hc => by cases hc⟩
theorem Esc.keep {es : List Nat} {c r k o : Nat} (h : Esc es c r k o true) : Esc es c r (k + 1) o true := ⟨h.yes, fun hc => by cases hc⟩
set_option maxRecDepth 100000 in
set_option maxHeartbeats 4000000 in
theorem escapes_any (n : Nat) (A : Option Addr) (es : List Nat) (len cp c r : Nat) (w : World) (hr : Es w w.heap.size A len es) (hc : c < 4294967296) (hr2 : r < 4294967296) :
    Calls Try.prog 54 #[.agg #[.int .i64 n, .slice A len cp], .int .u32 c, .int .u32 r] w (RetEsc w es c r) := by
  have hle := hr.le
  have HLEN := Lib.hid hr.len
  have HE := Lib.hid (hr.new (al w (.cells #[.int .i64 n, .slice A len cp] 24)))
  have HLT := Lib.hid (fun k (hk : k < len) => hr.lt hk)
  clear hr
  have HG := Lib.hid (GB.made w 24 (.int .i64 n) (.slice A len cp))
  have HW := Lib.hid (al w (.cells #[.int .i64 n, .slice A len cp] 24))
  go_enter Try.func54, Try.ntmps54
  go_wp2_with fail
  generalize w.alloc (.cells #[.int .i64 n, .slice A len cp] 24) = w0 at HE HG HW ⊢
  go_loopw [8, 9, 15] (fun ov cv iv wr => ∃ (k o : Nat) (cov : Bool), iv = .int .i64 k ∧ k ≤ len ∧ ov = .int .u32 o ∧ o < 4294967296 ∧ cv = .bool cov ∧ Hid (Esc es c r k o cov ∧ Below w0.heap.size w0 wr)) (fun _ _ iv _ => len - (intOf iv).toNat)
  case atStart => exact ⟨0, 0, false, rfl, Nat.zero_le _, rfl, by omega, rfl, Lib.hid ⟨⟨fun h => (by cases h), fun _ => ⟨rfl, by simp⟩⟩, Below.refl _ _⟩⟩
  case round =>
    obtain ⟨k, o, cov, rfl, hk, rfl, ho, rfl, HJ⟩ := hrel
    by_cases hlt : k < len
    · obtain ⟨ad, rfl, hb1, hcell⟩ := (HE.out.new HJ.out.2).at_ hlt
      have he := HLT.out k hlt
      have hkl : k < es.length := by have := HLEN.out; omega
      obtain ⟨x, hx⟩ : ∃ x, x = nth es k := ⟨_, rfl⟩
      rw [← hx] at hcell he
      have e1 := bits_andNot c x hc he
      have e2 := bits_andNot r x hr2 he
      have HX := Lib.hid hx
      have HKL := Lib.hid hkl
      clear hx hkl
      by_cases hs : andn c x = 0
      · have ts : ((andn c x : Nat) : Int) = 0 := by omega
        have HS := Lib.hid (show sub c (nth es k) by rw [← HX.out]; exact sub_of_andn hc he hs)
        rw [ts] at e1
        have hz : andn r x < 4294967296 := andn_lt hr2
        have HT := Lib.hid (HJ.out.1.take HKL.out HS.out)
        rw [← HX.out] at HT
        obtain ⟨y, hy⟩ : ∃ y, y = andn r x := ⟨_, rfl⟩
        rw [← hy] at e2 hz HT
        clear hs ts hy
        cases cov with
        | false =>
          go_wp2_with fail
          exact ⟨⟨k + 1, y, true, by go_num, by omega, rfl, hz, rfl, Lib.hid ⟨HT.out, HJ.out.2⟩⟩, by simp [intOf]; omega⟩
        | true =>
          have HK2 := Lib.hid HJ.out.1.keep
          go_wp2_with fail
          refine (size_any y hz _).mono ?_
          rintro e w1 ⟨k1, rfl, hb⟩
          have HB1 := Lib.hid (bthen HJ.out.2 hb HJ.out.2.size); clear hb hcell
          go_wp2_with fail
          refine (size_any o ho _).mono ?_
          rintro e w2 ⟨k2, rfl, hb⟩
          have HB2 := Lib.hid (bthen HB1.out hb HB1.out.size); clear hb
          by_cases hq : k1 < k2
          · have tq := decide_eq_true hq
            go_wp2_with fail
            exact ⟨⟨k + 1, y, true, by go_num, by omega, rfl, hz, rfl, Lib.hid ⟨HT.out, HB2.out⟩⟩, by simp [intOf]; omega⟩
          · have tq := decide_eq_false hq
            go_wp2_with fail
            exact ⟨⟨k + 1, o, true, by go_num, by omega, rfl, ho, rfl, Lib.hid ⟨HK2.out, HB2.out⟩⟩, by simp [intOf]; omega⟩
      · have ts : (((andn c x : Nat) : Int) == 0) = false := by simp; omega
        have HT := Lib.hid (HJ.out.1.skip HKL.out (fun h => hs (by rw [← HX.out] at h; exact andn_of_sub hc he h)))
        generalize andn c x = y at *
        clear hs
        go_wp2_with fail
        exact ⟨⟨k + 1, o, cov, by go_num, by omega, rfl, ho, rfl, Lib.hid ⟨HT.out, HJ.out.2⟩⟩, by simp [intOf]; omega⟩
    · obtain rfl : k = len := by omega
      go_wp2_with fail
      go_ret2
      refine ⟨o, cov, rfl, ho, HJ.out.1.yes, fun h => ⟨(HJ.out.1.no h).1, ?_⟩, bthen HW.out HJ.out.2 HW.out.size⟩
      rintro ⟨e, he, hs⟩
      exact (HJ.out.1.no h).2 e (by rw [List.take_of_length_le (by rw [← HLEN.out]; exact Nat.le_refl _)]; exact he) hs

def RetDis (w : World) (n : Nat) (es : List Nat) (c r : Nat) (e : Ending) (w' : World) : Prop :=
  ∃ (d used : Nat), e = .returned (.int .i64 (d : Int)) ∧ d ≤ es.length ∧ Hit n es c r used d ∧ (Cov es c → 1 ≤ d) ∧ Below w.heap.size w w'
/-- What the loop of disjoint keeps. -/
structure Dis (n : Nat) (es : List Nat) (c r k d used : Nat) : Prop where
  hit : Hit n es c r used d
  one : d = 0 → used = 0 ∧ ∀ e ∈ es.take k, ¬ sub c e
  le : d ≤ k
theorem Dis.skip {n : Nat} {es : List Nat} {c r k d used : Nat} (h : Dis n es c r k d used) (hk : k < es.length) (hs : ¬ sub c (nth es k) ∨ d ≠ 0) : Dis n es c r (k + 1) d used :=
  ⟨h.hit, fun hd => ⟨(h.one hd).1, fun e he => by
    rcases (mem_take_nat hk).1 he with h1 | h1
    · exact (h.one hd).2 e h1
    · rcases hs with h2 | h2
      · rw [h1]; exact h2
      · exact absurd hd h2⟩, by have := h.le; omega⟩
set_option maxRecDepth 100000 in
set_option maxHeartbeats 4000000 in
theorem disjoint_any (n : Nat) (hn : n ≤ 32) (A : Option Addr) (es : List Nat) (len cp c r : Nat) (w : World) (hr : Es w w.heap.size A len es) (hl : len ≤ 64) (hc : c < 4294967296) (hr2 : r < 2 ^ n) :
    Calls Try.prog 55 #[.agg #[.int .i64 n, .slice A len cp], .int .u32 c, .int .u32 r] w (RetDis w n es c r) := by
  have hr32 : r < 4294967296 := Nat.lt_of_lt_of_le hr2 (two_pow_le hn)
  have HLEN := Lib.hid hr.len
  have HE := Lib.hid (hr.new (al w (.cells #[.int .i64 n, .slice A len cp] 24)))
  have HLT := Lib.hid (fun k (hk : k < len) => hr.lt hk)
  clear hr
  have HG := Lib.hid (GB.made w 24 (.int .i64 n) (.slice A len cp))
  have HW := Lib.hid (al w (.cells #[.int .i64 n, .slice A len cp] 24))
  have HR2 := Lib.hid hr2; clear hr2
  go_enter Try.func55, Try.ntmps55
  go_wp2_with fail
  generalize w.alloc (.cells #[.int .i64 n, .slice A len cp] 24) = w0 at HE HG HW ⊢
  go_loop [7, 8, 14] (fun dv uv iv => ∃ (k d used : Nat), iv = .int .i64 k ∧ k ≤ len ∧ dv = .int .i64 d ∧ d ≤ 64 ∧ uv = .int .u32 used ∧ used < 4294967296 ∧ Hid (Dis n es c r k d used)) (fun _ _ iv => len - (intOf iv).toNat)
  case atStart => exact ⟨0, 0, 0, rfl, Nat.zero_le _, rfl, by omega, rfl, by omega, Lib.hid ⟨fun S _ _ => Nat.zero_le _, fun _ => ⟨rfl, by simp⟩, Nat.le_refl _⟩⟩
  case round =>
    obtain ⟨k, d, used, rfl, hk, rfl, hd, rfl, hu, HJ⟩ := hrel
    by_cases hlt : k < len
    · obtain ⟨ad, rfl, hb1, hcell⟩ := HE.out.at_ hlt
      have he := HLT.out k hlt
      have hkl : k < es.length := by have := HLEN.out; omega
      obtain ⟨x, hx⟩ : ∃ x, x = nth es k := ⟨_, rfl⟩
      rw [← hx] at hcell he
      have e1 := bits_andNot c x hc he
      have e2 := bits_andNot r x hr32 he
      have HX := Lib.hid hx
      have HKL := Lib.hid hkl
      clear hx hkl
      by_cases hs : andn c x = 0
      · have ts : ((andn c x : Nat) : Int) = 0 := by omega
        have HS := Lib.hid (show sub c x from sub_of_andn hc he hs)
        rw [ts] at e1
        have hz : andn r x < 4294967296 := andn_lt hr32
        have e3 := bits_and (andn r x) used hz hu
        have e4 := bits_or used (andn r x) hu hz
        by_cases hd0 : andn r x &&& used = 0
        · have td : ((andn r x &&& used : Nat) : Int) = 0 := by omega
          rw [td] at e3
          have hor : used ||| andn r x < 4294967296 := Nat.or_lt_two_pow (n := 32) hu hz
          have hdk := HJ.out.le
          have HT := Lib.hid (show Dis n es c r (k + 1) (d + 1) (used ||| andn r x) from ⟨HJ.out.hit.step hn HR2.out he (by rw [HX.out]; exact nth_mem HKL.out) HS.out hd0, fun h => by omega, by omega⟩)
          generalize used ||| andn r x = y at *
          generalize andn r x = z at *
          clear hs ts hd0 td
          go_wp2_with fail
          exact ⟨⟨k + 1, d + 1, y, by go_num, by omega, by go_num, by omega, rfl, hor, HT⟩, by simp [intOf]; omega⟩
        · have td : (((andn r x &&& used : Nat) : Int) == 0) = false := by simp; omega
          have HT := Lib.hid (HJ.out.skip HKL.out (.inr (fun h9 => hd0 (by rw [(HJ.out.one h9).1]; simp))))
          generalize andn r x &&& used = y at *
          generalize andn r x = z at *
          clear hs ts hd0
          go_wp2_with fail
          exact ⟨⟨k + 1, d, used, by go_num, by omega, rfl, hd, rfl, hu, HT⟩, by simp [intOf]; omega⟩
      · have ts : (((andn c x : Nat) : Int) == 0) = false := by simp; omega
        have HT := Lib.hid (HJ.out.skip HKL.out (.inl (fun h => hs (by rw [← HX.out] at h; exact andn_of_sub hc he h))))
        generalize andn c x = y at *
        clear hs
        go_wp2_with fail
        exact ⟨⟨k + 1, d, used, by go_num, by omega, rfl, hd, rfl, hu, HT⟩, by simp [intOf]; omega⟩
    · obtain rfl : k = len := by omega
      go_wp2_with fail
      go_ret
      refine ⟨d, used, rfl, by have := HJ.out.le; have := HLEN.out; omega, HJ.out.hit, ?_, HW.out⟩
      rintro ⟨e, he, hs⟩
      rcases Nat.eq_zero_or_pos d with h0 | h0
      · exact absurd hs ((HJ.out.one h0).2 e (by rw [List.take_of_length_le (by rw [← HLEN.out]; exact Nat.le_refl _)]; exact he))
      · exact h0
end Go.Proofs.Ytkiahnffepbgpaa
