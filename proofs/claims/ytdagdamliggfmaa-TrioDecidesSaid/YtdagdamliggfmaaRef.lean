/-
  Contracts of reference functions and of slices.Equal.
-/
import Derived.Test.YtdagdamliggfmaaHyp
namespace Go.Proofs.Ytdagdamliggfmaa
open Go.RowKit

set_option maxHeartbeats 400000 in
theorem rcheck_any (n : Int) (A : Option Addr) (es : List Nat) (len c : Nat) (w : World) (hr : Es w w.heap.size A len es) :
    Calls Try.prog 11 #[.agg #[.int .i64 n, .slice A len c]] w fun e w' => e = .returned (.int .i64 (checkCode n es)) ∧ Below w.heap.size w w' := by
  have hle := hr.le
  have HR := Lib.hid hr; clear hr
  by_cases h0 : n < 0
  · go_enter Try.func11, Try.ntmps11
    go_wp2_with fail
    go_ret
    exact ⟨ret_int (by simp [checkCode, h0]), (Below.refl _ _).alloc (Nat.le_refl _) _⟩
  by_cases h1 : 32 < n
  · go_enter Try.func11, Try.ntmps11
    go_wp2_with fail
    go_ret
    exact ⟨ret_int (by simp [checkCode, h1]), (Below.refl _ _).alloc (Nat.le_refl _) _⟩
  obtain ⟨n, rfl⟩ := Int.eq_ofNat_of_zero_le (show 0 ≤ n by omega)
  by_cases h2 : 64 < len
  · go_enter Try.func11, Try.ntmps11
    go_wp2_with fail
    go_ret
    exact ⟨ret_int (by rw [checkCode, if_neg (by omega), if_pos (by rw [← HR.out.len]; omega)]), (Below.refl _ _).alloc (Nat.le_refl _) _⟩
  go_enter Try.func11, Try.ntmps11
  go_wp2_with fail
  go_loop [3, 4] (fun i _ => ∃ k : Nat, k ≤ len ∧ i = .int .i64 k ∧ (es.take k).all (fun e => decide (e < 2 ^ n)) = true) (fun i _ => len - (intOf i).toNat)
  case atStart => exact ⟨0, Nat.zero_le _, rfl, rfl⟩
  case round =>
    obtain ⟨k, hk, rfl, ha⟩ := hrel
    have HA := Lib.hid ha; clear ha
    by_cases hlt : k < len
    · obtain ⟨ad, rfl, hb, hcell⟩ := (HR.out.alloc (Nat.le_refl _) (.cells #[.int .i64 n, .slice A len c] 31)).at_ hlt
      have hlk : k < es.length := by have := HR.out.len; omega
      have hek := HR.out.lt hlt
      have hst := Lib.hid (all_take_succ (fun e => decide (e < 2 ^ n)) es k hlk)
      go_wp2_with fail
      go_loop [4] (fun i => ∃ j : Nat, n ≤ j ∧ j ≤ 32 ∧ i = .int .i64 j ∧ ∀ v, n ≤ v → v < j → (nth es k).testBit v = false) (fun i => 32 - (intOf i).toNat)
      case atStart => exact ⟨n, by omega, by omega, rfl, fun v h1 h2 => absurd h2 (by omega)⟩
      case round =>
        obtain ⟨j, hnj, hj, rfl, hv⟩ := hrel
        have HV := Lib.hid hv; clear hv
        by_cases hj2 : j < 32
        · by_cases hbit : (nth es k).testBit j = true
          · go_wp2_with (go_at_call 34; refine (has_any (nth es k) j hek _).mono ?_; rintro e w' ⟨rfl, rfl⟩)
            go_ret
            refine ⟨ret_int ?_, (Below.refl _ _).alloc (Nat.le_refl _) _⟩
            rw [checkCode, if_neg (by omega), if_neg (by have := HR.out.len; omega), if_neg]
            intro hall
            have h3 := List.all_eq_true.1 hall _ (nth_mem hlk)
            simp only [Int.toNat_natCast, decide_eq_true_eq] at h3
            rw [lt_pow_iff hek] at h3
            rw [h3 j hnj hj2] at hbit
            cases hbit
          · have hb2 : (nth es k).testBit j = false := by simpa using hbit
            clear hbit
            go_wp2_with (go_at_call 34; refine (has_any (nth es k) j hek _).mono ?_; rintro e w' ⟨rfl, rfl⟩)
            refine ⟨⟨j + 1, by omega, by omega, by go_num, fun v h1 h2 => ?_⟩, by simp [intOf]; omega⟩
            by_cases hvj : v = j
            · rw [hvj]; exact hb2
            · exact HV.out v h1 (by omega)
        · go_wp2_with fail
          refine ⟨⟨k + 1, by omega, by go_num, ?_⟩, by simp [intOf]; omega⟩
          rw [hst.out, HA.out]
          simp only [Bool.true_and, decide_eq_true_eq]
          rw [lt_pow_iff hek]
          intro v h1 h2
          exact HV.out v h1 (by omega)
    · go_wp2_with fail
      go_ret
      exact ⟨ret_int (by
        have := HR.out.len
        obtain rfl : k = len := by omega
        have := HA.out
        rw [List.take_of_length_le (by omega)] at this
        simp [checkCode, this]; omega), (Below.refl _ _).alloc (Nat.le_refl _) _⟩

set_option maxHeartbeats 400000 in
theorem equal_u32 (A B : Option Addr) (xs ys : List Nat) (n m c d : Nat) (w : World) (hx : Es w w.heap.size A n xs) (hy : Es w w.heap.size B m ys) :
    Calls Try.prog 14 #[.slice A n c, .slice B m d] w fun e w' => e = .returned (.bool (xs == ys)) ∧ Below w.heap.size w w' := by
  have hle := hx.le
  have hle2 := hy.le
  have HX := Lib.hid hx; clear hx
  have HY := Lib.hid hy; clear hy
  by_cases hnm : n = m
  · have hbq : ((n : Int) != (m : Int)) = false := by simp [hnm]
    have hm := Lib.hid hnm; clear hnm
    go_enter Try.func14, Try.ntmps14
    go_wp2_with fail
    go_loopw [5, 13] (fun _ i wr => ∃ k : Nat, k ≤ n ∧ i = .int .i64 k ∧ xs.take k = ys.take k ∧ Below w.heap.size w wr) (fun _ i _ => n - (intOf i).toNat)
    case atStart => exact ⟨0, Nat.zero_le _, rfl, rfl, Below.refl _ _⟩
    case round =>
      obtain ⟨k, hk, rfl, ha, hbl⟩ := hrel
      have HA := Lib.hid ha; clear ha
      by_cases hlt : k < n
      · have hlt2 : k < m := by have := hm.out; omega
        obtain ⟨ad, rfl, hb1, hcell⟩ := (HX.out.below hbl).at_ hlt
        obtain ⟨ad2, rfl, hb2, hcell2⟩ := (HY.out.below hbl).at_ hlt2
        go_wp2_with fail
        go_quiet (fail)
        go_wp2_with fail
        · go_ret
          have ht : ((nth xs k : Int) != (nth ys k : Int)) = true := by assumption
          refine ⟨ret_bool ?_, below_drewN hbl _⟩
          have : xs ≠ ys := by
            rintro rfl
            simp at ht
          simp [this]
        · have ht : ((nth xs k : Int) != (nth ys k : Int)) = false := by assumption
          refine ⟨⟨k + 1, by omega, by go_num, ?_, below_drewN hbl _⟩, by simp [intOf]; omega⟩
          have h1 := HX.out.len
          have h2 := HY.out.len
          rw [List.take_succ_eq_append_getElem (by omega), List.take_succ_eq_append_getElem (by omega), HA.out, ← nth_eq (by omega), ← nth_eq (by omega)]
          have : nth xs k = nth ys k := by
            simp at ht
            omega
          rw [this]
      · go_wp2_with fail
        go_ret
        refine ⟨ret_bool ?_, hbl⟩
        have h1 := HX.out.len
        have h2 := HY.out.len
        have h3 := HA.out
        have h4 := hm.out
        rw [List.take_of_length_le (by omega), List.take_of_length_le (by omega)] at h3
        simp [h3]
  · have hbq : ((n : Int) != (m : Int)) = true := by simp; omega
    go_enter Try.func14, Try.ntmps14
    go_wp2_with fail
    go_ret
    refine ⟨ret_bool ?_, Below.refl _ _⟩
    have h1 := HX.out.len
    have h2 := HY.out.len
    have : xs ≠ ys := by
      rintro rfl
      omega
    simp [this]

/-- l is a permutation of the numbers from a to b - 1, as the reference asks it. -/
def permB (l : List Int) (a b : Int) : Bool := decide ((l.length : Int) = b - a ∧ (∀ x ∈ l, a ≤ x ∧ x < b) ∧ l.Nodup)
theorem mem_take {l : List Int} {k : Nat} (hk : k < l.length) {x : Int} : x ∈ l.take (k + 1) ↔ x ∈ l.take k ∨ x = inth l k := by
  rw [List.take_succ_eq_append_getElem hk, inth_eq hk, List.mem_append, List.mem_singleton]
theorem nodup_take {l : List Int} {k : Nat} (hk : k < l.length) : (l.take (k + 1)).Nodup ↔ (l.take k).Nodup ∧ ∀ j, j < k → inth l j ≠ inth l k := by
  rw [List.take_succ_eq_append_getElem hk, List.nodup_append, inth_eq hk]
  constructor
  · rintro ⟨h1, _, h2⟩
    refine ⟨h1, fun j hj => ?_⟩
    rw [inth_eq (by omega)]
    exact h2 _ (List.mem_take_iff_getElem.2 ⟨j, by omega, rfl⟩) _ (by simp)
  · rintro ⟨h1, h2⟩
    refine ⟨h1, by simp, fun a ha b hb => ?_⟩
    simp only [List.mem_singleton] at hb
    subst hb
    obtain ⟨j, hj, rfl⟩ := List.mem_take_iff_getElem.1 ha
    have := h2 j (by omega)
    rwa [inth_eq (by omega)] at this

set_option maxHeartbeats 1000000 in
theorem perm_any (A : Option Addr) (l : List Int) (n c : Nat) (a b : Int) (w : World) (hx : Xs w w.heap.size A n l) (ha : 0 ≤ a) (ha2 : a ≤ 1000) (hb : 0 ≤ b) (hb2 : b ≤ 1000) :
    Calls Try.prog 13 #[.slice A n c, .int .i64 a, .int .i64 b] w fun e w' => e = .returned (.bool (permB l a b)) ∧ Below w.heap.size w w' := by
  have hle := hx.le
  have HX := Lib.hid hx; clear hx
  by_cases hn : (n : Int) = b - a
  · have hbq : ((n : Int) != b - a) = false := by simp [hn]
    have HN := Lib.hid hn; clear hn
    go_enter Try.func13, Try.ntmps13
    go_wp2_with fail
    go_loopw [7, 8] (fun i _ wr => ∃ k : Nat, k ≤ n ∧ i = .int .i64 k ∧ ((∀ x ∈ l.take k, a ≤ x ∧ x < b) ∧ (l.take k).Nodup) ∧ Below w.heap.size w wr) (fun i _ _ => n - (intOf i).toNat)
    case atStart => exact ⟨0, Nat.zero_le _, rfl, by simp, Below.refl _ _⟩
    case round =>
      obtain ⟨k, hk, rfl, hq, hbl⟩ := hrel
      have HQ := Lib.hid hq; clear hq
      by_cases hlt : k < n
      · obtain ⟨ad, rfl, hb1, hcell⟩ := (HX.out.below hbl).at_ hlt
        have hlk : k < l.length := by have := HX.out.len; omega
        have hrg := HX.out.lt hlt
        have HB := Lib.hid hbl; clear hbl
        by_cases h1 : inth l k < a
        · go_wp2_with fail
          go_ret
          refine ⟨ret_bool ?_, HB.out⟩
          symm
          simp only [permB, decide_eq_false_iff_not]
          rintro ⟨_, h3, _⟩
          have := h3 _ (inth_mem hlk)
          omega
        by_cases h2 : b ≤ inth l k
        · go_wp2_with fail
          go_ret
          refine ⟨ret_bool ?_, HB.out⟩
          symm
          simp only [permB, decide_eq_false_iff_not]
          rintro ⟨_, h3, _⟩
          have := h3 _ (inth_mem hlk)
          omega
        obtain ⟨wo, rfl⟩ : ∃ wo : World, wo = wr := ⟨_, rfl⟩
        go_wp2_with fail
        go_loopw [8] (fun i wq => ∃ j : Nat, j ≤ k ∧ i = .int .i64 j ∧ (∀ v, v < j → inth l v ≠ inth l k) ∧ Below w.heap.size w wq) (fun i _ => k - (intOf i).toNat)
        case atStart => exact ⟨0, by omega, rfl, fun v h1 => absurd h1 (by omega), HB.out⟩
        case round =>
          obtain ⟨j, hj, rfl, hv, hbl2⟩ := hrel
          have HV := Lib.hid hv; clear hv
          by_cases hj2 : j < k
          · obtain ⟨ad', e1, _, hcell1⟩ := (HX.out.below hbl2).at_ hlt
            obtain ⟨ad2, e2, _, hcell2⟩ := (HX.out.below hbl2).at_ (show j < n by omega)
            cases e1
            cases e2
            have HB2 := Lib.hid hbl2; clear hbl2
            go_wp2_with fail
            go_quiet (fail)
            go_wp2_with fail
            · have ht : (inth l j == inth l k) = true := by assumption
              go_ret
              refine ⟨ret_bool ?_, below_drewN HB2.out _⟩
              symm
              simp only [permB, decide_eq_false_iff_not]
              rintro ⟨_, _, h4⟩
              have h5 := (nodup_take hlk).1 (h4.sublist (List.take_sublist _ _))
              exact h5.2 j hj2 (by simpa using ht)
            · have ht : (inth l j == inth l k) = false := by assumption
              refine ⟨⟨j + 1, by omega, by go_num, fun v hv => ?_, below_drewN HB2.out _⟩, by simp [intOf]; omega⟩
              by_cases hvj : v = j
              · rw [hvj]; simpa using ht
              · exact HV.out v (by omega)
          · go_wp2_with fail
            refine ⟨⟨k + 1, by omega, by go_num, ⟨fun x hx => ?_, ?_⟩, hbl2⟩, by simp [intOf]; omega⟩
            · rcases (mem_take hlk).1 hx with h | h
              · exact HQ.out.1 x h
              · rw [h]; omega
            · exact (nodup_take hlk).2 ⟨HQ.out.2, fun v hv => HV.out v (by omega)⟩
      · go_wp2_with fail
        go_ret
        refine ⟨ret_bool ?_, hbl⟩
        have h1 := HX.out.len
        have h3 := HQ.out
        have h4 := HN.out
        rw [List.take_of_length_le (by omega)] at h3
        symm
        simp only [permB, decide_eq_true_eq]
        exact ⟨by omega, h3.1, h3.2⟩
  · have hbq : ((n : Int) != b - a) = true := by simp; omega
    go_enter Try.func13, Try.ntmps13
    go_wp2_with fail
    go_ret
    refine ⟨ret_bool ?_, Below.refl _ _⟩
    have h1 := HX.out.len
    symm
    simp only [permB, decide_eq_false_iff_not]
    rintro ⟨h2, _⟩
    omega

end Go.Proofs.Ytdagdamliggfmaa
