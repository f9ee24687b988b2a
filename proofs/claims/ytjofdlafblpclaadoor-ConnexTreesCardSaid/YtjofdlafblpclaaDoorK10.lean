/-
The walk of law31.ConnexDecides.
Plain: lists of parents (rooted trees), the order of their nodes, another root, the tree that the reduction builds.
Contracts of slices.Index, Contains and Clone at int.
-/
import Derived.Test.YtjofdlafblpclaaDoorK9
import Derived.Test.YtjofdlafblpclaaDoorK3
namespace Go.Proofs.YtjofdlafblpclaaDoor
open Go.RowKit
set_option linter.unusedSimpArgs false
set_option linter.unusedVariables false

theorem free_zero {n : Int} {es : List Nat} {f : Int} (h : freeCode n es f = 0) : checkCode n es = 0 ∧ 0 ≤ f ∧ f ≤ n := by
  unfold freeCode at h
  by_cases hc : checkCode n es = 0
  · rw [if_pos hc] at h
    split at h
    · cases h
    · rename_i h2; exact ⟨hc, by omega, by omega⟩
  · rw [if_neg hc] at h; exact absurd h hc
theorem great_false {n : Int} {es : List Nat} (h : greatB n es = false) (hc : checkCode n es = 0) : n ≤ 6 ∧ es.length ≤ 8 := by
  unfold greatB at h
  have := of_decide_eq_false h
  constructor
  · rcases Int.lt_or_le 6 n with h1 | h1
    · exact absurd (.inl ⟨hc, .inl h1⟩) this
    · exact h1
  · rcases Nat.lt_or_ge 8 es.length with h1 | h1
    · exact absurd (.inl ⟨hc, .inr h1⟩) this
    · exact h1
theorem iff_true {b : Bool} {p : Prop} (h : b = true ↔ p) (hp : p) : b = true := h.2 hp
theorem iff_false {b : Bool} {p : Prop} (h : b = true ↔ p) (hp : ¬ p) : b = false := by
  cases b with
  | false => rfl
  | true => exact absurd (h.1 rfl) hp
set_option maxRecDepth 100000 in
set_option maxHeartbeats 8000000 in
theorem connexDecides_walk (n : Int) (A : Option Addr) (es : List Nat) (len c : Nat) (f : Int) (w : World) (hG0 : GTab w) (hr : Es w w.heap.size A len es) (_ : -9223372036854775808 ≤ n ∧ n ≤ 9223372036854775807) (_ : len ≤ c) (_ : -9223372036854775808 ≤ f ∧ f ≤ 9223372036854775807) :
    Calls Tryd.prog 3 #[.agg #[.int .i64 n, .slice A len c], .int .i64 f] w fun e w' => e = .returned (.bool true) ∧ Below w.heap.size w w' := by
  have HLEN := Lib.hid hr.len
  have HR := Lib.hid hr; clear hr
  have HGT := Lib.hid hG0; clear hG0
  have HG := Lib.hid (GB.made w 24 (.int .i64 n) (.slice A len c))
  have HB := Lib.hid (al w (.cells #[.int .i64 n, .slice A len c] 24))
  cases hgr : greatB n es with
  | true =>
    have HQ := Lib.hid hgr; clear hgr
    go_enter Tryd.func3, Tryd.ntmps3
    have g0 := HG.out.c0; have g1 := HG.out.c1; have glt := HG.out.lt
    go_wp2_with fail
    refine (great_any n A es len c _ (HR.out.new HB.out)).mono ?_
    rintro e wx ⟨rfl, hb⟩
    rw [HQ.out]
    replace HG := Lib.hid (HG.out.new hb); replace HB := Lib.hid (bthen HB.out hb HB.out.size)
    clear hb g0 g1 glt
    have g0 := HG.out.c0; have g1 := HG.out.c1; have glt := HG.out.lt
    go_wp2_with fail
    refine (awake31_any _ (HGT.out.new HB.out)).mono ?_
    rintro e wx ⟨rfl, hb⟩
    replace HG := Lib.hid (HG.out.new hb); replace HB := Lib.hid (bthen HB.out hb HB.out.size)
    clear hb g0 g1 glt
    have g0 := HG.out.c0; have g1 := HG.out.c1; have glt := HG.out.lt
    go_wp2_with fail
    go_ret
    exact ⟨rfl, HB.out⟩
  | false =>
    have HQ := Lib.hid hgr
    by_cases hfc : freeCode n es f = 0
    · obtain ⟨hcc, hf0, hfn⟩ := free_zero hfc
      obtain ⟨hn6, hl8⟩ := great_false hgr hcc
      clear hgr
      obtain ⟨h0, hn32, _, hes⟩ := checkCode_zero hcc
      obtain ⟨n, rfl⟩ := Int.eq_ofNat_of_zero_le h0
      obtain ⟨f, rfl⟩ := Int.eq_ofNat_of_zero_le hf0
      have hes' : ∀ e ∈ es, e < 2 ^ n := by simpa using hes
      have hfn' : f ≤ n := by omega
      have hn' : n ≤ 32 := by omega
      have HES := Lib.hid hes'; have HC := Lib.hid hcc; have HFC := Lib.hid hfc
      have HL8 := Lib.hid hl8
      have HCX := Lib.hid (code_ok hn' (by rw [List.length_append, List.length_singleton]; omega) (bound_snoc hfn' hes'))
      have hl9 : len ≤ 8 := by rw [HLEN.out]; exact hl8
      clear hes hes' hcc hfc hf0 hfn h0 hn32 hl8
      by_cases hA : Acyc n es
      · by_cases hX : Acyc n (es ++ [2 ^ f - 1])
        · skip
          go_enter Tryd.func3, Tryd.ntmps3
          have g0 := HG.out.c0; have g1 := HG.out.c1; have glt := HG.out.lt
          go_wp2_with fail
          refine (great_any n A es len c _ (HR.out.new HB.out)).mono ?_
          rintro e wx ⟨rfl, hb⟩
          rw [HQ.out]
          replace HG := Lib.hid (HG.out.new hb); replace HB := Lib.hid (bthen HB.out hb HB.out.size)
          clear hb g0 g1 glt
          have g0 := HG.out.c0; have g1 := HG.out.c1; have glt := HG.out.lt
          go_wp2_with fail
          refine (connex_ok n f A es len c _ (HR.out.new HB.out) HC.out hfn' (by omega)).mono ?_
          rintro e wx ⟨b, hb0, rfl, hb⟩
          obtain rfl : b = true := iff_true hb0 ⟨hA, hX⟩
          clear hb0
          replace HG := Lib.hid (HG.out.new hb); replace HB := Lib.hid (bthen HB.out hb HB.out.size)
          clear hb g0 g1 glt
          have g0 := HG.out.c0; have g1 := HG.out.c1; have glt := HG.out.lt
          go_wp2_with fail
          refine (wrong_any n A es len c f _ (HR.out.new HB.out)).mono ?_
          rintro e wx ⟨rfl, hb⟩
          rw [HFC.out]
          replace HG := Lib.hid (HG.out.new hb); replace HB := Lib.hid (bthen HB.out hb HB.out.size)
          clear hb g0 g1 glt
          have g0 := HG.out.c0; have g1 := HG.out.c1; have glt := HG.out.lt
          go_wp2_with fail
          refine (acyclic_ok n A es len c _ (HR.out.new HB.out) HC.out).mono ?_
          rintro e wx ⟨b, hb0, rfl, hb⟩
          obtain rfl : b = true := iff_true hb0 hA
          clear hb0
          replace HG := Lib.hid (HG.out.new hb); replace HB := Lib.hid (bthen HB.out hb HB.out.size)
          clear hb g0 g1 glt
          have g0 := HG.out.c0; have g1 := HG.out.c1; have glt := HG.out.lt
          go_wp2_with fail
          refine (lext_any n f A es len c _ (HR.out.new HB.out) (by omega) (by omega)).mono ?_
          rintro e wx ⟨v3, rfl, hown, hb⟩
          obtain ⟨A3, c3, rfl, he3⟩ := Es.of_rowU hown (fun y hy => Nat.lt_of_lt_of_le (bound_snoc hfn' HES.out y hy) (two_pow_le hn'))
          rw [show (es ++ [2 ^ f - 1] : List Nat).length = es.length + 1 by simp] at he3
          have HE3 := Lib.hid he3; clear he3 hown
          replace HG := Lib.hid (HG.out.new hb); replace HB := Lib.hid (bthen HB.out hb HB.out.size)
          clear hb g0 g1 glt
          have g0 := HG.out.c0; have g1 := HG.out.c1; have glt := HG.out.lt
          go_wp2_with fail
          refine (acyclic_ok n A3 (es ++ [2 ^ f - 1]) _ c3 _ HE3.out HCX.out).mono ?_
          rintro e wx ⟨b, hb0, rfl, hb⟩
          obtain rfl : b = true := iff_true hb0 hX
          clear hb0
          replace HG := Lib.hid (HG.out.new hb); replace HB := Lib.hid (bthen HB.out hb HB.out.size)
          clear hb g0 g1 glt
          have g0 := HG.out.c0; have g1 := HG.out.c1; have glt := HG.out.lt
          go_wp2_with fail
          refine (awake31_any _ (HGT.out.new HB.out)).mono ?_
          rintro e wx ⟨rfl, hb⟩
          replace HG := Lib.hid (HG.out.new hb); replace HB := Lib.hid (bthen HB.out hb HB.out.size)
          clear hb g0 g1 glt
          have g0 := HG.out.c0; have g1 := HG.out.c1; have glt := HG.out.lt
          go_wp2_with fail
          go_ret
          exact ⟨rfl, HB.out⟩
        · skip
          go_enter Tryd.func3, Tryd.ntmps3
          have g0 := HG.out.c0; have g1 := HG.out.c1; have glt := HG.out.lt
          go_wp2_with fail
          refine (great_any n A es len c _ (HR.out.new HB.out)).mono ?_
          rintro e wx ⟨rfl, hb⟩
          rw [HQ.out]
          replace HG := Lib.hid (HG.out.new hb); replace HB := Lib.hid (bthen HB.out hb HB.out.size)
          clear hb g0 g1 glt
          have g0 := HG.out.c0; have g1 := HG.out.c1; have glt := HG.out.lt
          go_wp2_with fail
          refine (connex_ok n f A es len c _ (HR.out.new HB.out) HC.out hfn' (by omega)).mono ?_
          rintro e wx ⟨b, hb0, rfl, hb⟩
          obtain rfl : b = false := iff_false hb0 (fun h => hX h.2)
          clear hb0
          replace HG := Lib.hid (HG.out.new hb); replace HB := Lib.hid (bthen HB.out hb HB.out.size)
          clear hb g0 g1 glt
          have g0 := HG.out.c0; have g1 := HG.out.c1; have glt := HG.out.lt
          go_wp2_with fail
          refine (wrong_any n A es len c f _ (HR.out.new HB.out)).mono ?_
          rintro e wx ⟨rfl, hb⟩
          rw [HFC.out]
          replace HG := Lib.hid (HG.out.new hb); replace HB := Lib.hid (bthen HB.out hb HB.out.size)
          clear hb g0 g1 glt
          have g0 := HG.out.c0; have g1 := HG.out.c1; have glt := HG.out.lt
          go_wp2_with fail
          refine (acyclic_ok n A es len c _ (HR.out.new HB.out) HC.out).mono ?_
          rintro e wx ⟨b, hb0, rfl, hb⟩
          obtain rfl : b = true := iff_true hb0 hA
          clear hb0
          replace HG := Lib.hid (HG.out.new hb); replace HB := Lib.hid (bthen HB.out hb HB.out.size)
          clear hb g0 g1 glt
          have g0 := HG.out.c0; have g1 := HG.out.c1; have glt := HG.out.lt
          go_wp2_with fail
          refine (lext_any n f A es len c _ (HR.out.new HB.out) (by omega) (by omega)).mono ?_
          rintro e wx ⟨v3, rfl, hown, hb⟩
          obtain ⟨A3, c3, rfl, he3⟩ := Es.of_rowU hown (fun y hy => Nat.lt_of_lt_of_le (bound_snoc hfn' HES.out y hy) (two_pow_le hn'))
          rw [show (es ++ [2 ^ f - 1] : List Nat).length = es.length + 1 by simp] at he3
          have HE3 := Lib.hid he3; clear he3 hown
          replace HG := Lib.hid (HG.out.new hb); replace HB := Lib.hid (bthen HB.out hb HB.out.size)
          clear hb g0 g1 glt
          have g0 := HG.out.c0; have g1 := HG.out.c1; have glt := HG.out.lt
          go_wp2_with fail
          refine (acyclic_ok n A3 (es ++ [2 ^ f - 1]) _ c3 _ HE3.out HCX.out).mono ?_
          rintro e wx ⟨b, hb0, rfl, hb⟩
          obtain rfl : b = false := iff_false hb0 hX
          clear hb0
          replace HG := Lib.hid (HG.out.new hb); replace HB := Lib.hid (bthen HB.out hb HB.out.size)
          clear hb g0 g1 glt
          have g0 := HG.out.c0; have g1 := HG.out.c1; have glt := HG.out.lt
          go_wp2_with fail
          refine (awake31_any _ (HGT.out.new HB.out)).mono ?_
          rintro e wx ⟨rfl, hb⟩
          replace HG := Lib.hid (HG.out.new hb); replace HB := Lib.hid (bthen HB.out hb HB.out.size)
          clear hb g0 g1 glt
          have g0 := HG.out.c0; have g1 := HG.out.c1; have glt := HG.out.lt
          go_wp2_with fail
          go_ret
          exact ⟨rfl, HB.out⟩
      · skip
        go_enter Tryd.func3, Tryd.ntmps3
        have g0 := HG.out.c0; have g1 := HG.out.c1; have glt := HG.out.lt
        go_wp2_with fail
        refine (great_any n A es len c _ (HR.out.new HB.out)).mono ?_
        rintro e wx ⟨rfl, hb⟩
        rw [HQ.out]
        replace HG := Lib.hid (HG.out.new hb); replace HB := Lib.hid (bthen HB.out hb HB.out.size)
        clear hb g0 g1 glt
        have g0 := HG.out.c0; have g1 := HG.out.c1; have glt := HG.out.lt
        go_wp2_with fail
        refine (connex_ok n f A es len c _ (HR.out.new HB.out) HC.out hfn' (by omega)).mono ?_
        rintro e wx ⟨b, hb0, rfl, hb⟩
        obtain rfl : b = false := iff_false hb0 (fun h => hA h.1)
        clear hb0
        replace HG := Lib.hid (HG.out.new hb); replace HB := Lib.hid (bthen HB.out hb HB.out.size)
        clear hb g0 g1 glt
        have g0 := HG.out.c0; have g1 := HG.out.c1; have glt := HG.out.lt
        go_wp2_with fail
        refine (wrong_any n A es len c f _ (HR.out.new HB.out)).mono ?_
        rintro e wx ⟨rfl, hb⟩
        rw [HFC.out]
        replace HG := Lib.hid (HG.out.new hb); replace HB := Lib.hid (bthen HB.out hb HB.out.size)
        clear hb g0 g1 glt
        have g0 := HG.out.c0; have g1 := HG.out.c1; have glt := HG.out.lt
        go_wp2_with fail
        refine (acyclic_ok n A es len c _ (HR.out.new HB.out) HC.out).mono ?_
        rintro e wx ⟨b, hb0, rfl, hb⟩
        obtain rfl : b = false := iff_false hb0 hA
        clear hb0
        replace HG := Lib.hid (HG.out.new hb); replace HB := Lib.hid (bthen HB.out hb HB.out.size)
        clear hb g0 g1 glt
        have g0 := HG.out.c0; have g1 := HG.out.c1; have glt := HG.out.lt
        go_wp2_with fail
        refine (awake31_any _ (HGT.out.new HB.out)).mono ?_
        rintro e wx ⟨rfl, hb⟩
        replace HG := Lib.hid (HG.out.new hb); replace HB := Lib.hid (bthen HB.out hb HB.out.size)
        clear hb g0 g1 glt
        have g0 := HG.out.c0; have g1 := HG.out.c1; have glt := HG.out.lt
        go_wp2_with fail
        go_ret
        exact ⟨rfl, HB.out⟩
    · have t0 : (freeCode n es f != 0) = true := by simp [hfc]
      have HFC := Lib.hid hfc; clear hfc hgr
      go_enter Tryd.func3, Tryd.ntmps3
      have g0 := HG.out.c0; have g1 := HG.out.c1; have glt := HG.out.lt
      go_wp2_with fail
      refine (great_any n A es len c _ (HR.out.new HB.out)).mono ?_
      rintro e wx ⟨rfl, hb⟩
      rw [HQ.out]
      replace HG := Lib.hid (HG.out.new hb); replace HB := Lib.hid (bthen HB.out hb HB.out.size)
      clear hb g0 g1 glt
      have g0 := HG.out.c0; have g1 := HG.out.c1; have glt := HG.out.lt
      go_wp2_with fail
      refine (connex_bad n f A es len c _ (HR.out.new HB.out) HFC.out).mono ?_
      rintro e wx ⟨rfl, hb⟩
      replace HG := Lib.hid (HG.out.new hb); replace HB := Lib.hid (bthen HB.out hb HB.out.size)
      clear hb g0 g1 glt
      have g0 := HG.out.c0; have g1 := HG.out.c1; have glt := HG.out.lt
      go_wp2_with fail
      refine (wrong_any n A es len c f _ (HR.out.new HB.out)).mono ?_
      rintro e wx ⟨rfl, hb⟩
      replace HG := Lib.hid (HG.out.new hb); replace HB := Lib.hid (bthen HB.out hb HB.out.size)
      clear hb g0 g1 glt
      have g0 := HG.out.c0; have g1 := HG.out.c1; have glt := HG.out.lt
      go_wp2_with fail
      refine (awake31_any _ (HGT.out.new HB.out)).mono ?_
      rintro e wx ⟨rfl, hb⟩
      replace HG := Lib.hid (HG.out.new hb); replace HB := Lib.hid (bthen HB.out hb HB.out.size)
      clear hb g0 g1 glt
      have g0 := HG.out.c0; have g1 := HG.out.c1; have glt := HG.out.lt
      go_wp2_with fail
      go_ret
      exact ⟨rfl, HB.out⟩
end Go.Proofs.YtjofdlafblpclaaDoor
namespace Go.Proofs.YtjofdlafblpclaaDoor
set_option linter.unusedVariables false

theorem cnt_split {p q : Nat → Bool} {m v : Nat} (hv : v < m) (hp : p v = true) (hq : q v = false) (h : ∀ c, c ≠ v → p c = q c) : (List.range m).countP p = (List.range m).countP q + 1 := by
  induction m with
  | zero => omega
  | succ m ih =>
    rw [List.range_succ, List.countP_append, List.countP_append]
    by_cases hm : v = m
    · subst hm
      have e : (List.range v).countP p = (List.range v).countP q := by
        apply List.countP_congr
        intro c hc
        rw [h c (by have := List.mem_range.1 hc; omega)]
      rw [e]; simp [hp, hq]
    · rw [ih (by omega)]
      simp [h m (Ne.symm hm)]; omega
theorem cnt_same {p q : Nat → Bool} {m : Nat} (h : ∀ c, c < m → p c = q c) : (List.range m).countP p = (List.range m).countP q :=
  List.countP_congr fun c hc => by rw [h c (List.mem_range.1 hc)]
theorem cnt_zero {p : Nat → Bool} {m : Nat} (h : (List.range m).countP p = 0) {c : Nat} (hc : c < m) : p c = false := by
  rw [List.countP_eq_zero] at h
  simpa using h c (List.mem_range.2 hc)
theorem cnt_le (p : Nat → Bool) (m : Nat) : (List.range m).countP p ≤ m := by
  have := List.countP_le_length (p := p) (l := List.range m)
  rwa [List.length_range] at this
theorem cnt_pos {p : Nat → Bool} {m c : Nat} (hc : c < m) (hp : p c = true) : 0 < (List.range m).countP p := List.countP_pos_iff.2 ⟨c, List.mem_range.2 hc, hp⟩
theorem cnt_one {p : Nat → Bool} {m i j : Nat} (hi : i < m) (hj : j < m) (h1 : p i = true) (h2 : p j = true) (h : (List.range m).countP p ≤ 1) : i = j := by
  by_cases hij : i = j
  · exact hij
  · have e := cnt_split (p := p) (q := fun c => p c && decide (c ≠ i)) hi h1 (by simp) (fun c hc => by simp [hc])
    have e2 := cnt_pos (p := fun c => p c && decide (c ≠ i)) hj (by simp [h2]; exact Ne.symm hij)
    omega
theorem cnt_le_one {p : Nat → Bool} {m : Nat} (h : ∀ i j, i < m → j < m → p i = true → p j = true → i = j) : (List.range m).countP p ≤ 1 := by
  rcases Nat.lt_or_ge 0 ((List.range m).countP p) with h0 | h0
  · obtain ⟨a, ha, hpa⟩ := List.countP_pos_iff.1 h0
    have ha' := List.mem_range.1 ha
    have e := cnt_split (p := p) (q := fun c => p c && decide (c ≠ a)) ha' hpa (by simp) (fun c hc => by simp [hc])
    rw [e]
    have : (List.range m).countP (fun c => p c && decide (c ≠ a)) = 0 := by
      rw [List.countP_eq_zero]
      intro c hc
      simp only [Bool.and_eq_true, decide_eq_true_eq, not_and, Decidable.not_not]
      intro hpc
      exact h c a (List.mem_range.1 hc) ha' hpc hpa
    omega
  · omega

theorem fun_bound (d : Nat → Nat) (m : Nat) : ∃ D, ∀ u, u < m → d u ≤ D := by
  induction m with
  | zero => exact ⟨0, fun u hu => by omega⟩
  | succ m ih =>
    obtain ⟨D, hD⟩ := ih
    refine ⟨D + d m, fun u hu => ?_⟩
    by_cases hum : u = m
    · subst hum; omega
    · have := hD u (by omega); omega
/-- The parents of a tree with root rt. -/
def PTree (P : List Int) (m rt : Nat) : Prop :=
  P.length = m ∧ rt < m ∧ inth P rt = -1 ∧ ∃ d : Nat → Nat, ∀ u, u < m → u ≠ rt → ∃ p, p < m ∧ inth P u = (p : Int) ∧ d p < d u
section
variable {P : List Int} {m rt : Nat}
theorem PTree.len (h : PTree P m rt) : P.length = m := h.1
theorem PTree.lt (h : PTree P m rt) : rt < m := h.2.1
theorem PTree.root (h : PTree P m rt) : inth P rt = -1 := h.2.2.1
theorem PTree.up (h : PTree P m rt) {u : Nat} (hu : u < m) : (u = rt ∧ inth P u = -1) ∨ (u ≠ rt ∧ ∃ p, p < m ∧ p ≠ u ∧ inth P u = (p : Int)) := by
  by_cases hr : u = rt
  · exact .inl ⟨hr, by rw [hr]; exact h.root⟩
  · obtain ⟨_, _, _, d, hd⟩ := h
    obtain ⟨p, h1, h2, h3⟩ := hd u hu hr
    exact .inr ⟨hr, p, h1, by rintro rfl; omega, h2⟩
/-- How many of the first k nodes have no parent. -/
def rootsTo (P : List Int) (k : Nat) : Nat := (List.range k).countP fun c => inth P c == -1
theorem rootsTo_succ (P : List Int) (k : Nat) : rootsTo P (k + 1) = rootsTo P k + if inth P k = -1 then 1 else 0 := by
  unfold rootsTo
  rw [List.range_succ, List.countP_append]
  by_cases h : inth P k = -1 <;> simp [h]
theorem PTree.one (h : PTree P m rt) : rootsTo P m = 1 := by
  have e := cnt_split (p := fun c => inth P c == -1) (q := fun _ => false) (m := m) (v := rt) h.lt (by simp [h.root]) rfl (fun c hc => by
    by_cases hcm : c < m
    · rcases h.up hcm with h1 | ⟨_, p, _, _, h2⟩
      · exact absurd h1.1 hc
      · rw [h2]; rw [beq_eq_false_iff_ne]; omega
    · have : inth P c = 0 := by
        unfold inth
        rw [List.getD_eq_getElem?_getD, List.getElem?_eq_none (by rw [h.len]; omega)]; rfl
      rw [this]; rfl)
  rw [rootsTo, e]; simp
/-- The children of u among the first k nodes. -/
def kidsTo (P : List Int) (k u : Nat) : Nat := (List.range k).countP fun c => inth P c == (u : Int)
theorem kidsTo_succ (P : List Int) (k u : Nat) : kidsTo P (k + 1) u = kidsTo P k u + if inth P k = (u : Int) then 1 else 0 := by
  unfold kidsTo
  rw [List.range_succ, List.countP_append]
  by_cases h : inth P k = (u : Int) <;> simp [h]
/-- The children of u that have not been returned. -/
def kids (P : List Int) (m : Nat) (R : List Nat) (u : Nat) : Nat := (List.range m).countP fun c => (inth P c == (u : Int)) && !decide (c ∈ R)
theorem kids_nil (P : List Int) (m u : Nat) : kids P m [] u = kidsTo P m u := by simp [kids, kidsTo]
theorem kids_le (P : List Int) (m : Nat) (R : List Nat) (u : Nat) : kids P m R u ≤ m := cnt_le _ _
theorem kids_snoc {R : List Nat} {v : Nat} (hv : v < m) (hR : v ∉ R) (u : Nat) : kids P m R u = kids P m (R ++ [v]) u + if inth P v = (u : Int) then 1 else 0 := by
  unfold kids
  by_cases h : inth P v = (u : Int)
  · rw [if_pos h]
    exact cnt_split hv (by simp [h, hR]) (by simp) (fun c hc => by simp [hc])
  · rw [if_neg h]
    refine cnt_same fun c _ => ?_
    by_cases hcv : c = v
    · subst hcv; simp [h]
    · simp [hcv]
/-- What holds between the nodes of the outer loop. -/
structure OInv (P : List Int) (m : Nat) (R : List Nat) (i : Nat) : Prop where
  nd : R.Nodup
  lt : ∀ x ∈ R, x < i
  zero : ∀ x ∈ R, kids P m R x = 0
  all : ∀ u, u < i → kids P m R u = 0 → u ∈ R
/-- What holds within. -/
structure IInv (P : List Int) (m : Nat) (R : List Nat) (i : Nat) (v : Int) : Prop where
  nd : R.Nodup
  lt : ∀ x ∈ R, x ≤ i
  zero : ∀ x ∈ R, kids P m R x = 0
  all : ∀ u, u ≤ i → kids P m R u = 0 → u ∈ R ∨ v = (u : Int)
  at_ : v = -1 ∨ ∃ u, u < m ∧ v = (u : Int) ∧ u ∉ R
theorem OInv.start : OInv P m [] 0 := ⟨List.nodup_nil, by simp, by simp, fun u hu => by omega⟩
theorem OInv.enter {R : List Nat} {i : Nat} (h : OInv P m R i) (hi : i < m) : IInv P m R i (i : Int) :=
  ⟨h.nd, fun x hx => by have := h.lt x hx; omega, h.zero, fun u hu hz => by
    by_cases hui : u = i
    · exact .inr (by rw [hui])
    · exact .inl (h.all u (by omega) hz), .inr ⟨i, hi, rfl, fun hh => by have := h.lt i hh; omega⟩⟩
theorem IInv.step {R : List Nat} {i u : Nat} (hP : PTree P m rt) (h : IInv P m R i (u : Int)) (hu : u ≤ i) (hz : kids P m R u = 0) : IInv P m (R ++ [u]) i (inth P u) := by
  obtain ⟨u', hum, he, hn⟩ : ∃ u', u' < m ∧ (u : Int) = (u' : Int) ∧ u' ∉ R := by
    rcases h.at_ with h1 | h1
    · omega
    · exact h1
  obtain rfl : u = u' := by omega
  have hk := kids_snoc (P := P) hum hn
  have hup := hP.up hum
  refine ⟨?_, fun x hx => ?_, fun x hx => ?_, fun x hx hx0 => ?_, ?_⟩
  · rw [List.nodup_append]
    exact ⟨h.nd, by simp, fun a ha b hb => by simp at hb; subst hb; rintro rfl; exact hn ha⟩
  · rw [List.mem_append, List.mem_singleton] at hx
    rcases hx with h1 | rfl
    · exact h.lt x h1
    · exact hu
  · have := hk x
    rw [List.mem_append, List.mem_singleton] at hx
    rcases hx with h1 | rfl
    · have := h.zero x h1; omega
    · omega
  · have := hk x
    rw [List.mem_append, List.mem_singleton]
    by_cases hpx : inth P u = (x : Int)
    · exact .inr hpx
    · rw [if_neg hpx] at this
      rcases h.all x hx (by omega) with h1 | h1
      · exact .inl (.inl h1)
      · exact .inl (.inr (by omega))
  · rcases hup with ⟨_, h1⟩ | ⟨_, p, h1, h2, h3⟩
    · exact .inl h1
    · refine .inr ⟨p, h1, h3, fun hp => ?_⟩
      rw [List.mem_append, List.mem_singleton] at hp
      rcases hp with h4 | rfl
      · have h5 := h.zero p h4
        have h6 := hk p
        rw [if_pos h3] at h6; omega
      · exact h2 rfl
theorem IInv.leave {R : List Nat} {i : Nat} {v : Int} (h : IInv P m R i v) (hv : v < 0 ∨ (i : Int) < v ∨ ∃ u : Nat, v = (u : Int) ∧ kids P m R u ≠ 0) : OInv P m R (i + 1) :=
  ⟨h.nd, fun x hx => by have := h.lt x hx; omega, h.zero, fun u hu hz => by
    rcases h.all u (by omega) hz with h1 | h1
    · exact h1
    · rcases hv with h2 | h2 | ⟨u', h2, h3⟩
      · omega
      · omega
      · obtain rfl : u = u' := by omega
        exact absurd hz h3⟩
theorem OInv.full (hP : PTree P m rt) {R : List Nat} (h : OInv P m R m) : R.length = m := by
  obtain ⟨_, _, _, d, hd⟩ := id hP
  have hbd : ∃ D, ∀ u, u < m → d u ≤ D := by
    exact fun_bound d m
  obtain ⟨D, hD⟩ := hbd
  have key : ∀ k u, u < m → D - d u ≤ k → u ∈ R := by
    intro k
    induction k with
    | zero =>
      intro u hu hk
      refine h.all u hu ?_
      rw [kids, List.countP_eq_zero]
      intro c hc
      have hc' := List.mem_range.1 hc
      simp only [Bool.and_eq_true, beq_iff_eq, Bool.not_eq_true', decide_eq_false_iff_not, not_and, Decidable.not_not]
      intro hpc
      by_cases hcr : c = rt
      · have := hP.root; rw [hcr] at hpc; omega
      · obtain ⟨p, h1, h2, h3⟩ := hd c hc' hcr
        obtain rfl : p = u := by omega
        have := hD c hc'; omega
    | succ k ih =>
      intro u hu hk
      refine h.all u hu ?_
      rw [kids, List.countP_eq_zero]
      intro c hc
      have hc' := List.mem_range.1 hc
      simp only [Bool.and_eq_true, beq_iff_eq, Bool.not_eq_true', decide_eq_false_iff_not, not_and, Decidable.not_not]
      intro hpc
      by_cases hcr : c = rt
      · have := hP.root; rw [hcr] at hpc; omega
      · obtain ⟨p, h1, h2, h3⟩ := hd c hc' hcr
        obtain rfl : p = u := by omega
        exact ih c hc' (by have := hD c hc'; omega)
  have hp : R.Perm (List.range m) := (List.perm_ext_iff_of_nodup h.nd List.nodup_range).2 fun x => by
    rw [List.mem_range]
    exact ⟨h.lt x, fun hx => key _ x hx (Nat.le_refl _)⟩
  rw [hp.length_eq, List.length_range]
theorem nodup_le : ∀ (n : Nat) (l : List Nat), l.Nodup → (∀ x ∈ l, x < n) → l.length ≤ n := by
  intro n
  induction n with
  | zero =>
    intro l _ h
    cases l with
    | nil => simp
    | cons x l => have := h x (by simp); omega
  | succ n ih =>
    intro l hd h
    have h1 := ih (l.erase n) (hd.erase n) (fun x hx => by
      have h2 := (hd.mem_erase_iff).1 hx
      have := h x h2.2; have := h2.1; omega)
    rw [List.length_erase] at h1
    split at h1 <;> omega
theorem OInv.len_le {R : List Nat} {i : Nat} (h : OInv P m R i) : R.length ≤ i := nodup_le i R h.nd h.lt
theorem IInv.len_le {R : List Nat} {i : Nat} {v : Int} (h : IInv P m R i v) : R.length ≤ i + 1 := by
  exact nodup_le (i + 1) R h.nd (fun x hx => by have := h.lt x hx; omega)
end

/-- A node with a vertex whose parent lacks it. -/
def topAt (es : List Nat) (P : List Int) (u x : Nat) : Bool := (nth es u).testBit x && !(decide (0 ≤ inth P u) && (nth es (inth P u).toNat).testBit x)
def tops (es : List Nat) (P : List Int) (m x : Nat) : Nat := (List.range m).countP fun u => topAt es P u x
/-- A join tree: the nodes with a vertex are connected. -/
def JoinT (es : List Nat) (P : List Int) (m : Nat) : Prop := ∀ x, tops es P m x ≤ 1

/-- What holds at the head of the loop that turns the edges to another root. -/
structure ReI (P Q : List Int) (m rt s : Nat) (d : Nat → Nat) (vis : Nat → Bool) (d' : Nat → Nat) (j : Nat) (v fr : Int) : Prop where
  len : Q.length = m
  old : ∀ u, u < m → vis u = false → inth Q u = inth P u
  new : ∀ u, u < m → vis u = true → d' u < j ∧ ((u = s ∧ inth Q u = -1) ∨ (u ≠ s ∧ ∃ p, p < m ∧ vis p = true ∧ inth Q u = (p : Int) ∧ d' p < d' u))
  from_ : (fr = -1 ∧ v = (s : Int) ∧ ∀ u, vis u = false) ∨ ∃ a, a < m ∧ fr = (a : Int) ∧ vis a = true ∧ vis s = true ∧ inth P a = v
  to_ : (v = -1 ∧ vis rt = true) ∨ ∃ b, b < m ∧ v = (b : Int) ∧ vis b = false ∧ ∀ u, u < m → vis u = true → d b < d u
section
variable {P Q : List Int} {m rt s : Nat} {d d' : Nat → Nat} {vis : Nat → Bool} {j : Nat} {v fr : Int}
theorem ReI.start (hP : PTree P m rt) (hs : s < m) (d : Nat → Nat) : ReI P P m rt s d (fun _ => false) d 0 (s : Int) (-1) :=
  ⟨hP.len, fun _ _ _ => rfl, fun u _ h => absurd h (by simp), .inl ⟨rfl, rfl, fun _ => rfl⟩, .inr ⟨s, hs, rfl, rfl, fun u _ h => absurd h (by simp)⟩⟩
theorem ReI.step (hP : PTree P m rt) (hd : ∀ u, u < m → u ≠ rt → ∃ p, p < m ∧ inth P u = (p : Int) ∧ d p < d u) {b : Nat} (h : ReI P Q m rt s d vis d' j (b : Int) fr) :
    b < m ∧ ReI P (Q.set b fr) m rt s d (fun u => decide (u = b) || vis u) (fun u => if u = b then j else d' u) (j + 1) (inth P b) (b : Int) := by
  obtain ⟨b', hbm, he, hvb, hlt⟩ : ∃ b', b' < m ∧ (b : Int) = (b' : Int) ∧ vis b' = false ∧ ∀ u, u < m → vis u = true → d b' < d u := by
    rcases h.to_ with h1 | h1
    · omega
    · exact h1
  obtain rfl : b = b' := by omega
  refine ⟨hbm, ⟨by rw [List.length_set]; exact h.len, fun u hu hvu => ?_, fun u hu hvu => ?_, ?_, ?_⟩⟩
  · simp only [Bool.or_eq_false_iff, decide_eq_false_iff_not] at hvu
    rw [inth_set (by rw [h.len]; exact hbm), if_neg hvu.1]
    exact h.old u hu hvu.2
  · rw [inth_set (by rw [h.len]; exact hbm)]
    by_cases hub : u = b
    · subst hub
      simp only [if_pos]
      refine ⟨by omega, ?_⟩
      rcases h.from_ with ⟨h1, h2, h3⟩ | ⟨a, h1, h2, h3, h4, h5⟩
      · exact .inl ⟨by omega, h1⟩
      · refine .inr ⟨?_, a, h1, by rw [h3]; simp, h2, ?_⟩
        · rintro rfl; rw [hvb] at h4; cases h4
        · have hau : a ≠ u := by rintro rfl; rw [hvb] at h3; cases h3
          rw [if_neg hau]; exact (h.new a h1 h3).1
    · have hvu' : vis u = true := by simpa [hub] using hvu
      obtain ⟨h1, h2⟩ := h.new u hu hvu'
      simp only [if_neg hub]
      refine ⟨by omega, ?_⟩
      rcases h2 with h2 | ⟨h2, p, h3, h4, h5, h6⟩
      · exact .inl h2
      · refine .inr ⟨h2, p, h3, by rw [h4]; simp, h5, ?_⟩
        have hpb : p ≠ b := by rintro rfl; rw [hvb] at h4; cases h4
        rw [if_neg hpb]; exact h6
  · refine .inr ⟨b, hbm, rfl, by simp, ?_, rfl⟩
    rcases h.from_ with ⟨h1, h2, h3⟩ | ⟨a, h1, h2, h3, h4, h5⟩
    · have : b = s := by omega
      subst this; simp
    · rw [h4]; simp
  · by_cases hbr : b = rt
    · subst hbr
      exact .inl ⟨hP.root, by simp⟩
    · obtain ⟨p, h1, h2, h3⟩ := hd b hbm hbr
      refine .inr ⟨p, h1, h2, ?_, fun u hu hvu => ?_⟩
      · have hpb : p ≠ b := by rintro rfl; omega
        cases hvp : vis p with
        | false => simp [hpb]
        | true => have := hlt p h1 hvp; omega
      · by_cases hub : u = b
        · subst hub; exact h3
        · have := hlt u hu (by simpa [hub] using hvu); omega
theorem ReI.done (hP : PTree P m rt) (hs : s < m) (hd : ∀ u, u < m → u ≠ rt → ∃ p, p < m ∧ inth P u = (p : Int) ∧ d p < d u) (h : ReI P Q m rt s d vis d' j (-1) fr) : PTree Q m s := by
  have hvr : vis rt = true := by
    rcases h.to_ with h1 | ⟨b, _, h1, _⟩
    · exact h1.2
    · omega
  have hvs : vis s = true := by
    rcases h.from_ with ⟨_, h1, _⟩ | ⟨a, _, _, _, h1, _⟩
    · omega
    · exact h1
  refine ⟨h.len, hs, ?_, fun u => if vis u = true then d' u else j + d u, fun u hu hus => ?_⟩
  · rcases (h.new s hs hvs).2 with h1 | h1
    · exact h1.2
    · exact absurd rfl h1.1
  · cases hvu : vis u with
    | true =>
      rcases (h.new u hu hvu).2 with h1 | ⟨_, p, h3, h4, h5, h6⟩
      · exact absurd h1.1 hus
      · exact ⟨p, h3, h5, by show (if vis p = true then d' p else j + d p) < (if vis u = true then d' u else j + d u); rw [if_pos h4, if_pos hvu]; exact h6⟩
    | false =>
      obtain ⟨p, h1, h2, h3⟩ := hd u hu (by rintro rfl; rw [hvr] at hvu; cases hvu)
      refine ⟨p, h1, by rw [h.old u hu hvu]; exact h2, ?_⟩
      show (if vis p = true then d' p else j + d p) < (if vis u = true then d' u else j + d u)
      cases hvp : vis p with
      | true => have := (h.new p h1 hvp).1; rw [if_pos rfl, if_neg (by rw [hvu]; simp)]; omega
      | false => rw [if_neg (by simp), if_neg (by rw [hvu]; simp)]; omega
/-- How the tops change at a step. -/
def linkB (es : List Nat) (fr v : Int) (x : Nat) : Nat := if (decide (0 ≤ fr) && decide (0 ≤ v) && (nth es fr.toNat).testBit x && (nth es v.toNat).testBit x) = true then 1 else 0
theorem tops_set {es : List Nat} {b : Nat} (hb : b < m) (hQ : Q.length = m) (f : Int) (x : Nat) : tops es (Q.set b f) m x + (if topAt es Q b x = true then 1 else 0) = tops es Q m x + (if topAt es (Q.set b f) b x = true then 1 else 0) := by
  have hother : ∀ c, c ≠ b → topAt es (Q.set b f) c x = topAt es Q c x := fun c hc => by
    unfold topAt
    rw [inth_set (by rw [hQ]; exact hb), if_neg hc]
  unfold tops
  cases h1 : topAt es Q b x <;> cases h2 : topAt es (Q.set b f) b x
  · have : (List.range m).countP (fun u => topAt es (Q.set b f) u x) = (List.range m).countP (fun u => topAt es Q u x) := cnt_same fun c _ => by
      by_cases hc : c = b
      · subst hc; rw [h1, h2]
      · exact hother c hc
    simp [this]
  · have := cnt_split (p := fun u => topAt es (Q.set b f) u x) (q := fun u => topAt es Q u x) hb h2 h1 hother
    simp [this]
  · have := cnt_split (p := fun u => topAt es Q u x) (q := fun u => topAt es (Q.set b f) u x) hb h1 h2 (fun c hc => (hother c hc).symm)
    simp [this]
  · have : (List.range m).countP (fun u => topAt es (Q.set b f) u x) = (List.range m).countP (fun u => topAt es Q u x) := cnt_same fun c _ => by
      by_cases hc : c = b
      · subst hc; rw [h1, h2]
      · exact hother c hc
    simp [this]
theorem ReI.tops (hP : PTree P m rt) {es : List Nat} {b x : Nat} (h : ReI P Q m rt s d vis d' j (b : Int) fr) (hfr : fr = -1 ∨ ∃ a : Nat, fr = (a : Int)) (ht : tops es Q m x = tops es P m x + linkB es fr (b : Int) x) :
    tops es (Q.set b fr) m x = tops es P m x + linkB es (b : Int) (inth P b) x := by
  obtain ⟨b', hbm, he, hvb, hlt⟩ : ∃ b', b' < m ∧ (b : Int) = (b' : Int) ∧ vis b' = false ∧ ∀ u, u < m → vis u = true → d b' < d u := by
    rcases h.to_ with h1 | h1
    · omega
    · exact h1
  obtain rfl : b = b' := by omega
  have e := tops_set (es := es) (Q := Q) hbm h.len fr x
  have e1 : topAt es Q b x = topAt es P b x := by unfold topAt; rw [h.old b hbm hvb]
  have e2 : topAt es (Q.set b fr) b x = ((nth es b).testBit x && !(decide (0 ≤ fr) && (nth es fr.toNat).testBit x)) := by
    unfold topAt
    rw [inth_set (by rw [h.len]; exact hbm), if_pos rfl]
  rw [ht, e1, e2] at e
  unfold linkB at e ⊢
  unfold topAt at e
  have hb0 : decide (0 ≤ (b : Int)) = true := by simp
  have hbn : (b : Int).toNat = b := by simp
  rw [hb0, hbn] at e ⊢
  revert e
  generalize (nth es b).testBit x = B
  generalize (nth es fr.toNat).testBit x = F
  generalize (nth es (inth P b).toNat).testBit x = U
  generalize decide (0 ≤ fr) = f0
  generalize decide (0 ≤ inth P b) = u0
  cases B <;> cases F <;> cases U <;> cases f0 <;> cases u0 <;> simp <;> omega
end

/-- The parents that the steps of a reduction name. -/
def parOf (m : Nat) (l : List (Int × Int × Int)) : List Int := l.foldl (fun P t => if 0 ≤ t.2.1 then P.set t.1.toNat t.2.1 else P) (List.replicate m (-1))
theorem parOf_snoc (m : Nat) (l : List (Int × Int × Int)) (t : Int × Int × Int) : parOf m (l ++ [t]) = if 0 ≤ t.2.1 then (parOf m l).set t.1.toNat t.2.1 else parOf m l := by simp [parOf]
theorem parOf_length (m : Nat) (l : List (Int × Int × Int)) : (parOf m l).length = m := by
  unfold parOf
  have : ∀ (l : List (Int × Int × Int)) (P : List Int), (l.foldl (fun P t => if 0 ≤ t.2.1 then P.set t.1.toNat t.2.1 else P) P).length = P.length := by
    intro l
    induction l with
    | nil => intro P; rfl
    | cons t l ih => intro P; rw [List.foldl_cons, ih]; split <;> simp
  rw [this]; simp
/-- A node with a vertex whose parent has it too. -/
def Cov2 (es : List Nat) (P : List Int) (i x : Nat) : Prop := ∃ f : Nat, inth P i = (f : Int) ∧ (nth es f).testBit x = true
/-- What a run keeps of the tree that it builds. -/
structure BInv (es r : List Nat) (g : List Bool) (P : List Int) (rho : Nat → Nat) (K : Nat) : Prop where
  none_ : ∀ e, e < es.length → bget g e = false → inth P e = -1 ∧ rho e = K
  some_ : ∀ e, e < es.length → bget g e = true → ∃ f, f < es.length ∧ inth P e = (f : Int) ∧ rho e < rho f
  top : ∀ e, rho e ≤ K
  left : ∃ e, e < es.length ∧ bget g e = false
  sub_ : ∀ e x, (nth r e).testBit x = true → (nth es e).testBit x = true
  cov : ∀ x, (∀ i, i < es.length → (nth es i).testBit x = true → (nth r i).testBit x = true ∨ (bget g i = true ∧ Cov2 es P i x)) ∨
    (∀ i, (nth r i).testBit x = false) ∧ ∃ i0, ∀ i, i < es.length → i ≠ i0 → (nth es i).testBit x = true → bget g i = true ∧ Cov2 es P i x
theorem nth_set_any {r : List Nat} {e x k : Nat} : nth (r.set e x) k = if e = k ∧ k < r.length then x else nth r k := by
  unfold nth
  simp only [List.getD_eq_getElem?_getD, List.getElem?_set]
  by_cases h1 : e = k
  · subst h1
    by_cases h2 : e < r.length <;> simp [h2]
  · simp [h1]
theorem binv_run {n : Nat} {es : List Nat} (hn : n ≤ 32) (hb : ∀ x ∈ es, x < 2 ^ n) (h0 : 0 < es.length) {l : List (Int × Int × Int)} {r : List Nat} {g : List Bool} (h : Run n es (List.replicate es.length false) l r g) :
    ∃ rho K, BInv es r g (parOf es.length l) rho K := by
  induction h with
  | nil =>
    refine ⟨fun _ => 0, 0, ⟨fun e he _ => ⟨?_, rfl⟩, fun e he hg => ?_, fun _ => Nat.le_refl _, ⟨0, h0, ?_⟩, fun _ _ h => h, fun x => .inl fun i _ h => .inl h⟩⟩
    · simp [parOf, inth, List.getD, he]
    · simp [bget, he] at hg
    · simp [bget, h0]
  | @abs l r g e f h ha ih =>
    obtain ⟨rho, K, hI⟩ := ih
    obtain ⟨hs, _⟩ := h.sane hn (sane_start hb)
    obtain ⟨hlr, hlg⟩ := h.lengths
    rw [List.length_replicate] at hlg
    obtain ⟨h1, h2, h3, _, _⟩ := ha
    obtain ⟨q1, q2, q3, q4⟩ := absorbs_parts h3
    have hsub : sub (nth r e) (nth r f) := sub_of_andn (hs.lt32 hn _ (nth_mem h1)) (hs.lt32 hn _ (nth_mem h2)) q4
    have hPs : parOf es.length (l ++ [((e : Int), (f : Int), -1)]) = (parOf es.length l).set e (f : Int) := by
      rw [parOf_snoc, if_pos (by simp)]; simp
    have hle : e < (parOf es.length l).length := by rw [parOf_length]; omega
    have hbs : ∀ k, bget (g.set e true) k = if k = e then true else bget g k := fun k => bget_set (by omega)
    have hPk : ∀ k, inth ((parOf es.length l).set e (f : Int)) k = if k = e then (f : Int) else inth (parOf es.length l) k := fun k => inth_set hle
    refine ⟨fun u => if u = e then K else if bget g u = true then rho u else K + 1, K + 1, ?_⟩
    rw [hPs]
    refine ⟨fun u hu hg => ?_, fun u hu hg => ?_, fun u => ?_, ⟨f, by omega, ?_⟩, fun u x hx => ?_, fun x => ?_⟩
    · rw [hbs] at hg
      by_cases hue : u = e
      · rw [if_pos hue] at hg; cases hg
      · rw [if_neg hue] at hg
        rw [hPk, if_neg hue, if_neg hue, hg]
        exact ⟨(hI.none_ u hu hg).1, by simp⟩
    · rw [hPk]
      by_cases hue : u = e
      · refine ⟨f, by omega, by rw [if_pos hue], ?_⟩
        rw [if_pos hue, if_neg (Ne.symm q1), q3]; simp
      · rw [hbs, if_neg hue] at hg
        obtain ⟨p, k1, k2, k3⟩ := hI.some_ u hu hg
        refine ⟨p, k1, by rw [if_neg hue]; exact k2, ?_⟩
        rw [if_neg hue, if_pos hg]
        have hKu := hI.top p
        by_cases hpe : p = e
        · rw [if_pos hpe]; omega
        · rw [if_neg hpe]
          split
          · exact k3
          · omega
    · have := hI.top u
      show (if u = e then K else if bget g u = true then rho u else K + 1) ≤ K + 1
      split
      · omega
      · split <;> omega
    · rw [hbs, if_neg (Ne.symm q1)]; exact q3
    · rw [nth_set_any] at hx
      split at hx
      · simp at hx
      · exact hI.sub_ u x hx
    · have hstep : ∀ i, bget g i = true ∧ Cov2 es (parOf es.length l) i x → bget (g.set e true) i = true ∧ Cov2 es ((parOf es.length l).set e (f : Int)) i x := by
        rintro i ⟨k1, p, k2, k3⟩
        have hie : i ≠ e := by rintro rfl; rw [q2] at k1; cases k1
        exact ⟨by rw [hbs, if_neg hie]; exact k1, p, by rw [hPk, if_neg hie]; exact k2, k3⟩
      rcases hI.cov x with hA | ⟨hB, i0, hB2⟩
      · refine .inl fun i hi hix => ?_
        rcases hA i hi hix with k1 | k1
        · by_cases hie : i = e
          · subst hie
            exact .inr ⟨by rw [hbs, if_pos rfl], f, by rw [hPk, if_pos rfl], hI.sub_ f x (hsub x k1)⟩
          · refine .inl ?_
            rw [nth_set_any, if_neg (by rintro ⟨k2, _⟩; exact hie k2.symm)]; exact k1
        · exact .inr (hstep i k1)
      · refine .inr ⟨fun i => ?_, i0, fun i hi hne hix => hstep i (hB2 i hi hne hix)⟩
        rw [nth_set_any]
        split
        · simp
        · exact hB i
  | @iso l r g e v h ha hi ih =>
    obtain ⟨rho, K, hI⟩ := ih
    obtain ⟨hs, _⟩ := h.sane hn (sane_start hb)
    obtain ⟨hlr, hlg⟩ := h.lengths
    obtain ⟨h1, h2, h3, h4, _⟩ := hi
    have hPs : parOf es.length (l ++ [((e : Int), -1, (v : Int))]) = parOf es.length l := by
      rw [parOf_snoc, if_neg (by simp)]
    rw [hPs]
    have hbit : ∀ x, (andn (nth r e) (2 ^ v)).testBit x = ((nth r e).testBit x && !decide (v = x)) := fun x => by
      rw [testBit_andn (pow2_lt32 (by omega)) (hs.lt32 hn _ (nth_mem h2)), Nat.testBit_two_pow]
    refine ⟨rho, K, ⟨hI.none_, hI.some_, hI.top, hI.left, fun u x hx => ?_, fun x => ?_⟩⟩
    · rw [nth_set_any] at hx
      split at hx
      · rename_i hc
        obtain ⟨rfl, _⟩ := hc
        rw [hbit] at hx
        simp at hx
        exact hI.sub_ _ x hx.1
      · exact hI.sub_ u x hx
    · by_cases hxv : v = x
      · subst hxv
        rcases hI.cov v with hA | ⟨hB, _⟩
        · have honly : ∀ i, i < r.length → (nth r i).testBit v = true → i = e := fun i hi hiv => countP_one (p := fun y => y.testBit v) hi h2 hiv h3 h4
          refine .inr ⟨fun i => ?_, e, fun i hi hne hix => ?_⟩
          · rw [nth_set_any]
            split
            · rw [hbit]; simp
            · rename_i hc
              cases hiv : (nth r i).testBit v with
              | false => rfl
              | true =>
                by_cases hil : i < r.length
                · exact absurd ⟨(honly i hil hiv).symm, hil⟩ hc
                · have : nth r i = 0 := by simp [nth, List.getD, Nat.not_lt.1 hil]
                  rw [this] at hiv; simp at hiv
          · rcases hA i hi hix with k1 | k1
            · exact absurd (honly i (by omega) k1) hne
            · exact k1
        · rw [hB e] at h3; cases h3
      · have hsame : ∀ i, (nth (r.set e (andn (nth r e) (2 ^ v))) i).testBit x = (nth r i).testBit x := fun i => by
          rw [nth_set_any]
          split
          · rename_i hc
            obtain ⟨rfl, _⟩ := hc
            rw [hbit]; simp [hxv]
          · rfl
        rcases hI.cov x with hA | ⟨hB, hB2⟩
        · exact .inl fun i hi hix => by rw [hsame]; exact hA i hi hix
        · exact .inr ⟨fun i => by rw [hsame]; exact hB i, hB2⟩
theorem build_tree {n : Nat} {es : List Nat} (hn : n ≤ 32) (hb : ∀ x ∈ es, x < 2 ^ n) (h0 : 0 < es.length) {l : List (Int × Int × Int)} {r : List Nat} {g : List Bool} (h : Run n es (List.replicate es.length false) l r g) (ha : AbsSpec r g none) (hz : ∀ x ∈ r, x = 0) :
    ∃ rt, PTree (parOf es.length l) es.length rt ∧ JoinT es (parOf es.length l) es.length := by
  obtain ⟨rho, K, hI⟩ := binv_run hn hb h0 h
  obtain ⟨hs, _⟩ := h.sane hn (sane_start hb)
  obtain ⟨hlr, hlg⟩ := h.lengths
  obtain ⟨rt, h1, h2⟩ := hI.left
  have hz' : ∀ i, i < es.length → nth r i = 0 := fun i hi => hz _ (nth_mem (by omega))
  have honly : ∀ e, e < es.length → e ≠ rt → bget g e = true := fun e he hne => by
    cases hg : bget g e with
    | true => rfl
    | false =>
      have := ha e rt (by omega) (by omega)
      rw [absorbs, hg, h2, hz' e he, hz' rt h1] at this
      simp [andn] at this
      exact absurd this hne
  refine ⟨rt, ⟨parOf_length _ _, h1, (hI.none_ rt h1 h2).1, fun u => K - rho u, fun u hu hur => ?_⟩, fun x => cnt_le_one fun i j hi hj h3 h4 => ?_⟩
  · obtain ⟨p, k1, k2, k3⟩ := hI.some_ u hu (honly u hu hur)
    have := hI.top p
    exact ⟨p, k1, k2, by show K - rho p < K - rho u; omega⟩
  · have hno : ∀ i, topAt es (parOf es.length l) i x = true → (nth es i).testBit x = true ∧ ¬ Cov2 es (parOf es.length l) i x := by
      intro i hi
      simp only [topAt, Bool.and_eq_true, Bool.not_eq_true', Bool.and_eq_false_iff, decide_eq_false_iff_not] at hi
      refine ⟨hi.1, ?_⟩
      rintro ⟨f, k1, k2⟩
      rw [k1] at hi
      rcases hi.2 with k3 | k3
      · omega
      · rw [show ((f : Int)).toNat = f by simp, k2] at k3; cases k3
    obtain ⟨a1, a2⟩ := hno i h3
    obtain ⟨b1, b2⟩ := hno j h4
    rcases hI.cov x with hA | ⟨hB, i0, hB2⟩
    · rcases hA i hi a1 with k1 | k1
      · rw [hz' i hi] at k1; simp at k1
      · exact absurd k1.2 a2
    · have e1 : i = i0 := by
        by_cases hh : i = i0
        · exact hh
        · exact absurd (hB2 i hi hh a1).2 a2
      have e2 : j = i0 := by
        by_cases hh : j = i0
        · exact hh
        · exact absurd (hB2 j hj hh b1).2 b2
      rw [e1, e2]
end Go.Proofs.YtjofdlafblpclaaDoor
namespace Go.Proofs.YtjofdlafblpclaaDoor
open Go.RowKit

theorem eq_nil_int (A : Option Addr) (n c : Nat) (w : World) : (binOp .eql 33 (.slice A n c) (.slice none 0 0)).run Tryd.prog w = .ok (.bool A.isNone) w := by
  simp only [binOp]
  simp [Op.equal, Op.maxDepth, Lib.run_equalIn_slice_nil w 9999 33 3 A n c 0 0 Tryd.underlying33]

set_option maxHeartbeats 1000000 in
theorem clone_int (A : Option Addr) (xs : List Int) (n c : Nat) (w : World) (hr : Xs w w.heap.size A n xs) (hn : n ≤ 1000000) :
    Calls Tryd.prog 53 #[.slice A n c] w fun e w' => ∃ A' c', e = .returned (.slice A' n c') ∧ w'.ownsRow w.heap.size 3 1 (.slice A' n c') n (I64 xs) ∧ Below w.heap.size w w' := by
  have HR := Lib.hid hr; clear hr
  cases A with
  | none =>
    have h0 : n = 0 := by
      rcases Nat.eq_zero_or_pos n with h | h
      · exact h
      · obtain ⟨ad, he, _⟩ := HR.out.1.2 h
        cases he
    subst h0
    have HE := Lib.hid (show xs = [] from List.eq_nil_of_length_eq_zero HR.out.len.symm)
    have hnil := eq_nil_int none 0 c
    go_enter Tryd.func53, Tryd.ntmps53
    go_wp2_with fail
    go_ret
    rw [HE.out]
    exact ⟨none, 0, rfl, own_nil _ _ _, Below.refl _ _⟩
  | some ad =>
    obtain ⟨i, hi, hz, hs1, hby⟩ := info_parts info_int
    have hnil := eq_nil_int (some ad) n c
    go_enter Tryd.func53, Tryd.ntmps53
    go_wp2_with (at_builtin; refine wpList_append_any _ rfl _ _ 33 rfl w.heap.size 3 i _ 1 8 Tryd.underlying33 hi hz hs1 hby rfl (by omega) (.slice (some ⟨w.heap.size, 0, none⟩) 0 0) 0 [] rfl (own_empty w 3) w.heap.size (some ad) n c (I64 xs) rfl (HR.out.1.alloc (Nat.le_refl _) _) (one_I64 xs) (by simp only [maxLen]; omega) (by omega) (by simp) ?_; intro v' w1 hown' hgr hor; rw [Nat.zero_add, List.nil_append] at hown'; obtain ⟨A', c', rfl⟩ := own_form hown'; have HW := Lib.hid hown'; have HG := Lib.hid hgr; clear hown' hgr hor)
    go_ret
    exact ⟨A', c', rfl, HW.out, Below.appended (al _ _) (own_empty w 3) HG.out (by simp) (Nat.le_refl _)⟩

theorem step_app_int {ops : Array Oper} {o : Oper} {a : Act} {w : World} {K : Act → World → Prop} {Q : Exit → Act → World → Prop} {E : Prop} (hgd : Region.wanted o (yielded ops a.tmps) = true) (s x : Operand) (ho : o.op = .call { callee := .builtin .append, args := #[s, x], argTypes := #[33, 33] })
    (base : Nat) (v : Value) (L : List Int) (hs : a.eval s = v) (hown : w.ownsRow base 3 1 v L.length (I64 L)) (g : Nat) (y : Int) (hx : a.eval x = .slice (some ⟨g, 0, none⟩) 1 1) (hb : Blk w g 3 #[.int .i64 y])
    (hk : L.length ≤ 1000000) (hbase : base ≤ w.heap.size)
    (h : ∀ v' w', w'.ownsRow base 3 1 v' (L ++ [y]).length (I64 (L ++ [y])) → w.grownBy w' v.ownBlock → (v'.ownBlock = v.ownBlock ∨ v'.ownBlock = some w.heap.size) → K (a.put o.dst v') w') :
    if Region.wanted o (yielded ops a.tmps) = true then Oper.wp Tryd.prog o a w K Q else E := by
  obtain ⟨i, hi, hz, hs1, hby⟩ := info_parts info_int
  have hr : Reads w w.heap.size 1 (some ⟨g, 0, none⟩) 1 [.int .i64 y] := ⟨rfl, fun _ => ⟨_, rfl, hb.lt, fun j u hu => by
    have e : (Addr.add ⟨g, 0, none⟩ j) = ⟨g, j, none⟩ := by unfold Addr.add; split <;> simp_all
    rw [e, hb.cell]; simpa using hu⟩⟩
  rw [if_pos hgd]
  refine wp_append_any w s x 33 ho base 3 i _ 1 8 Tryd.underlying33 hi hz hs1 hby rfl (by omega) v L.length (I64 L) hs hown w.heap.size _ 1 1 _ hx hr (by simp; rfl) (by simp only [maxLen]; omega) (by omega) hbase ?_
  intro v' w' h1 h2 h3
  exact h v' w' (by rw [List.length_append]; simpa [I64] using h1) h2 h3
end Go.Proofs.YtjofdlafblpclaaDoor
