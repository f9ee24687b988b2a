/-
The walk of law31.ConnexDecides.
Plain: chordless cycles, and what hypergraph.cycleLength says of them.
Plain: what hypergraph.shortestCycle answers is a chordless cycle.
Plain: a graph without chordless cycles has a vertex whose neighbours are pairwise adjacent.
-/
import Derived.Test.YtjofdlafblpclaaDoorK9
import Derived.Test.YtjofdlafblpclaaDoorK5
import Derived.Test.YtjofdlafblpclaaDoorK4
namespace Go.Proofs.YtjofdlafblpclaaDoor
open Go.RowKit
set_option linter.unusedSimpArgs false
set_option linter.unusedVariables false

theorem free_zero {n : Int} {es : List Nat} {f : Int} (h : freeCode n es f = 0) : checkCode n es = 0 ∧ 0 ≤ f ∧ f ≤ n := by
  unfold freeCode at h
  by_cases hc : checkCode n es = 0
  · rw [if_pos hc] at h
    split at h
    · cases h
    · rename_i h2; exact ⟨hc, by omega, by omega⟩
  · rw [if_neg hc] at h; exact absurd h hc
theorem great_false {n : Int} {es : List Nat} (h : greatB n es = false) (hc : checkCode n es = 0) : n ≤ 6 ∧ es.length ≤ 8 := by
  unfold greatB at h
  have := of_decide_eq_false h
  constructor
  · rcases Int.lt_or_le 6 n with h1 | h1
    · exact absurd (.inl ⟨hc, .inl h1⟩) this
    · exact h1
  · rcases Nat.lt_or_ge 8 es.length with h1 | h1
    · exact absurd (.inl ⟨hc, .inr h1⟩) this
    · exact h1
theorem iff_true {b : Bool} {p : Prop} (h : b = true ↔ p) (hp : p) : b = true := h.2 hp
theorem iff_false {b : Bool} {p : Prop} (h : b = true ↔ p) (hp : ¬ p) : b = false := by
  cases b with
  | false => rfl
  | true => exact absurd (h.1 rfl) hp
set_option maxRecDepth 100000 in
set_option maxHeartbeats 8000000 in
theorem connexDecides_walk (n : Int) (A : Option Addr) (es : List Nat) (len c : Nat) (f : Int) (w : World) (hG0 : GTab w) (hr : Es w w.heap.size A len es) (_ : -9223372036854775808 ≤ n ∧ n ≤ 9223372036854775807) (_ : len ≤ c) (_ : -9223372036854775808 ≤ f ∧ f ≤ 9223372036854775807) :
    Calls Tryd.prog 3 #[.agg #[.int .i64 n, .slice A len c], .int .i64 f] w fun e w' => e = .returned (.bool true) ∧ Below w.heap.size w w' := by
  have HLEN := Lib.hid hr.len
  have HR := Lib.hid hr; clear hr
  have HGT := Lib.hid hG0; clear hG0
  have HG := Lib.hid (GB.made w 24 (.int .i64 n) (.slice A len c))
  have HB := Lib.hid (al w (.cells #[.int .i64 n, .slice A len c] 24))
  cases hgr : greatB n es with
  | true =>
    have HQ := Lib.hid hgr; clear hgr
    go_enter Tryd.func3, Tryd.ntmps3
    have g0 := HG.out.c0; have g1 := HG.out.c1; have glt := HG.out.lt
    go_wp2_with fail
    refine (great_any n A es len c _ (HR.out.new HB.out)).mono ?_
    rintro e wx ⟨rfl, hb⟩
    rw [HQ.out]
    replace HG := Lib.hid (HG.out.new hb); replace HB := Lib.hid (bthen HB.out hb HB.out.size)
    clear hb g0 g1 glt
    have g0 := HG.out.c0; have g1 := HG.out.c1; have glt := HG.out.lt
    go_wp2_with fail
    refine (awake31_any _ (HGT.out.new HB.out)).mono ?_
    rintro e wx ⟨rfl, hb⟩
    replace HG := Lib.hid (HG.out.new hb); replace HB := Lib.hid (bthen HB.out hb HB.out.size)
    clear hb g0 g1 glt
    have g0 := HG.out.c0; have g1 := HG.out.c1; have glt := HG.out.lt
    go_wp2_with fail
    go_ret
    exact ⟨rfl, HB.out⟩
  | false =>
    have HQ := Lib.hid hgr
    by_cases hfc : freeCode n es f = 0
    · obtain ⟨hcc, hf0, hfn⟩ := free_zero hfc
      obtain ⟨hn6, hl8⟩ := great_false hgr hcc
      clear hgr
      obtain ⟨h0, hn32, _, hes⟩ := checkCode_zero hcc
      obtain ⟨n, rfl⟩ := Int.eq_ofNat_of_zero_le h0
      obtain ⟨f, rfl⟩ := Int.eq_ofNat_of_zero_le hf0
      have hes' : ∀ e ∈ es, e < 2 ^ n := by simpa using hes
      have hfn' : f ≤ n := by omega
      have hn' : n ≤ 32 := by omega
      have HES := Lib.hid hes'; have HC := Lib.hid hcc; have HFC := Lib.hid hfc
      have HL8 := Lib.hid hl8
      have HCX := Lib.hid (code_ok hn' (by rw [List.length_append, List.length_singleton]; omega) (bound_snoc hfn' hes'))
      have hl9 : len ≤ 8 := by rw [HLEN.out]; exact hl8
      clear hes hes' hcc hfc hf0 hfn h0 hn32 hl8
      by_cases hA : Acyc n es
      · by_cases hX : Acyc n (es ++ [2 ^ f - 1])
        · skip
          go_enter Tryd.func3, Tryd.ntmps3
          have g0 := HG.out.c0; have g1 := HG.out.c1; have glt := HG.out.lt
          go_wp2_with fail
          refine (great_any n A es len c _ (HR.out.new HB.out)).mono ?_
          rintro e wx ⟨rfl, hb⟩
          rw [HQ.out]
          replace HG := Lib.hid (HG.out.new hb); replace HB := Lib.hid (bthen HB.out hb HB.out.size)
          clear hb g0 g1 glt
          have g0 := HG.out.c0; have g1 := HG.out.c1; have glt := HG.out.lt
          go_wp2_with fail
          refine (connex_ok n f A es len c _ (HR.out.new HB.out) HC.out hfn' (by omega)).mono ?_
          rintro e wx ⟨b, hb0, rfl, hb⟩
          obtain rfl : b = true := iff_true hb0 ⟨hA, hX⟩
          clear hb0
          replace HG := Lib.hid (HG.out.new hb); replace HB := Lib.hid (bthen HB.out hb HB.out.size)
          clear hb g0 g1 glt
          have g0 := HG.out.c0; have g1 := HG.out.c1; have glt := HG.out.lt
          go_wp2_with fail
          refine (wrong_any n A es len c f _ (HR.out.new HB.out)).mono ?_
          rintro e wx ⟨rfl, hb⟩
          rw [HFC.out]
          replace HG := Lib.hid (HG.out.new hb); replace HB := Lib.hid (bthen HB.out hb HB.out.size)
          clear hb g0 g1 glt
          have g0 := HG.out.c0; have g1 := HG.out.c1; have glt := HG.out.lt
          go_wp2_with fail
          refine (acyclic_ok n A es len c _ (HR.out.new HB.out) HC.out).mono ?_
          rintro e wx ⟨b, hb0, rfl, hb⟩
          obtain rfl : b = true := iff_true hb0 hA
          clear hb0
          replace HG := Lib.hid (HG.out.new hb); replace HB := Lib.hid (bthen HB.out hb HB.out.size)
          clear hb g0 g1 glt
          have g0 := HG.out.c0; have g1 := HG.out.c1; have glt := HG.out.lt
          go_wp2_with fail
          refine (lext_any n f A es len c _ (HR.out.new HB.out) (by omega) (by omega)).mono ?_
          rintro e wx ⟨v3, rfl, hown, hb⟩
          obtain ⟨A3, c3, rfl, he3⟩ := Es.of_rowU hown (fun y hy => Nat.lt_of_lt_of_le (bound_snoc hfn' HES.out y hy) (two_pow_le hn'))
          rw [show (es ++ [2 ^ f - 1] : List Nat).length = es.length + 1 by simp] at he3
          have HE3 := Lib.hid he3; clear he3 hown
          replace HG := Lib.hid (HG.out.new hb); replace HB := Lib.hid (bthen HB.out hb HB.out.size)
          clear hb g0 g1 glt
          have g0 := HG.out.c0; have g1 := HG.out.c1; have glt := HG.out.lt
          go_wp2_with fail
          refine (acyclic_ok n A3 (es ++ [2 ^ f - 1]) _ c3 _ HE3.out HCX.out).mono ?_
          rintro e wx ⟨b, hb0, rfl, hb⟩
          obtain rfl : b = true := iff_true hb0 hX
          clear hb0
          replace HG := Lib.hid (HG.out.new hb); replace HB := Lib.hid (bthen HB.out hb HB.out.size)
          clear hb g0 g1 glt
          have g0 := HG.out.c0; have g1 := HG.out.c1; have glt := HG.out.lt
          go_wp2_with fail
          refine (awake31_any _ (HGT.out.new HB.out)).mono ?_
          rintro e wx ⟨rfl, hb⟩
          replace HG := Lib.hid (HG.out.new hb); replace HB := Lib.hid (bthen HB.out hb HB.out.size)
          clear hb g0 g1 glt
          have g0 := HG.out.c0; have g1 := HG.out.c1; have glt := HG.out.lt
          go_wp2_with fail
          go_ret
          exact ⟨rfl, HB.out⟩
        · skip
          go_enter Tryd.func3, Tryd.ntmps3
          have g0 := HG.out.c0; have g1 := HG.out.c1; have glt := HG.out.lt
          go_wp2_with fail
          refine (great_any n A es len c _ (HR.out.new HB.out)).mono ?_
          rintro e wx ⟨rfl, hb⟩
          rw [HQ.out]
          replace HG := Lib.hid (HG.out.new hb); replace HB := Lib.hid (bthen HB.out hb HB.out.size)
          clear hb g0 g1 glt
          have g0 := HG.out.c0; have g1 := HG.out.c1; have glt := HG.out.lt
          go_wp2_with fail
          refine (connex_ok n f A es len c _ (HR.out.new HB.out) HC.out hfn' (by omega)).mono ?_
          rintro e wx ⟨b, hb0, rfl, hb⟩
          obtain rfl : b = false := iff_false hb0 (fun h => hX h.2)
          clear hb0
          replace HG := Lib.hid (HG.out.new hb); replace HB := Lib.hid (bthen HB.out hb HB.out.size)
          clear hb g0 g1 glt
          have g0 := HG.out.c0; have g1 := HG.out.c1; have glt := HG.out.lt
          go_wp2_with fail
          refine (wrong_any n A es len c f _ (HR.out.new HB.out)).mono ?_
          rintro e wx ⟨rfl, hb⟩
          rw [HFC.out]
          replace HG := Lib.hid (HG.out.new hb); replace HB := Lib.hid (bthen HB.out hb HB.out.size)
          clear hb g0 g1 glt
          have g0 := HG.out.c0; have g1 := HG.out.c1; have glt := HG.out.lt
          go_wp2_with fail
          refine (acyclic_ok n A es len c _ (HR.out.new HB.out) HC.out).mono ?_
          rintro e wx ⟨b, hb0, rfl, hb⟩
          obtain rfl : b = true := iff_true hb0 hA
          clear hb0
          replace HG := Lib.hid (HG.out.new hb); replace HB := Lib.hid (bthen HB.out hb HB.out.size)
          clear hb g0 g1 glt
          have g0 := HG.out.c0; have g1 := HG.out.c1; have glt := HG.out.lt
          go_wp2_with fail
          refine (lext_any n f A es len c _ (HR.out.new HB.out) (by omega) (by omega)).mono ?_
          rintro e wx ⟨v3, rfl, hown, hb⟩
          obtain ⟨A3, c3, rfl, he3⟩ := Es.of_rowU hown (fun y hy => Nat.lt_of_lt_of_le (bound_snoc hfn' HES.out y hy) (two_pow_le hn'))
          rw [show (es ++ [2 ^ f - 1] : List Nat).length = es.length + 1 by simp] at he3
          have HE3 := Lib.hid he3; clear he3 hown
          replace HG := Lib.hid (HG.out.new hb); replace HB := Lib.hid (bthen HB.out hb HB.out.size)
          clear hb g0 g1 glt
          have g0 := HG.out.c0; have g1 := HG.out.c1; have glt := HG.out.lt
          go_wp2_with fail
          refine (acyclic_ok n A3 (es ++ [2 ^ f - 1]) _ c3 _ HE3.out HCX.out).mono ?_
          rintro e wx ⟨b, hb0, rfl, hb⟩
          obtain rfl : b = false := iff_false hb0 hX
          clear hb0
          replace HG := Lib.hid (HG.out.new hb); replace HB := Lib.hid (bthen HB.out hb HB.out.size)
          clear hb g0 g1 glt
          have g0 := HG.out.c0; have g1 := HG.out.c1; have glt := HG.out.lt
          go_wp2_with fail
          refine (awake31_any _ (HGT.out.new HB.out)).mono ?_
          rintro e wx ⟨rfl, hb⟩
          replace HG := Lib.hid (HG.out.new hb); replace HB := Lib.hid (bthen HB.out hb HB.out.size)
          clear hb g0 g1 glt
          have g0 := HG.out.c0; have g1 := HG.out.c1; have glt := HG.out.lt
          go_wp2_with fail
          go_ret
          exact ⟨rfl, HB.out⟩
      · skip
        go_enter Tryd.func3, Tryd.ntmps3
        have g0 := HG.out.c0; have g1 := HG.out.c1; have glt := HG.out.lt
        go_wp2_with fail
        refine (great_any n A es len c _ (HR.out.new HB.out)).mono ?_
        rintro e wx ⟨rfl, hb⟩
        rw [HQ.out]
        replace HG := Lib.hid (HG.out.new hb); replace HB := Lib.hid (bthen HB.out hb HB.out.size)
        clear hb g0 g1 glt
        have g0 := HG.out.c0; have g1 := HG.out.c1; have glt := HG.out.lt
        go_wp2_with fail
        refine (connex_ok n f A es len c _ (HR.out.new HB.out) HC.out hfn' (by omega)).mono ?_
        rintro e wx ⟨b, hb0, rfl, hb⟩
        obtain rfl : b = false := iff_false hb0 (fun h => hA h.1)
        clear hb0
        replace HG := Lib.hid (HG.out.new hb); replace HB := Lib.hid (bthen HB.out hb HB.out.size)
        clear hb g0 g1 glt
        have g0 := HG.out.c0; have g1 := HG.out.c1; have glt := HG.out.lt
        go_wp2_with fail
        refine (wrong_any n A es len c f _ (HR.out.new HB.out)).mono ?_
        rintro e wx ⟨rfl, hb⟩
        rw [HFC.out]
        replace HG := Lib.hid (HG.out.new hb); replace HB := Lib.hid (bthen HB.out hb HB.out.size)
        clear hb g0 g1 glt
        have g0 := HG.out.c0; have g1 := HG.out.c1; have glt := HG.out.lt
        go_wp2_with fail
        refine (acyclic_ok n A es len c _ (HR.out.new HB.out) HC.out).mono ?_
        rintro e wx ⟨b, hb0, rfl, hb⟩
        obtain rfl : b = false := iff_false hb0 hA
        clear hb0
        replace HG := Lib.hid (HG.out.new hb); replace HB := Lib.hid (bthen HB.out hb HB.out.size)
        clear hb g0 g1 glt
        have g0 := HG.out.c0; have g1 := HG.out.c1; have glt := HG.out.lt
        go_wp2_with fail
        refine (awake31_any _ (HGT.out.new HB.out)).mono ?_
        rintro e wx ⟨rfl, hb⟩
        replace HG := Lib.hid (HG.out.new hb); replace HB := Lib.hid (bthen HB.out hb HB.out.size)
        clear hb g0 g1 glt
        have g0 := HG.out.c0; have g1 := HG.out.c1; have glt := HG.out.lt
        go_wp2_with fail
        go_ret
        exact ⟨rfl, HB.out⟩
    · have t0 : (freeCode n es f != 0) = true := by simp [hfc]
      have HFC := Lib.hid hfc; clear hfc hgr
      go_enter Tryd.func3, Tryd.ntmps3
      have g0 := HG.out.c0; have g1 := HG.out.c1; have glt := HG.out.lt
      go_wp2_with fail
      refine (great_any n A es len c _ (HR.out.new HB.out)).mono ?_
      rintro e wx ⟨rfl, hb⟩
      rw [HQ.out]
      replace HG := Lib.hid (HG.out.new hb); replace HB := Lib.hid (bthen HB.out hb HB.out.size)
      clear hb g0 g1 glt
      have g0 := HG.out.c0; have g1 := HG.out.c1; have glt := HG.out.lt
      go_wp2_with fail
      refine (connex_bad n f A es len c _ (HR.out.new HB.out) HFC.out).mono ?_
      rintro e wx ⟨rfl, hb⟩
      replace HG := Lib.hid (HG.out.new hb); replace HB := Lib.hid (bthen HB.out hb HB.out.size)
      clear hb g0 g1 glt
      have g0 := HG.out.c0; have g1 := HG.out.c1; have glt := HG.out.lt
      go_wp2_with fail
      refine (wrong_any n A es len c f _ (HR.out.new HB.out)).mono ?_
      rintro e wx ⟨rfl, hb⟩
      replace HG := Lib.hid (HG.out.new hb); replace HB := Lib.hid (bthen HB.out hb HB.out.size)
      clear hb g0 g1 glt
      have g0 := HG.out.c0; have g1 := HG.out.c1; have glt := HG.out.lt
      go_wp2_with fail
      refine (awake31_any _ (HGT.out.new HB.out)).mono ?_
      rintro e wx ⟨rfl, hb⟩
      replace HG := Lib.hid (HG.out.new hb); replace HB := Lib.hid (bthen HB.out hb HB.out.size)
      clear hb g0 g1 glt
      have g0 := HG.out.c0; have g1 := HG.out.c1; have glt := HG.out.lt
      go_wp2_with fail
      go_ret
      exact ⟨rfl, HB.out⟩
end Go.Proofs.YtjofdlafblpclaaDoor
namespace Go.Proofs.YtjofdlafblpclaaDoor

/-- The rows of a graph's neighbours. -/
structure Ady (n : Nat) (R : List Nat) : Prop where
  nn : n ≤ 32
  lt : ∀ x ∈ R, x < 2 ^ n
  sym : ∀ u v, GR R u v → GR R v u
  irr : ∀ v, ¬ GR R v v
theorem Ady.hi {n : Nat} {R : List Nat} (h : Ady n R) {u v : Nat} (g : GR R u v) : v < n := testBit_lt (nth_lt2 h.lt u) g
theorem Ady.lo {n : Nat} {R : List Nat} (h : Ady n R) {u v : Nat} (g : GR R u v) : u < n := h.hi (h.sym _ _ g)
theorem Wk.mono2 {G : Nat → Nat → Prop} {I J : Nat → Prop} (h : ∀ u v, G u v → I v → J v) {k a b : Nat} (w : Wk G I k a b) : Wk G J k a b := by
  induction w with
  | nil a => exact .nil a
  | snoc _ g i ih => exact .snoc ih g (h _ _ g i)
section
variable {R : List Nat} {n : Nat}
theorem lt32_2 {x : Nat} (hn : n ≤ 32) (h : x < 2 ^ n) : x < 2 ^ 32 := Nat.lt_of_lt_of_le h (two_pow_le hn)
theorem two_bit (v u : Nat) : (2 ^ v).testBit u = true ↔ u = v := by
  rw [Nat.testBit_two_pow, decide_eq_true_eq]; exact eq_comm
theorem lows_bit (n u : Nat) : (2 ^ n - 1).testBit u = true ↔ u < n := by rw [Nat.testBit_two_pow_sub_one, decide_eq_true_eq]
theorem rest_bit (h : Ady n R) {v x y u : Nat} (hv : v < n) : (restOf R n v x y).testBit u = true ↔ (u < n ∧ ¬ GR R v u ∧ u ≠ v) ∨ u = x ∨ u = y := by
  have hp := pow2_pos n
  have h1 : 2 ^ n - 1 < 2 ^ 32 := by have := two_pow_le (m := 32) h.nn; omega
  have h2 : nth R v < 2 ^ 32 := lt32_2 h.nn (nth_lt2 h.lt v)
  unfold restOf
  rw [Nat.testBit_or, Nat.testBit_or, Bool.or_eq_true, Bool.or_eq_true, two_bit, two_bit, testBit_andn (pow2_lt32 (by have := h.nn; omega)) (andn_lt h1), testBit_andn h2 h1, Bool.and_eq_true, Bool.and_eq_true, lows_bit, Bool.not_eq_true', Bool.not_eq_true', or_assoc]
  have e1 : (nth R v).testBit u = false ↔ ¬ GR R v u := by unfold GR; simp
  have e2 : (2 ^ v).testBit u = false ↔ u ≠ v := by rw [← Bool.not_eq_true, two_bit]
  rw [e1, e2, and_assoc]
theorem skip_no {v x y : Nat} : skipB R v x y = false ↔ GR R v x ∧ GR R v y ∧ ¬ GR R x y := by
  unfold skipB GR
  simp [and_assoc]
/-- A place where cycleLength finds a cycle. -/
def OkT (R : List Nat) (n v x y : Nat) : Prop := (v < n ∧ x < n ∧ y < x) ∧ skipB R v x y = false ∧ distF R n x y (restOf R n v x y) ≠ 0
def CInv (R : List Nat) (n : Nat) (P : Nat → Nat → Nat → Prop) (s : Nat) : Prop :=
  (s = 0 ∧ ∀ v x y, P v x y → ¬ OkT R n v x y) ∨ (s ≠ 0 ∧ (∃ v x y, OkT R n v x y ∧ s = distF R n x y (restOf R n v x y) + 2) ∧ ∀ v x y, P v x y → OkT R n v x y → s ≤ distF R n x y (restOf R n v x y) + 2)
theorem CInv.sub {P Q : Nat → Nat → Nat → Prop} {s : Nat} (h : CInv R n P s) (hq : ∀ a b c, Q a b c → OkT R n a b c → P a b c) : CInv R n Q s := by
  rcases h with ⟨h1, h2⟩ | ⟨h1, h2, h3⟩
  · exact .inl ⟨h1, fun v x y q ok => h2 v x y (hq v x y q ok) ok⟩
  · exact .inr ⟨h1, h2, fun v x y q ok => h3 v x y (hq v x y q ok) ok⟩
theorem CInv.step {P Q : Nat → Nat → Nat → Prop} {s v x y : Nat} (h : CInv R n P s) (hb : v < n ∧ x < n ∧ y < x) (hq : ∀ a b c, Q a b c → OkT R n a b c → P a b c ∨ (a = v ∧ b = x ∧ c = y)) : CInv R n Q (stepF R n v x y s) := by
  unfold stepF
  by_cases h1 : skipB R v x y = true
  · rw [if_pos h1]
    refine h.sub fun a b c q ok => ?_
    rcases hq a b c q ok with h2 | ⟨rfl, rfl, rfl⟩
    · exact h2
    · have := ok.2.1; rw [h1] at this; cases this
  · rw [if_neg h1]
    have h1' : skipB R v x y = false := by simpa using h1
    by_cases h2 : 0 < distF R n x y (restOf R n v x y) ∧ (s = 0 ∨ distF R n x y (restOf R n v x y) + 2 < s)
    · rw [if_pos h2]
      refine .inr ⟨by omega, ⟨v, x, y, ⟨hb, h1', by omega⟩, rfl⟩, fun a b c q ok => ?_⟩
      rcases hq a b c q ok with h3 | ⟨rfl, rfl, rfl⟩
      · rcases h with ⟨_, h5⟩ | ⟨h4, _, h5⟩
        · exact absurd ok (h5 a b c h3)
        · have := h5 a b c h3 ok
          rcases h2.2 with h6 | h6
          · exact absurd h6 h4
          · omega
      · exact Nat.le_refl _
    · rw [if_neg h2]
      rcases h with ⟨h4, h5⟩ | ⟨h4, h6, h5⟩
      · refine .inl ⟨h4, fun a b c q ok => ?_⟩
        rcases hq a b c q ok with h3 | ⟨rfl, rfl, rfl⟩
        · exact h5 a b c h3 ok
        · exact h2 ⟨Nat.pos_of_ne_zero ok.2.2, .inl h4⟩
      · refine .inr ⟨h4, h6, fun a b c q ok => ?_⟩
        rcases hq a b c q ok with h3 | ⟨rfl, rfl, rfl⟩
        · exact h5 a b c h3 ok
        · rcases Nat.lt_or_ge (distF R n b c (restOf R n a b c) + 2) s with h7 | h7
          · exact absurd ⟨Nat.pos_of_ne_zero ok.2.2, .inr h7⟩ h2
          · exact h7
theorem cylY_inv {P : Nat → Nat → Nat → Prop} {v x s : Nat} (hv : v < n) (hx : x < n) (h : CInv R n P s) : ∀ k, k ≤ x → CInv R n (fun a b c => P a b c ∨ (a = v ∧ b = x ∧ c < k)) (cylYF R n v x k s)
  | 0, _ => h.sub fun a b c q _ => by
    rcases q with q | q
    · exact q
    · omega
  | k + 1, hk => by
    rw [cylYF]
    refine (cylY_inv hv hx h k (by omega)).step ⟨hv, hx, by omega⟩ fun a b c q _ => ?_
    rcases q with q | ⟨q1, q2, q3⟩
    · exact .inl (.inl q)
    · rcases Nat.lt_or_ge c k with h1 | h1
      · exact .inl (.inr ⟨q1, q2, h1⟩)
      · exact .inr ⟨q1, q2, by omega⟩
theorem cylX_inv {P : Nat → Nat → Nat → Prop} {v s : Nat} (hv : v < n) (h : CInv R n P s) : ∀ k, k ≤ n → CInv R n (fun a b c => P a b c ∨ (a = v ∧ b < k)) (cylXF R n v k s)
  | 0, _ => h.sub fun a b c q _ => by
    rcases q with q | q
    · exact q
    · omega
  | k + 1, hk => by
    rw [cylXF]
    refine (cylY_inv hv (by omega) (cylX_inv hv h k (by omega)) k (Nat.le_refl _)).sub fun a b c q ok => ?_
    rcases q with q | ⟨q1, q2⟩
    · exact .inl (.inl q)
    · rcases Nat.lt_or_ge b k with h1 | h1
      · exact .inl (.inr ⟨q1, h1⟩)
      · obtain rfl : b = k := by omega
        exact .inr ⟨q1, rfl, ok.1.2.2⟩
theorem cylV_inv : ∀ k, k ≤ n → CInv R n (fun a _ _ => a < k) (cylVF R n k 0)
  | 0, _ => .inl ⟨rfl, fun v x y q => by omega⟩
  | k + 1, hk => by
    rw [cylVF]
    refine (cylX_inv (by omega) (cylV_inv k (by omega)) n (Nat.le_refl _)).sub fun a b c q ok => ?_
    rcases Nat.lt_or_ge a k with h1 | h1
    · exact .inl h1
    · exact .inr ⟨by omega, ok.1.2.1⟩
theorem cylF_zero (h : cylF R n = 0) {v x y : Nat} : ¬ OkT R n v x y := by
  intro ok
  rcases cylV_inv (R := R) (n := n) n (Nat.le_refl _) with ⟨_, h1⟩ | ⟨h1, _⟩
  · exact h1 v x y ok.1.1 ok
  · exact h1 h
theorem cylF_min {v x y : Nat} (ok : OkT R n v x y) : cylF R n ≠ 0 ∧ cylF R n ≤ distF R n x y (restOf R n v x y) + 2 := by
  rcases cylV_inv (R := R) (n := n) n (Nat.le_refl _) with ⟨_, h1⟩ | ⟨h1, _, h2⟩
  · exact absurd ok (h1 v x y ok.1.1)
  · exact ⟨h1, h2 v x y ok.1.1 ok⟩
theorem cylF_at (h : cylF R n ≠ 0) : ∃ v x y, OkT R n v x y ∧ cylF R n = distF R n x y (restOf R n v x y) + 2 := by
  rcases cylV_inv (R := R) (n := n) n (Nat.le_refl _) with ⟨h1, _⟩ | ⟨_, h1, _⟩
  · exact absurd h1 h
  · exact h1
/-- A cycle without chords, as a function. -/
structure Hole (R : List Nat) (L : Nat) (h : Nat → Nat) : Prop where
  four : 4 ≤ L
  inj : ∀ i j, i < L → j < L → h i = h j → i = j
  adj : ∀ i j, i < L → j < L → (GR R (h i) (h j) ↔ (j = i + 1 ∨ i = j + 1 ∨ (i = 0 ∧ j + 1 = L) ∨ (j = 0 ∧ i + 1 = L)))
theorem walk_fun {G : Nat → Nat → Prop} {I : Nat → Prop} {k a b : Nat} (w : Wk G I k a b) : ∃ f : Nat → Nat, f 0 = a ∧ f k = b ∧ ∀ i, i < k → G (f i) (f (i + 1)) ∧ I (f (i + 1)) := by
  induction w with
  | nil a => exact ⟨fun _ => a, rfl, rfl, fun i hi => by omega⟩
  | @snoc k a u v w g i ih =>
    obtain ⟨f, h1, h2, h3⟩ := ih
    refine ⟨fun j => if j ≤ k then f j else v, by simp [h1], if_neg (by omega), fun j hj => ?_⟩
    rcases Nat.lt_or_ge j k with h | h
    · simp only [if_pos (show j ≤ k by omega), if_pos (show j + 1 ≤ k by omega)]; exact h3 j h
    · obtain rfl : j = k := by omega
      simp only [if_pos (Nat.le_refl j), if_neg (show ¬ j + 1 ≤ j by omega), h2]; exact ⟨g, i⟩
theorem fun_walk {G : Nat → Nat → Prop} {I : Nat → Prop} {f : Nat → Nat} {i : Nat} : ∀ {k : Nat}, (∀ j, i ≤ j → j < i + k → G (f j) (f (j + 1)) ∧ I (f (j + 1))) → Wk G I k (f i) (f (i + k))
  | 0, _ => .nil _
  | k + 1, h => .snoc (fun_walk (k := k) fun j h1 h2 => h j h1 (by omega)) (h (i + k) (by omega) (by omega)).1 (h (i + k) (by omega) (by omega)).2
/-- A shortest walk has no chords. -/
theorem short_fun {ins a b d : Nat} (h : Exact R ins a d b) : ∃ f : Nat → Nat, f 0 = a ∧ f d = b ∧ (∀ i, i < d → GR R (f i) (f (i + 1)) ∧ InS ins (f (i + 1))) ∧ (∀ i j, i < j → j ≤ d → f i ≠ f j) ∧ ∀ i j, i < j → j ≤ d → GR R (f i) (f j) → j = i + 1 := by
  obtain ⟨f, h1, h2, h3⟩ := walk_fun h.1
  have hw : ∀ i k, i + k ≤ d → Wk (GR R) (InS ins) k (f i) (f (i + k)) := fun i k hk => fun_walk fun j h4 h5 => h3 j (by omega)
  refine ⟨f, h1, h2, h3, fun i j hij hj he => ?_, fun i j hij hj hg => ?_⟩
  · have w1 := hw 0 i (by omega)
    have w2 := hw j (d - j) (by omega)
    rw [Nat.zero_add, h1] at w1
    rw [show j + (d - j) = d by omega, h2, ← he] at w2
    exact h.2 _ (show i + (d - j) < d by omega) (w1.cat w2)
  · rcases Nat.lt_or_ge (i + 1) j with hlt | hge
    · exfalso
      have w1 := hw 0 i (by omega)
      have w2 := hw j (d - j) (by omega)
      rw [Nat.zero_add, h1] at w1
      rw [show j + (d - j) = d by omega, h2] at w2
      have hi : InS ins (f j) := by
        have := (h3 (j - 1) (by omega)).2
        rwa [show j - 1 + 1 = j by omega] at this
      exact h.2 _ (show (i + 1) + (d - j) < d by omega) ((Wk.snoc w1 hg hi).cat w2)
    · omega
/-- A place of cycleLength gives a cycle. -/
theorem hole_of (ha : Ady n R) {v x y : Nat} (ok : OkT R n v x y) : ∃ h, Hole R (distF R n x y (restOf R n v x y) + 2) h ∧ (∀ i, i < distF R n x y (restOf R n v x y) + 2 → h i < n) := by
  obtain ⟨⟨hv, hx, hyx⟩, hsk, hd⟩ := ok
  obtain ⟨g1, g2, g3⟩ := skip_no.1 hsk
  have hex := ((dist_spec ha.nn ha.lt (restOf R n v x y) hx (show x ≠ y by omega)).resolve_left (fun h => hd h.1)).2
  generalize distF R n x y (restOf R n v x y) = d at *
  obtain ⟨f, f0, fd, f1, f2, f3⟩ := short_fun hex
  have hd2 : 2 ≤ d := by
    rcases Nat.lt_or_ge d 2 with h | h
    · obtain rfl : d = 1 := by omega
      have := (f1 0 (by omega)).1
      rw [f0, fd] at this
      exact absurd this g3
    · exact h
  have fin : ∀ i, 0 < i → i < d → ¬ GR R v (f i) ∧ f i ≠ v := by
    intro i h0 hi
    have h1 := (f1 (i - 1) (by omega)).2
    rw [show i - 1 + 1 = i by omega] at h1
    rcases (rest_bit ha hv).1 h1 with h2 | h2 | h2
    · exact h2.2
    · exact absurd (f0.trans h2.symm) (f2 0 i h0 (by omega))
    · exact absurd (h2.trans fd.symm) (f2 i d hi (Nat.le_refl _))
  have fn : ∀ i, i ≤ d → f i ≠ v := by
    intro i hi
    rcases Nat.eq_zero_or_pos i with rfl | h0
    · rw [f0]; intro e; rw [e] at g1; exact ha.irr _ g1
    · rcases Nat.lt_or_ge i d with h1 | h1
      · exact (fin i h0 h1).2
      · obtain rfl : i = d := by omega
        rw [fd]; intro e; rw [e] at g2; exact ha.irr _ g2
  have fg : ∀ i, i ≤ d → (GR R v (f i) ↔ i = 0 ∨ i = d) := by
    intro i hi
    constructor
    · intro hg
      rcases Nat.eq_zero_or_pos i with h0 | h0
      · exact .inl h0
      · rcases Nat.lt_or_ge i d with h1 | h1
        · exact absurd hg (fin i h0 h1).1
        · exact .inr (by omega)
    · rintro (rfl | rfl)
      · rw [f0]; exact g1
      · rw [fd]; exact g2
  have ff : ∀ i j, i < j → j ≤ d → (GR R (f i) (f j) ↔ j = i + 1) := fun i j h1 h2 => ⟨f3 i j h1 h2, fun e => by subst e; exact (f1 i (by omega)).1⟩
  refine ⟨fun i => if i = 0 then v else f (i - 1), ⟨by omega, fun i j hi hj he => ?_, fun i j hi hj => ?_⟩, fun i hi => ?_⟩
  · by_cases h0 : i = 0
    · by_cases h1 : j = 0
      · omega
      · simp only [if_pos h0, if_neg h1] at he
        exact absurd he.symm (fn (j - 1) (by omega))
    · by_cases h1 : j = 0
      · simp only [if_neg h0, if_pos h1] at he
        exact absurd he (fn (i - 1) (by omega))
      · simp only [if_neg h0, if_neg h1] at he
        rcases Nat.lt_trichotomy (i - 1) (j - 1) with h2 | h2 | h2
        · exact absurd he (f2 _ _ h2 (by omega))
        · omega
        · exact absurd he.symm (f2 _ _ h2 (by omega))
  · by_cases h0 : i = 0
    · by_cases h1 : j = 0
      · simp only [if_pos h0, if_pos h1]
        exact ⟨fun h => absurd h (ha.irr _), fun h => by omega⟩
      · simp only [if_pos h0, if_neg h1, fg (j - 1) (show j - 1 ≤ d by omega)]; omega
    · by_cases h1 : j = 0
      · simp only [if_neg h0, if_pos h1]
        have := fg (i - 1) (show i - 1 ≤ d by omega)
        constructor
        · intro h; have := this.1 (ha.sym _ _ h); omega
        · intro h; exact ha.sym _ _ (this.2 (by omega))
      · simp only [if_neg h0, if_neg h1]
        rcases Nat.lt_trichotomy (i - 1) (j - 1) with h2 | h2 | h2
        · rw [ff _ _ h2 (by omega)]; omega
        · rw [h2]; exact ⟨fun h => absurd h (ha.irr _), fun h => by omega⟩
        · have := ff _ _ h2 (show i - 1 ≤ d by omega)
          constructor
          · intro h; have := this.1 (ha.sym _ _ h); omega
          · intro h; exact ha.sym _ _ (this.2 (by omega))
  · by_cases h0 : i = 0
    · simp only [if_pos h0]; exact hv
    · simp only [if_neg h0]
      rcases Nat.lt_or_ge (i - 1) d with h1 | h1
      · exact ha.lo (f1 (i - 1) h1).1
      · rw [show i - 1 = d by omega, fd]; omega
/-- A cycle may be turned. -/
theorem Hole.turn {L : Nat} {h : Nat → Nat} (hh : Hole R L h) {m : Nat} (hm : m < L) : Hole R L (fun i => if i + m < L then h (i + m) else h (i + m - L)) := by
  refine ⟨hh.four, fun i j hi hj he => ?_, fun i j hi hj => ?_⟩
  · by_cases h1 : i + m < L
    · by_cases h2 : j + m < L
      · simp only [if_pos h1, if_pos h2] at he; have := hh.inj _ _ h1 h2 he; omega
      · simp only [if_pos h1, if_neg h2] at he; have := hh.inj _ _ h1 (by omega) he; omega
    · by_cases h2 : j + m < L
      · simp only [if_neg h1, if_pos h2] at he; have := hh.inj _ _ (by omega) h2 he; omega
      · simp only [if_neg h1, if_neg h2] at he; have := hh.inj _ _ (by omega) (by omega) he; omega
  · have := hh.four
    by_cases h1 : i + m < L
    · by_cases h2 : j + m < L
      · simp only [if_pos h1, if_pos h2]; rw [hh.adj _ _ h1 h2]; omega
      · simp only [if_pos h1, if_neg h2]; rw [hh.adj _ _ h1 (by omega)]; omega
    · by_cases h2 : j + m < L
      · simp only [if_neg h1, if_pos h2]; rw [hh.adj _ _ (by omega) h2]; omega
      · simp only [if_neg h1, if_neg h2]; rw [hh.adj _ _ (by omega) (by omega)]; omega
end
end Go.Proofs.YtjofdlafblpclaaDoor
namespace Go.Proofs.YtjofdlafblpclaaDoor
section
variable {R : List Nat} {n : Nat}
theorem nth_snoc {p : List Nat} {v i : Nat} : nth (p ++ [v]) i = if i < p.length then nth p i else if i = p.length then v else 0 := by
  simp only [nth, List.getD]
  by_cases h : i < p.length
  · rw [if_pos h, List.getElem?_append_left h]
  · rw [if_neg h, List.getElem?_append_right (by omega)]
    by_cases h2 : i = p.length
    · subst h2; simp
    · rw [if_neg h2, List.getElem?_eq_none (by simp; omega)]; rfl
/-- A path without chords, and what its inner vertices block. -/
structure Pt (R : List Nat) (n : Nat) (p : List Nat) (bl : Nat) : Prop where
  len2 : 2 ≤ p.length
  lt : ∀ i, i < p.length → nth p i < n
  min : ∀ i, 0 < i → i < p.length → nth p 0 < nth p i
  dis : ∀ i j, j < i → i < p.length → nth p i ≠ nth p j
  adj : ∀ i j, j < i → i < p.length → (GR R (nth p i) (nth p j) ↔ j + 1 = i)
  blk : ∀ u, bl.testBit u = true ↔ ∃ i, 0 < i ∧ i + 1 < p.length ∧ (u = nth p i ∨ GR R (nth p i) u)
  b32 : bl < 2 ^ 32
/-- A list that is a chordless cycle, its least vertex first. -/
structure HoleL (R : List Nat) (n L : Nat) (p : List Nat) : Prop where
  four : 4 ≤ L
  len : p.length = L
  lt : ∀ i, i < L → nth p i < n
  min : ∀ i, 0 < i → i < L → nth p 0 < nth p i
  dis : ∀ i j, j < i → i < L → nth p i ≠ nth p j
  adj : ∀ i j, j < i → i < L → (GR R (nth p i) (nth p j) ↔ (j + 1 = i ∨ (j = 0 ∧ i + 1 = L)))
theorem above_bit {s u : Nat} (hs : s < 32) : (aboveN s).testBit u = true ↔ s < u ∧ u < 32 := by
  unfold aboveN
  have h1 : 2 ^ (s + 1) ≤ 2 ^ 32 := two_pow_le (by omega)
  have h2 := pow2_pos (s + 1)
  rw [show 4294967295 - (2 ^ (s + 1) - 1) = 2 ^ 32 - ((2 ^ (s + 1) - 1) + 1) from by omega, Nat.testBit_two_pow_sub_succ (by omega), Nat.testBit_two_pow_sub_one]
  simp; omega
theorem gr_nth {u v : Nat} : GR R u v ↔ (nth R u).testBit v = true := Iff.rfl
theorem Pt.last {p : List Nat} {bl : Nat} (h : Pt R n p bl) : lastN p < n := h.lt _ (by have := h.len2; omega)
theorem after_bit (_ : Ady n R) {p : List Nat} {bl u : Nat} : (afterF R p bl).testBit u = true ↔ bl.testBit u = true ∨ GR R (lastN p) u ∨ u = lastN p := by
  unfold afterF
  rw [Nat.testBit_or, Nat.testBit_or, Bool.or_eq_true, Bool.or_eq_true, two_bit, or_assoc]; rfl
theorem after_lt (ha : Ady n R) {p : List Nat} {bl : Nat} (h : Pt R n p bl) : afterF R p bl < 2 ^ 32 :=
  Nat.or_lt_two_pow (Nat.or_lt_two_pow h.b32 (lt32_2 ha.nn (nth_lt2 ha.lt _))) (pow2_lt32 (by have := h.last; have := ha.nn; omega))
theorem cand_bit (ha : Ady n R) {p : List Nat} {bl u : Nat} (h : Pt R n p bl) : (candF R p bl).testBit u = true ↔ (GR R (lastN p) u ∧ nth p 0 < u) ∧ bl.testBit u = false := by
  have hs : nth p 0 < 32 := by have := h.lt 0 (by have := h.len2; omega); have := ha.nn; omega
  unfold candF
  rw [testBit_andn h.b32 (Nat.lt_of_le_of_lt Nat.and_le_left (lt32_2 ha.nn (nth_lt2 ha.lt _))), Nat.testBit_and, Bool.and_eq_true, Bool.and_eq_true, above_bit hs, Bool.not_eq_true']
  constructor
  · rintro ⟨⟨h1, h2, _⟩, h3⟩; exact ⟨⟨h1, h2⟩, h3⟩
  · rintro ⟨⟨h1, h2⟩, h3⟩; exact ⟨⟨h1, h2, by have := ha.hi h1; have := ha.nn; omega⟩, h3⟩
theorem allow_bit (ha : Ady n R) {p : List Nat} {bl v u : Nat} (h : Pt R n p bl) (hu : u < n) : (allowF R p bl v).testBit u = true ↔ (nth p 0 < u ∧ (afterF R p bl).testBit u = false) ∨ u = v ∨ u = nth p 0 := by
  have hs : nth p 0 < 32 := by have := h.lt 0 (by have := h.len2; omega); have := ha.nn; omega
  unfold allowF
  rw [Nat.testBit_or, Nat.testBit_or, Bool.or_eq_true, Bool.or_eq_true, two_bit, two_bit, testBit_andn (after_lt ha h) (aboveN_lt _), Bool.and_eq_true, above_bit hs, Bool.not_eq_true', or_assoc]
  have := ha.nn
  constructor
  · rintro (⟨⟨h1, _⟩, h2⟩ | h1 | h1)
    · exact .inl ⟨h1, h2⟩
    · exact .inr (.inl h1)
    · exact .inr (.inr h1)
  · rintro (⟨h1, h2⟩ | h1 | h1)
    · exact .inl ⟨⟨h1, by omega⟩, h2⟩
    · exact .inr (.inl h1)
    · exact .inr (.inr h1)
theorem ok_iff {L : Nat} {p : List Nat} {bl v : Nat} : okF R n L p bl v = true ↔ (candF R p bl).testBit v = true ∧ distF R n v (nth p 0) (allowF R p bl v) = L - p.length := by
  unfold okF; simp
/-- One vertex more. -/
theorem Pt.step (ha : Ady n R) {L : Nat} {p : List Nat} {bl v : Nat} (h : Pt R n p bl) (hok : okF R n L p bl v = true) (hL : p.length + 1 < L) :
    Pt R n (p ++ [v]) (afterF R p bl) ∧ ∃ v', v' < n ∧ okF R n L (p ++ [v]) (afterF R p bl) v' = true := by
  obtain ⟨hc, hd⟩ := ok_iff.1 hok
  obtain ⟨⟨hg, hsv⟩, hbl⟩ := (cand_bit ha h).1 hc
  have hl2 := h.len2
  have hvn : v < n := ha.hi hg
  have hbn : ∀ i, 0 < i → i + 1 < p.length → v ≠ nth p i ∧ ¬ GR R (nth p i) v := by
    intro i h1 h2
    constructor
    · intro e; rw [(h.blk v).2 ⟨i, h1, h2, .inl e⟩] at hbl; cases hbl
    · intro e; rw [(h.blk v).2 ⟨i, h1, h2, .inr e⟩] at hbl; cases hbl
  have hsn : nth p 0 < n := h.lt 0 (by omega)
  have hex := ((dist_spec ha.nn ha.lt (allowF R p bl v) hvn (show v ≠ nth p 0 by omega)).resolve_left (fun h1 => by rw [h1.1] at hd; omega)).2
  rw [hd] at hex
  have hns : ¬ GR R v (nth p 0) := by
    intro e
    refine hex.2 1 (by omega) (.snoc (.nil _) e ?_)
    exact (allow_bit ha h hsn).2 (.inr (.inr rfl))
  have hlast : nth p (p.length - 1) = lastN p := rfl
  have hvl : v ≠ lastN p := fun e => by rw [← e] at hg; exact ha.irr _ hg
  have hp' : Pt R n (p ++ [v]) (afterF R p bl) := by
    refine ⟨by simp; omega, fun i hi => ?_, fun i h0 hi => ?_, fun i j hji hi => ?_, fun i j hji hi => ?_, fun u => ?_, after_lt ha h⟩
    · rw [List.length_append, List.length_singleton] at hi
      rw [nth_snoc]
      by_cases h1 : i < p.length
      · rw [if_pos h1]; exact h.lt i h1
      · rw [if_neg h1, if_pos (by omega)]; exact hvn
    · rw [List.length_append, List.length_singleton] at hi
      rw [nth_snoc, if_pos (by omega), nth_snoc]
      by_cases h1 : i < p.length
      · rw [if_pos h1]; exact h.min i h0 h1
      · rw [if_neg h1, if_pos (by omega)]; exact hsv
    · rw [List.length_append, List.length_singleton] at hi
      rw [nth_snoc, nth_snoc]
      by_cases h1 : i < p.length
      · rw [if_pos h1, if_pos (by omega)]; exact h.dis i j hji h1
      · rw [if_neg h1, if_pos (by omega), if_pos (by omega)]
        rcases Nat.eq_zero_or_pos j with rfl | h2
        · omega
        · rcases Nat.lt_or_ge (j + 1) p.length with h3 | h3
          · exact (hbn j h2 h3).1
          · rw [show j = p.length - 1 by omega]; exact hvl
    · rw [List.length_append, List.length_singleton] at hi
      rw [nth_snoc, nth_snoc]
      by_cases h1 : i < p.length
      · rw [if_pos h1, if_pos (by omega)]; exact h.adj i j hji h1
      · rw [if_neg h1, if_pos (by omega), if_pos (by omega)]
        rcases Nat.eq_zero_or_pos j with rfl | h2
        · exact ⟨fun e => absurd e hns, fun e => by omega⟩
        · rcases Nat.lt_or_ge (j + 1) p.length with h3 | h3
          · exact ⟨fun e => absurd (ha.sym _ _ e) (hbn j h2 h3).2, fun e => by omega⟩
          · rw [show j = p.length - 1 by omega]
            exact ⟨fun _ => by omega, fun _ => ha.sym _ _ hg⟩
    · rw [after_bit ha, h.blk, List.length_append, List.length_singleton]
      constructor
      · rintro (⟨i, h1, h2, h3⟩ | h1 | h1)
        · exact ⟨i, h1, by omega, by rw [nth_snoc, if_pos (by omega)]; exact h3⟩
        · exact ⟨p.length - 1, by omega, by omega, by rw [nth_snoc, if_pos (by omega)]; exact .inr h1⟩
        · exact ⟨p.length - 1, by omega, by omega, by rw [nth_snoc, if_pos (by omega)]; exact .inl h1⟩
      · rintro ⟨i, h1, h2, h3⟩
        rw [nth_snoc, if_pos (by omega)] at h3
        rcases Nat.lt_or_ge (i + 1) p.length with h4 | h4
        · exact .inl ⟨i, h1, h4, h3⟩
        · rw [show i = p.length - 1 by omega] at h3
          rcases h3 with h3 | h3
          · exact .inr (.inr h3)
          · exact .inr (.inl h3)
  refine ⟨hp', ?_⟩
  obtain ⟨f, f0, fd, f1, f2, f3⟩ := short_fun hex
  have hm : 2 ≤ L - p.length := by omega
  generalize hdm : L - p.length = m at *
  have g1 := f1 0 (by omega)
  rw [f0, Nat.zero_add] at g1
  have hfn : ∀ i, i ≤ m → f i < n := by
    intro i hi
    rcases Nat.eq_zero_or_pos i with rfl | h0
    · rw [f0]; exact hvn
    · have := ha.hi (f1 (i - 1) (by omega)).1
      rwa [show i - 1 + 1 = i by omega] at this
  have hin : ∀ i, 0 < i → i < m → nth p 0 < f i ∧ (afterF R p bl).testBit (f i) = false := by
    intro i h0 hi
    have h1 := (f1 (i - 1) (by omega)).2
    rw [show i - 1 + 1 = i by omega] at h1
    rcases (allow_bit ha h (hfn i (by omega))).1 h1 with h2 | h2 | h2
    · exact h2
    · exact absurd (f0.trans h2.symm) (f2 0 i h0 (by omega))
    · exact absurd (h2.trans fd.symm) (f2 i m hi (Nat.le_refl _))
  have hl' : lastN (p ++ [v]) = v := by
    unfold lastN; rw [nth_snoc]; simp
  have h0' : nth (p ++ [v]) 0 = nth p 0 := by rw [nth_snoc, if_pos (by omega)]
  refine ⟨f 1, hfn 1 (by omega), ok_iff.2 ⟨(cand_bit ha hp').2 ⟨⟨by rw [hl']; exact g1.1, by rw [h0']; exact (hin 1 (by omega) (by omega)).1⟩, (hin 1 (by omega) (by omega)).2⟩, ?_⟩⟩
  rw [h0', show L - (p ++ [v]).length = m - 1 by simp; omega]
  have hss : f 1 ≠ nth p 0 := by have := (hin 1 (by omega) (by omega)).1; omega
  refine dist_of_exact ha.nn ha.lt (hfn 1 (by omega)) hss ⟨?_, fun j hj w => ?_⟩
  · have w : Wk (GR R) (InS (allowF R (p ++ [v]) (afterF R p bl) (f 1))) (m - 1) (f 1) (f (1 + (m - 1))) := fun_walk fun j h1 h2 => by
      refine ⟨(f1 j (by omega)).1, (allow_bit ha hp' (hfn _ (by omega))).2 ?_⟩
      rw [h0']
      rcases Nat.lt_or_ge (j + 1) m with h3 | h3
      · left
        obtain ⟨h4, h5⟩ := hin (j + 1) (by omega) h3
        refine ⟨h4, ?_⟩
        rw [← Bool.not_eq_true, after_bit ha, hl']
        rintro (h6 | h6 | h6)
        · rw [h5] at h6; cases h6
        · rw [← f0] at h6
          have := f3 0 (j + 1) (by omega) (by omega) h6
          omega
        · rw [← f0] at h6
          exact f2 0 (j + 1) (by omega) (by omega) h6.symm
      · right; right
        rw [show j + 1 = m by omega, fd]
    rwa [show 1 + (m - 1) = m by omega, fd] at w
  · refine hex.2 (j + 1) (by omega) (Wk.cons g1.1 g1.2 (w.mono2 fun a b g i => ?_))
    have hbn' : b < n := ha.hi g
    have h1 := (allow_bit ha hp' hbn').1 i
    rw [h0'] at h1
    refine (allow_bit ha h hbn').2 ?_
    rcases h1 with ⟨h2, h3⟩ | h2 | h2
    · left
      refine ⟨h2, ?_⟩
      cases h4 : (afterF R p bl).testBit b with
      | false => rfl
      | true => rw [(after_bit ha).2 (.inl h4)] at h3; cases h3
    · left; rw [h2]; exact hin 1 (by omega) (by omega)
    · exact .inr (.inr h2)
/-- The last vertex. -/
theorem Pt.close (ha : Ady n R) {L : Nat} {p : List Nat} {bl v : Nat} (h : Pt R n p bl) (hok : okF R n L p bl v = true) (hL : p.length + 1 = L) (h4 : 4 ≤ L) : HoleL R n L (p ++ [v]) := by
  obtain ⟨hc, hd⟩ := ok_iff.1 hok
  obtain ⟨⟨hg, hsv⟩, hbl⟩ := (cand_bit ha h).1 hc
  have hl2 := h.len2
  have hvn : v < n := ha.hi hg
  have hbn : ∀ i, 0 < i → i + 1 < p.length → v ≠ nth p i ∧ ¬ GR R (nth p i) v := by
    intro i h1 h2
    constructor
    · intro e; rw [(h.blk v).2 ⟨i, h1, h2, .inl e⟩] at hbl; cases hbl
    · intro e; rw [(h.blk v).2 ⟨i, h1, h2, .inr e⟩] at hbl; cases hbl
  have hex := ((dist_spec ha.nn ha.lt (allowF R p bl v) hvn (show v ≠ nth p 0 by omega)).resolve_left (fun h1 => by rw [h1.1] at hd; omega)).2
  rw [hd, show L - p.length = 1 by omega] at hex
  have hns : GR R v (nth p 0) := by
    have w := hex.1
    cases w with
    | snoc w g i => cases w; exact g
  have hvl : v ≠ lastN p := fun e => by rw [← e] at hg; exact ha.irr _ hg
  refine ⟨h4, by simp; omega, fun i hi => ?_, fun i h0 hi => ?_, fun i j hji hi => ?_, fun i j hji hi => ?_⟩
  · rw [nth_snoc]
    by_cases h1 : i < p.length
    · rw [if_pos h1]; exact h.lt i h1
    · rw [if_neg h1, if_pos (by omega)]; exact hvn
  · rw [nth_snoc, if_pos (by omega), nth_snoc]
    by_cases h1 : i < p.length
    · rw [if_pos h1]; exact h.min i h0 h1
    · rw [if_neg h1, if_pos (by omega)]; exact hsv
  · rw [nth_snoc, nth_snoc]
    by_cases h1 : i < p.length
    · rw [if_pos h1, if_pos (by omega)]; exact h.dis i j hji h1
    · rw [if_neg h1, if_pos (by omega), if_pos (by omega)]
      rcases Nat.eq_zero_or_pos j with rfl | h2
      · omega
      · rcases Nat.lt_or_ge (j + 1) p.length with h3 | h3
        · exact (hbn j h2 h3).1
        · rw [show j = p.length - 1 by omega]; exact hvl
  · rw [nth_snoc, nth_snoc]
    by_cases h1 : i < p.length
    · rw [if_pos h1, if_pos (by omega), h.adj i j hji h1]; omega
    · rw [if_neg h1, if_pos (by omega), if_pos (by omega)]
      rcases Nat.eq_zero_or_pos j with rfl | h2
      · exact ⟨fun _ => .inr ⟨rfl, by omega⟩, fun _ => hns⟩
      · rcases Nat.lt_or_ge (j + 1) p.length with h3 | h3
        · exact ⟨fun e => absurd (ha.sym _ _ e) (hbn j h2 h3).2, fun e => by omega⟩
        · rw [show j = p.length - 1 by omega]
          exact ⟨fun _ => by omega, fun _ => ha.sym _ _ hg⟩
theorem find_some {p : Nat → Bool} {n v : Nat} (h : v < n) (hv : p v = true) : ∃ u, (List.range n).find? p = some u ∧ u < n ∧ p u = true ∧ ∀ j, j < u → p j = false := by
  obtain ⟨m, h1, h2⟩ := least (P := fun u => p u = true) hv
  have hm : m < n := by
    rcases Nat.lt_or_ge v m with h3 | h3
    · exact absurd hv (h2 v h3)
    · omega
  exact ⟨m, find_at (fun j hj => by simpa using h2 j hj) h1 hm, hm, h1, fun j hj => by simpa using h2 j hj⟩
theorem ext_hole (ha : Ady n R) {L : Nat} (h4 : 4 ≤ L) : ∀ (f : Nat) (p : List Nat) (bl : Nat), Pt R n p bl → p.length + (f + 1) = L → (∃ v, v < n ∧ okF R n L p bl v = true) → HoleL R n L (extF R n L (f + 1) p bl)
  | 0, p, bl, h, hL, ⟨v, hv, hok⟩ => by
    obtain ⟨u, h1, _, h3, _⟩ := find_some hv hok
    rw [extF, h1]
    exact h.close ha h3 hL h4
  | f + 1, p, bl, h, hL, ⟨v, hv, hok⟩ => by
    obtain ⟨u, h1, _, h3, _⟩ := find_some hv hok
    obtain ⟨h5, h6⟩ := h.step ha h3 (by omega)
    rw [extF, h1]
    exact ext_hole ha h4 f _ _ h5 (by simp; omega) h6
theorem pt_two (ha : Ady n R) {s t : Nat} (h1 : s < t) (hg : GR R s t) : Pt R n [s, t] 0 := by
  have hs := ha.lo hg
  have ht := ha.hi hg
  refine ⟨Nat.le_refl _, fun i hi => ?_, fun i h0 hi => ?_, fun i j hji hi => ?_, fun i j hji hi => ?_, fun u => ?_, by omega⟩
  · simp at hi
    rcases (show i = 0 ∨ i = 1 by omega) with rfl | rfl
    · exact hs
    · exact ht
  · simp at hi
    obtain rfl : i = 1 := by omega
    exact h1
  · simp at hi
    obtain rfl : i = 1 := by omega
    obtain rfl : j = 0 := by omega
    show t ≠ s
    omega
  · simp at hi
    obtain rfl : i = 1 := by omega
    obtain rfl : j = 0 := by omega
    exact ⟨fun _ => rfl, fun _ => ha.sym _ _ hg⟩
  · constructor
    · intro h; simp at h
    · rintro ⟨i, h2, h3, _⟩
      simp at h3; omega
theorem scT_hole (ha : Ady n R) {L s t : Nat} (h4 : 4 ≤ L) (h : scT R n L s t ≠ []) : HoleL R n L (scT R n L s t) := by
  unfold scT at h ⊢
  by_cases h1 : (decide (s < t) && (nth R s).testBit t) = true
  · rw [if_pos h1] at h ⊢
    rw [Bool.and_eq_true, decide_eq_true_eq] at h1
    obtain ⟨m, rfl⟩ : ∃ m, L = m + 3 := ⟨L - 3, by omega⟩
    rw [show m + 3 - 2 = m + 1 by omega] at h ⊢
    refine ext_hole ha h4 m _ _ (pt_two ha h1.1 h1.2) (by simp; omega) ?_
    refine Classical.byContradiction fun hno => h ?_
    rw [extF, find_none fun j hj => ?_]
    cases hk : okF R n (m + 3) [s, t] 0 j with
    | false => rfl
    | true => exact absurd ⟨j, hj, hk⟩ hno
  · rw [if_neg h1] at h; exact absurd rfl h
theorem firstNE_some : ∀ {l : List (List Nat)}, (∃ x ∈ l, x ≠ []) → firstNE l ≠ []
  | [], h => by obtain ⟨x, hx, _⟩ := h; cases hx
  | y :: r, h => by
    rw [firstNE]
    by_cases hy : y = []
    · rw [if_pos hy]
      refine firstNE_some ?_
      obtain ⟨x, hx, hn⟩ := h
      rcases List.mem_cons.1 hx with rfl | hx
      · exact absurd hy hn
      · exact ⟨x, hx, hn⟩
    · rw [if_neg hy]; exact hy
theorem firstNE_prop {P : List Nat → Prop} : ∀ {l : List (List Nat)}, (∀ x ∈ l, x ≠ [] → P x) → firstNE l ≠ [] → P (firstNE l)
  | [], _, h => absurd rfl h
  | y :: r, hp, h => by
    rw [firstNE] at h ⊢
    by_cases hy : y = []
    · rw [if_pos hy] at h ⊢; exact firstNE_prop (fun x hx => hp x (by simp [hx])) h
    · rw [if_neg hy]; exact hp y (by simp) hy
theorem cyl_four (ha : Ady n R) (h : cylF R n ≠ 0) : 4 ≤ cylF R n := by
  obtain ⟨v, x, y, ok, e⟩ := cylF_at h
  obtain ⟨h, hh, _⟩ := hole_of ha ok
  rw [e]; exact hh.four
theorem sc_hole (ha : Ady n R) (h : scF R n ≠ []) : HoleL R n (cylF R n) (scF R n) := by
  unfold scF at h ⊢
  by_cases h0 : cylF R n = 0
  · rw [if_pos h0] at h; exact absurd rfl h
  · rw [if_neg h0] at h ⊢
    have h4 := cyl_four ha h0
    refine firstNE_prop (P := HoleL R n (cylF R n)) (fun x hx hxn => ?_) h
    rw [List.mem_map] at hx
    obtain ⟨s, _, rfl⟩ := hx
    refine firstNE_prop (P := HoleL R n (cylF R n)) (fun x hx hxn => ?_) hxn
    rw [List.mem_map] at hx
    obtain ⟨t, _, rfl⟩ := hx
    exact scT_hole ha h4 hxn
/-- The least of the vertices of a cycle. -/
theorem least_at (h : Nat → Nat) : ∀ L, 0 < L → ∃ m, m < L ∧ ∀ i, i < L → h m ≤ h i
  | 0, h0 => by omega
  | 1, _ => ⟨0, by omega, fun i hi => by obtain rfl : i = 0 := by omega
                                         exact Nat.le_refl _⟩
  | L + 2, _ => by
    obtain ⟨m, h1, h2⟩ := least_at h (L + 1) (by omega)
    rcases Nat.lt_or_ge (h (L + 1)) (h m) with h3 | h3
    · refine ⟨L + 1, by omega, fun i hi => ?_⟩
      rcases Nat.lt_or_ge i (L + 1) with h4 | h4
      · have := h2 i h4; omega
      · obtain rfl : i = L + 1 := by omega
        exact Nat.le_refl _
    · refine ⟨m, by omega, fun i hi => ?_⟩
      rcases Nat.lt_or_ge i (L + 1) with h4 | h4
      · exact h2 i h4
      · obtain rfl : i = L + 1 := by omega
        exact h3
/-- A shortest cycle with its least vertex first begins with a pair that the search takes. -/
theorem hole_start (ha : Ady n R) {h : Nat → Nat} (hh : Hole R (cylF R n) h) (hlt : ∀ i, i < cylF R n → h i < n) (hmin : ∀ i, 0 < i → i < cylF R n → h 0 < h i) :
    okF R n (cylF R n) [h 0, h 1] 0 (h 2) = true := by
  have h4 := hh.four
  generalize hL : cylF R n = L at *
  have g01 : GR R (h 0) (h 1) := (hh.adj 0 1 (by omega) (by omega)).2 (by omega)
  have g12 : GR R (h 1) (h 2) := (hh.adj 1 2 (by omega) (by omega)).2 (by omega)
  have hp := pt_two ha (hmin 1 (by omega) (by omega)) g01
  have e0 : nth [h 0, h 1] 0 = h 0 := rfl
  have el : lastN [h 0, h 1] = h 1 := rfl
  refine ok_iff.2 ⟨(cand_bit ha hp).2 ⟨⟨by rw [el]; exact g12, by rw [e0]; exact hmin 2 (by omega) (by omega)⟩, by simp⟩, ?_⟩
  rw [e0, show L - [h 0, h 1].length = L - 2 from rfl]
  have hne : h 2 ≠ h 0 := by have := hmin 2 (by omega) (by omega); omega
  refine dist_of_exact ha.nn ha.lt (hlt 2 (by omega)) hne ⟨?_, fun k hk w => ?_⟩
  · have w : Wk (GR R) (InS (allowF R [h 0, h 1] 0 (h 2))) (L - 3) (h 2) (h (2 + (L - 3))) := fun_walk fun j h1 h2 => by
      refine ⟨(hh.adj j (j + 1) (by omega) (by omega)).2 (by omega), (allow_bit ha hp (hlt _ (by omega))).2 (.inl ⟨by rw [e0]; exact hmin _ (by omega) (by omega), ?_⟩)⟩
      rw [← Bool.not_eq_true, after_bit ha, el]
      rintro (h3 | h3 | h3)
      · simp at h3
      · have := (hh.adj 1 (j + 1) (by omega) (by omega)).1 h3; omega
      · have := hh.inj _ _ (by omega) (by omega) h3; omega
    rw [show 2 + (L - 3) = L - 1 by omega] at w
    have := Wk.snoc w ((hh.adj (L - 1) 0 (by omega) (by omega)).2 (by omega)) ((allow_bit ha hp (hlt 0 (by omega))).2 (.inr (.inr rfl)))
    rwa [show L - 3 + 1 = L - 2 by omega] at this
  · have hsk : skipB R (h 1) (h 2) (h 0) = false := skip_no.2 ⟨g12, ha.sym _ _ g01, fun g => by
      have := (hh.adj 2 0 (by omega) (by omega)).1 g; omega⟩
    have w2 : Wk (GR R) (InS (restOf R n (h 1) (h 2) (h 0))) k (h 2) (h 0) := w.mono2 fun a b g i => by
      have hb := ha.hi g
      refine (rest_bit ha (hlt 1 (by omega))).2 ?_
      rcases (allow_bit ha hp hb).1 i with ⟨h1, h2⟩ | h1 | h1
      · left
        rw [← Bool.not_eq_true, after_bit ha, el] at h2
        exact ⟨hb, fun e => h2 (.inr (.inl e)), fun e => h2 (.inr (.inr e))⟩
      · exact .inr (.inl h1)
      · exact .inr (.inr h1)
    obtain ⟨m, hm, w3, w4⟩ := least_wk w2
    have hd := dist_of_exact ha.nn ha.lt (hlt 2 (by omega)) hne (⟨w3, w4⟩ : Exact R _ _ _ _)
    have hm0 : m ≠ 0 := by
      intro e; rw [e] at w3; exact hne w3.zero
    have ok : OkT R n (h 1) (h 2) (h 0) := ⟨⟨hlt 1 (by omega), hlt 2 (by omega), hmin 2 (by omega) (by omega)⟩, hsk, by rw [hd]; exact hm0⟩
    have := (cylF_min ok).2
    rw [hd, hL] at this
    omega
/-- Every hole may be turned so that its least vertex comes first. -/
theorem Hole.head (_ : Ady n R) {L : Nat} {h : Nat → Nat} (hh : Hole R L h) (hlt : ∀ i, i < L → h i < n) : ∃ g, Hole R L g ∧ (∀ i, i < L → g i < n) ∧ ∀ i, 0 < i → i < L → g 0 < g i := by
  have h4 := hh.four
  obtain ⟨m, h1, h2⟩ := least_at h L (by omega)
  have ht := hh.turn h1
  refine ⟨_, ht, fun i hi => ?_, fun i h0 hi => ?_⟩
  · by_cases h3 : i + m < L
    · simp only [if_pos h3]; exact hlt _ h3
    · simp only [if_neg h3]; exact hlt _ (by omega)
  · have hne : (if 0 + m < L then h (0 + m) else h (0 + m - L)) ≠ (if i + m < L then h (i + m) else h (i + m - L)) := fun e => by
      have := ht.inj 0 i (by omega) hi e
      omega
    have hle : ∀ j, j < L → h m ≤ (if j + m < L then h (j + m) else h (j + m - L)) := by
      intro j hj
      by_cases h3 : j + m < L
      · rw [if_pos h3]; exact h2 _ h3
      · rw [if_neg h3]; exact h2 _ (by omega)
    have e0 : (if 0 + m < L then h (0 + m) else h (0 + m - L)) = h m := by rw [if_pos (by omega), Nat.zero_add]
    have := hle i hi
    simp only [e0] at hne ⊢
    omega
theorem sc_some (ha : Ady n R) (h : cylF R n ≠ 0) : scF R n ≠ [] := by
  obtain ⟨v, x, y, ok, e⟩ := cylF_at h
  obtain ⟨g, hg, hlt⟩ := hole_of ha ok
  rw [← e] at hg hlt
  obtain ⟨k, hk, klt, kmin⟩ := hg.head ha hlt
  have h4 := hk.four
  have hok := hole_start ha hk klt kmin
  unfold scF
  rw [if_neg h]
  have hs : scT R n (cylF R n) (k 0) (k 1) ≠ [] := by
    have g01 : GR R (k 0) (k 1) := (hk.adj 0 1 (by omega) (by omega)).2 (by omega)
    unfold scT
    rw [if_pos (by rw [Bool.and_eq_true, decide_eq_true_eq]; exact ⟨kmin 1 (by omega) (by omega), g01⟩)]
    obtain ⟨m, hm⟩ : ∃ m, cylF R n = m + 3 := ⟨cylF R n - 3, by omega⟩
    have := ext_hole ha h4 m [k 0, k 1] 0 (pt_two ha (kmin 1 (by omega) (by omega)) g01) (by simp; omega) ⟨k 2, klt 2 (by omega), hok⟩
    rw [show cylF R n - 2 = m + 1 by omega]
    intro he
    have := this.len
    rw [he] at this
    simp at this; omega
  refine firstNE_some ⟨_, List.mem_map.2 ⟨k 0, by simpa using klt 0 (by omega), rfl⟩, ?_⟩
  exact firstNE_some ⟨_, List.mem_map.2 ⟨k 1, by simpa using klt 1 (by omega), rfl⟩, hs⟩
end
end Go.Proofs.YtjofdlafblpclaaDoor
namespace Go.Proofs.YtjofdlafblpclaaDoor
section
variable {R : List Nat} {n : Nat}
theorem no_hole (ha : Ady n R) (h0 : cylF R n = 0) {v x y : Nat} (g1 : GR R v x) (g2 : GR R v y) (hne : x ≠ y) (g3 : ¬ GR R x y) (k : Nat) : ¬ Wk (GR R) (fun u => (¬ GR R v u ∧ u ≠ v) ∨ u = x ∨ u = y) k x y := by
  have key : ∀ {x y : Nat}, GR R v x → GR R v y → y < x → ¬ GR R x y → ∀ k, ¬ Wk (GR R) (fun u => (¬ GR R v u ∧ u ≠ v) ∨ u = x ∨ u = y) k x y := by
    intro x y g1 g2 hlt g3 k w
    have hx := ha.hi g1
    have hv := ha.lo g1
    have hno := cylF_zero h0 (v := v) (x := x) (y := y)
    have hd : distF R n x y (restOf R n v x y) = 0 := Classical.byContradiction fun hd => hno ⟨⟨hv, hx, hlt⟩, skip_no.2 ⟨g1, g2, g3⟩, hd⟩
    rcases dist_spec ha.nn ha.lt (restOf R n v x y) hx (show x ≠ y by omega) with ⟨_, h1⟩ | ⟨h1, _⟩
    · refine h1 k (w.mono2 fun a b g i => (rest_bit ha hv).2 ?_)
      rcases i with ⟨i1, i2⟩ | i
      · exact .inl ⟨ha.hi g, i1, i2⟩
      · exact .inr i
    · omega
  rcases Nat.lt_or_ge y x with h | h
  · exact key g1 g2 h g3 k
  · intro w
    refine key g2 g1 (by omega) (fun g => g3 (ha.sym _ _ g)) k ?_
    have := w.rev ha.sym (.inr (.inl rfl))
    exact this.mono fun u i => by
      rcases i with i | i | i
      · exact .inl i
      · exact .inr (.inr i)
      · exact .inr (.inl i)
theorem bitset (P : Nat → Prop) : ∀ n, ∃ W, W < 2 ^ n ∧ ∀ u, W.testBit u = true ↔ u < n ∧ P u
  | 0 => ⟨0, by simp, fun u => by simp⟩
  | n + 1 => by
    obtain ⟨W, h1, h2⟩ := bitset P n
    by_cases hp : P n
    · refine ⟨W ||| 2 ^ n, Nat.or_lt_two_pow (Nat.lt_trans h1 (Nat.pow_lt_pow_right (by omega) (by omega))) (Nat.pow_lt_pow_right (by omega) (by omega)), fun u => ?_⟩
      rw [or_bit, h2]
      constructor
      · rintro (⟨h3, h4⟩ | rfl)
        · exact ⟨by omega, h4⟩
        · exact ⟨by omega, hp⟩
      · rintro ⟨h3, h4⟩
        by_cases hu : u = n
        · exact .inr hu
        · exact .inl ⟨by omega, h4⟩
    · refine ⟨W, Nat.lt_trans h1 (Nat.pow_lt_pow_right (by omega) (by omega)), fun u => ?_⟩
      rw [h2]
      constructor
      · rintro ⟨h3, h4⟩; exact ⟨by omega, h4⟩
      · rintro ⟨h3, h4⟩
        have : u ≠ n := fun e => hp (e ▸ h4)
        exact ⟨by omega, h4⟩
theorem bits_lt_of {A B v : Nat} (hs : sub A B) (hv : v < n) (h1 : A.testBit v = false) (h2 : B.testBit v = true) : bitsOf n A < bitsOf n B :=
  countP_lt_of _ _ _ (fun x _ hx => hs x hx) ⟨v, by simpa using hv, h1, h2⟩
def Con (R : List Nat) (U : Nat) : Prop := ∀ x y, U.testBit x = true → U.testBit y = true → ∃ k, Wk (GR R) (InS U) k x y
/-- A connected part, with a vertex apart from it. -/
def Far (R : List Nat) (S U : Nat) : Prop := (sub U S ∧ ∃ u, U.testBit u = true) ∧ Con R U ∧ ∃ w, S.testBit w = true ∧ U.testBit w = false ∧ ∀ u, U.testBit u = true → ¬ GR R w u
theorem nz_bit {x : Nat} (h : x ≠ 0) : ∃ u, x.testBit u = true := by
  refine Classical.byContradiction fun hno => h (zero_of_bits fun v => ?_)
  cases hv : x.testBit v with
  | false => rfl
  | true => exact absurd ⟨v, hv⟩ hno
theorem dirac (ha : Ady n R) (h0 : cylF R n = 0) : ∀ (m S : Nat), bitsOf n S = m → S < 2 ^ n → S ≠ 0 → ∃ v, S.testBit v = true ∧ ∀ x y, S.testBit x = true → S.testBit y = true → GR R v x → GR R v y → x ≠ y → GR R x y := by
  intro m
  induction m using Nat.strongRecOn with
  | ind m ih =>
  intro S hm hS hS0
  by_cases hc : ∃ a b, S.testBit a = true ∧ S.testBit b = true ∧ a ≠ b ∧ ¬ GR R a b
  · obtain ⟨a, b, sa, sb, hab, hg⟩ := hc
    have start : Far R S (2 ^ a) := by
      refine ⟨⟨fun u hu => ?_, a, by rw [two_bit]⟩, fun x y hx hy => ?_, b, sb, ?_, fun u hu => ?_⟩
      · rw [two_bit] at hu; rw [hu]; exact sa
      · rw [two_bit] at hx hy; rw [hx, hy]; exact ⟨0, .nil _⟩
      · rw [← Bool.not_eq_true, two_bit]; exact fun e => hab e.symm
      · rw [two_bit] at hu; rw [hu]; exact fun g => hg (ha.sym _ _ g)
    obtain ⟨j, ⟨U, hU, hj⟩, hmax⟩ := least (P := fun j => ∃ U, Far R S U ∧ bitsOf n U + j = n) (n := n - bitsOf n (2 ^ a)) ⟨2 ^ a, start, by have := bitsOf_le n (2 ^ a); omega⟩
    have hbig : ∀ U', Far R S U' → bitsOf n U' ≤ bitsOf n U := by
      intro U' hU'
      rcases Nat.lt_or_ge (bitsOf n U) (bitsOf n U') with h | h
      · have := bitsOf_le n U'
        exact absurd ⟨U', hU', by omega⟩ (hmax (n - bitsOf n U') (by omega))
      · exact h
    obtain ⟨⟨hUS, u0, hu0⟩, hcon, w0, sw0, uw0, gw0⟩ := hU
    -- the vertices apart
    obtain ⟨W, hW, hWb⟩ := bitset (fun w => S.testBit w = true ∧ U.testBit w = false ∧ ∀ u, U.testBit u = true → ¬ GR R w u) n
    have hSn : ∀ u, S.testBit u = true → u < n := fun u hu => testBit_lt hS hu
    have hW0 : W.testBit w0 = true := (hWb w0).2 ⟨hSn _ sw0, sw0, uw0, gw0⟩
    have full : ∀ x w, S.testBit x = true → U.testBit x = false → (∃ u, U.testBit u = true ∧ GR R x u) → W.testBit w = true → GR R x w := by
      intro x w sx ux ⟨u, hu, gu⟩ hw
      refine Classical.byContradiction fun hng => ?_
      obtain ⟨_, sw, uw, gw⟩ := (hWb w).1 hw
      have hxw : w ≠ x := fun e => gw u hu (e ▸ gu)
      have far : Far R S (U ||| 2 ^ x) := by
        refine ⟨⟨fun v hv => ?_, u0, (or_bit U x u0).2 (.inl hu0)⟩, fun p q hp hq => ?_, w, sw, ?_, fun v hv => ?_⟩
        · rcases (or_bit U x v).1 hv with h | rfl
          · exact hUS v h
          · exact sx
        · have hsub : ∀ v, InS U v → InS (U ||| 2 ^ x) v := fun v hv => (or_bit U x v).2 (.inl hv)
          rcases (or_bit U x p).1 hp with h1 | rfl
          · rcases (or_bit U x q).1 hq with h2 | rfl
            · obtain ⟨k, wk⟩ := hcon p q h1 h2; exact ⟨k, wk.mono hsub⟩
            · obtain ⟨k, wk⟩ := hcon p u h1 hu
              exact ⟨k + 1, .snoc (wk.mono hsub) (ha.sym _ _ gu) hq⟩
          · rcases (or_bit U p q).1 hq with h2 | rfl
            · obtain ⟨k, wk⟩ := hcon u q hu h2
              exact ⟨k + 1, Wk.cons gu (hsub u hu) (wk.mono hsub)⟩
            · exact ⟨0, .nil _⟩
        · rw [← Bool.not_eq_true, or_bit]
          rintro (h | h)
          · rw [uw] at h; cases h
          · exact hxw h
        · rcases (or_bit U x v).1 hv with h | rfl
          · exact gw v h
          · exact fun g => hng (ha.sym _ _ g)
      have h1 := hbig _ far
      have h2 : bitsOf n U < bitsOf n (U ||| 2 ^ x) := bits_lt_of (fun v hv => (or_bit U x v).2 (.inl hv)) (hSn x sx) ux ((or_bit U x x).2 (.inr rfl))
      omega
    have rim : ∀ x y, S.testBit x = true → U.testBit x = false → (∃ u, U.testBit u = true ∧ GR R x u) → S.testBit y = true → U.testBit y = false → (∃ u, U.testBit u = true ∧ GR R y u) → x ≠ y → GR R x y := by
      intro x y sx ux ex sy uy ey hxy
      refine Classical.byContradiction fun hng => ?_
      have g1 := ha.sym _ _ (full x w0 sx ux ex hW0)
      have g2 := ha.sym _ _ (full y w0 sy uy ey hW0)
      obtain ⟨p, hp, gp⟩ := ex
      obtain ⟨q, hq, gq⟩ := ey
      obtain ⟨k, wk⟩ := hcon p q hp hq
      have hI : ∀ v, InS U v → (fun u => (¬ GR R w0 u ∧ u ≠ w0) ∨ u = x ∨ u = y) v := fun v hv => .inl ⟨gw0 v hv, fun e => by rw [e] at hv; exact absurd hv (by rw [InS, uw0]; simp)⟩
      exact no_hole ha h0 g1 g2 hxy hng (k + 1 + 1) (.snoc (Wk.cons gp (hI p hp) (wk.mono hI)) (ha.sym _ _ gq) (.inr (.inr rfl)))
    have hWS : sub W S := fun v hv => ((hWb v).1 hv).2.1
    have hlt : bitsOf n W < m := by
      rw [← hm]
      refine bits_lt_of hWS (hSn u0 (hUS u0 hu0)) ?_ (hUS u0 hu0)
      cases h : W.testBit u0 with
      | false => rfl
      | true => have := ((hWb u0).1 h).2.2.1; rw [hu0] at this; cases this
    obtain ⟨v, hv, hsim⟩ := ih _ hlt W rfl hW (fun e => by rw [e] at hW0; simp at hW0)
    obtain ⟨_, sv, uv, gv⟩ := (hWb v).1 hv
    refine ⟨v, sv, fun x y sx sy gx gy hxy => ?_⟩
    have part : ∀ x, S.testBit x = true → GR R v x → W.testBit x = true ∨ (U.testBit x = false ∧ ∃ u, U.testBit u = true ∧ GR R x u) := by
      intro x sx gx
      cases hux : U.testBit x with
      | true => exact absurd gx (gv x hux)
      | false =>
        by_cases hex : ∃ u, U.testBit u = true ∧ GR R x u
        · exact .inr ⟨rfl, hex⟩
        · exact .inl ((hWb x).2 ⟨hSn x sx, sx, hux, fun u hu g => hex ⟨u, hu, g⟩⟩)
    rcases part x sx gx with hx | ⟨ux, ex⟩
    · rcases part y sy gy with hy | ⟨uy, ey⟩
      · exact hsim x y hx hy gx gy hxy
      · exact ha.sym _ _ (full y x sy uy ey hx)
    · rcases part y sy gy with hy | ⟨uy, ey⟩
      · exact full x y sx ux ex hy
      · exact rim x y sx ux ex sy uy ey hxy
  · obtain ⟨v, hv⟩ := nz_bit hS0
    refine ⟨v, hv, fun x y sx sy _ _ hxy => Classical.byContradiction fun hng => hc ⟨x, y, sx, sy, hxy, hng⟩⟩
end
end Go.Proofs.YtjofdlafblpclaaDoor
