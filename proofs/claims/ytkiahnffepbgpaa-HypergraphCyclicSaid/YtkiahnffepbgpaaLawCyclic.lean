/-
  The walk of law26.HypergraphCyclic.
-/
import Derived.Test.YtkiahnffepbgpaaAwk26
import Derived.Test.YtkiahnffepbgpaaChkO
import Derived.Test.YtkiahnffepbgpaaObsU
namespace Go.Proofs.Ytkiahnffepbgpaa
open Go.RowKit
set_option linter.unusedSimpArgs false
set_option linter.unusedVariables false

theorem own_any {w : World} {base : Nat} {n : Nat} {l : List Nat} {v : Value} (hn : n ≤ 32) (hl : ∀ x ∈ l, x < n) (h : w.ownsRow base 3 1 v l.length (I64 (ints l))) : ∃ A c, v = .slice A l.length c ∧ Xs w w.heap.size A l.length (ints l) := by
  have h2 := h
  rw [show l.length = (ints l).length from (ints_length l).symm] at h2
  obtain ⟨A, c, rfl, hx⟩ := Xs.of_own h2 (ints_bound hn hl)
  rw [ints_length] at hx
  exact ⟨A, c, by rw [ints_length], hx⟩
theorem obsF_mem {R : List Nat} {n : Nat} {es : List Nat} : ∀ x ∈ (obsF R n es).1, x < n := by
  unfold obsF
  rcases pick_cases (scF R n) (clF n es (mostF n (scF R n))) with ⟨h1, _⟩ | ⟨_, h1⟩
  · rw [h1]; exact scF_mem
  · rw [h1]; exact clF_mem
set_option maxRecDepth 100000 in
set_option maxHeartbeats 8000000 in
theorem hypergraphCyclic_walk (n : Int) (A : Option Addr) (es : List Nat) (len c : Nat) (w : World) (hr : Es w w.heap.size A len es) (_ : -9223372036854775808 ≤ n ∧ n ≤ 9223372036854775807) (_ : len ≤ c) :
    Calls Try.prog 7 #[.agg #[.int .i64 n, .slice A len c]] w fun e w' => e = .returned (.bool true) ∧ Below w.heap.size w w' := by
  have HR := Lib.hid hr; clear hr
  have HG := Lib.hid (GB.made w 24 (.int .i64 n) (.slice A len c))
  have HW := Lib.hid (al w (.cells #[.int .i64 n, .slice A len c] 24))
  cases hf : fewB n es with
  | false =>
    have HF := Lib.hid hf; clear hf
    go_enter Try.func7, Try.ntmps7
    go_wp2_with fail
    refine (few_any n A es len c _ (HR.out.new HW.out)).mono ?_
    rintro e w1 ⟨rfl, hb⟩
    rw [HF.out]
    have HB := Lib.hid (bthen HW.out hb (by simp)); clear hb
    go_wp2_with fail
    refine (awake26_any _).mono ?_
    rintro e w2 ⟨rfl, hb⟩
    have HB2 := Lib.hid (bthen HB.out hb HB.out.size); clear hb
    go_wp2_with fail
    go_ret
    exact ⟨rfl, HB2.out⟩
  | true =>
    obtain ⟨h0, hn6, hl8, hcc⟩ := of_decide_eq_true hf
    obtain ⟨n, rfl⟩ := Int.eq_ofNat_of_zero_le h0
    obtain ⟨_, hn32, _, hes⟩ := checkCode_zero hcc
    have hes' : ∀ e ∈ es, e < 2 ^ n := by simpa using hes
    have HES := Lib.hid hes'
    have HF := Lib.hid hf
    have HC := Lib.hid hcc
    clear hf hcc hes hes' hl8 hn32
    have hn : n ≤ 32 := by omega
    go_enter Try.func7, Try.ntmps7
    go_wp2_with fail
    refine (few_any n A es len c _ (HR.out.new HW.out)).mono ?_
    rintro e w1 ⟨rfl, hb⟩
    rw [HF.out]
    replace HG := Lib.hid (HG.out.new hb)
    have HB := Lib.hid (bthen HW.out hb (by simp)); clear hb
    have g0 := HG.out.c0; have g1 := HG.out.c1; have glt := HG.out.lt
    go_wp2_with fail
    refine (obstruction_any n A es len c _ (HR.out.new HB.out) HC.out).mono ?_
    rintro e w2 ⟨v2, rfl, hown, _, hb⟩
    obtain ⟨A2, c2, rfl, hx⟩ := own_any hn obsF_mem hown
    have HX := Lib.hid hx
    have HFD := Lib.hid (fun h => obs_found hn HES.out h)
    have HMS := Lib.hid (fun h => obs_missed hn HES.out h)
    replace HG := Lib.hid (HG.out.new hb)
    replace HB := Lib.hid (bthen HB.out hb HB.out.size); clear hb hx hown
    generalize obsF (adjRow n es) n es = o at *
    obtain ⟨l, ok⟩ := o
    simp only at HX HFD HMS
    clear g0 g1 glt
    have g0 := HG.out.c0; have g1 := HG.out.c1; have glt := HG.out.lt
    cases ok with
    | true =>
      obtain ⟨hcy, hchk⟩ := HFD.out rfl
      have HCY := Lib.hid hcy; have HCH := Lib.hid hchk; clear hcy hchk
      go_wp2_with fail
      refine (awake26_any _).mono ?_
      rintro e w3 ⟨rfl, hb⟩
      replace HG := Lib.hid (HG.out.new hb); replace HX := Lib.hid (HX.out.new hb)
      replace HB := Lib.hid (bthen HB.out hb HB.out.size); clear hb g0 g1 glt
      have g0 := HG.out.c0; have g1 := HG.out.c1; have glt := HG.out.lt
      go_wp2_with fail
      refine (acyclic_ok n A es len c _ (HR.out.new HB.out) HC.out).mono ?_
      rintro e w4 ⟨b, hb0, rfl, hb⟩
      obtain rfl : b = false := by cases b with
        | false => rfl
        | true => exact absurd (hb0.1 rfl) HCY.out
      replace HG := Lib.hid (HG.out.new hb); replace HX := Lib.hid (HX.out.new hb)
      replace HB := Lib.hid (bthen HB.out hb HB.out.size); clear hb hb0 g0 g1 glt
      have g0 := HG.out.c0; have g1 := HG.out.c1; have glt := HG.out.lt
      go_wp2_with fail
      refine (checkObs_any n A es len c A2 (ints l) l.length c2 _ (HR.out.new HB.out) HC.out HX.out).mono ?_
      rintro e w5 ⟨rfl, hb⟩
      rw [HCH.out]
      replace HB := Lib.hid (bthen HB.out hb HB.out.size); clear hb
      go_wp2_with fail
      go_ret
      exact ⟨rfl, HB.out⟩
    | false =>
      have HAC := Lib.hid (HMS.out rfl)
      go_wp2_with fail
      refine (awake26_any _).mono ?_
      rintro e w3 ⟨rfl, hb⟩
      replace HG := Lib.hid (HG.out.new hb)
      replace HB := Lib.hid (bthen HB.out hb HB.out.size); clear hb g0 g1 glt
      have g0 := HG.out.c0; have g1 := HG.out.c1; have glt := HG.out.lt
      go_wp2_with fail
      refine (acyclic_ok n A es len c _ (HR.out.new HB.out) HC.out).mono ?_
      rintro e w4 ⟨b, hb0, rfl, hb⟩
      obtain rfl : b = true := hb0.2 HAC.out
      replace HB := Lib.hid (bthen HB.out hb HB.out.size); clear hb hb0
      go_wp2_with fail
      go_ret
      exact ⟨rfl, HB.out⟩
end Go.Proofs.Ytkiahnffepbgpaa
