/-
  The walk of law26.HypergraphObstructs. Printed by gen/obstructs.py.
-/
import Derived.Test.YtkiahnffepbgpaaAwk26
import Derived.Test.YtkiahnffepbgpaaChkO
import Derived.Test.YtkiahnffepbgpaaObsU
import Derived.Test.YtkiahnffepbgpaaRSrch
import Derived.Test.YtkiahnffepbgpaaRegG
namespace Go.Proofs.Ytkiahnffepbgpaa
open Go.RowKit
set_option linter.unusedSimpArgs false
set_option linter.unusedVariables false

theorem own_any {w : World} {base : Nat} {n : Nat} {l : List Nat} {v : Value} (hn : n ≤ 32) (hl : ∀ x ∈ l, x < n) (h : w.ownsRow base 3 1 v l.length (I64 (ints l))) : ∃ A c, v = .slice A l.length c ∧ Xs w w.heap.size A l.length (ints l) := by
  have h2 := h
  rw [show l.length = (ints l).length from (ints_length l).symm] at h2
  obtain ⟨A, c, rfl, hx⟩ := Xs.of_own h2 (ints_bound hn hl)
  rw [ints_length] at hx
  exact ⟨A, c, by rw [ints_length], hx⟩
theorem obsF_mem {R : List Nat} {n : Nat} {es : List Nat} : ∀ x ∈ (obsF R n es).1, x < n := by
  unfold obsF
  rcases pick_cases (scF R n) (clF n es (mostF n (scF R n))) with ⟨h1, _⟩ | ⟨_, h1⟩
  · rw [h1]; exact scF_mem
  · rw [h1]; exact clF_mem
theorem chk_nil {R : List Nat} {n : Nat} {es : List Nat} : chkB R n es (ints []) = false := by
  rw [chkB]
  have h1 : cliTo R (ints []) (ints []).length = false := rfl
  have h2 : cycTo R (ints []) (ints []).length = false := rfl
  rw [h1, h2]; simp
theorem obs_nil {R : List Nat} {n : Nat} {es : List Nat} (h : (obsF R n es).2 = false) : (obsF R n es).1 = [] := by
  unfold obsF at h ⊢
  generalize scF R n = cyc at *
  generalize clF n es (mostF n cyc) = cl at *
  unfold pickF at h ⊢
  by_cases h1 : cl = []
  · rw [if_pos h1] at h ⊢
    simp only at h ⊢
    exact List.eq_nil_of_length_eq_zero (by simpa using h)
  · rw [if_neg h1] at h
    split at h
    · cases h
    · split at h
      · cases h
      · split at h <;> cases h
theorem obs_chk {n : Nat} {es : List Nat} (hn : n ≤ 32) (hb : ∀ e ∈ es, e < 2 ^ n) : chkB (adjRow n es) n es (ints (obsF (adjRow n es) n es).1) = (obsF (adjRow n es) n es).2 := by
  cases h : (obsF (adjRow n es) n es).2 with
  | true => exact (obs_found hn hb h).2
  | false => rw [obs_nil h]; exact chk_nil

set_option maxRecDepth 100000 in
set_option maxHeartbeats 8000000 in
theorem obstructs_main (n : Nat) (A : Option Addr) (es : List Nat) (len c : Nat) (Al : Option Addr) (xs : List Int) (m d : Nat) (w : World) (hr : Es w w.heap.size A len es) (hf : fewB n es = true) (hn5 : n ≤ 5) (hx : Xs w w.heap.size Al m xs) (hm : m ≤ 10) :
    Calls Try.prog 6 #[.agg #[.int .i64 n, .slice A len c], .slice Al m d] w fun e w' => e = .returned (.bool true) ∧ Below w.heap.size w w' := by
  obtain ⟨_, _, _, hcc⟩ := of_decide_eq_true hf
  obtain ⟨_, _, _, hes⟩ := checkCode_zero hcc
  have hes' : ∀ e ∈ es, e < 2 ^ n := by simpa using hes
  have hn : n ≤ 32 := by omega
  have HES := Lib.hid hes'
  have HF := Lib.hid hf
  have HC := Lib.hid hcc
  have HR := Lib.hid hr; clear hr
  have HX := Lib.hid hx; clear hx
  clear hf hcc hes hes'
  have HG := Lib.hid (GB.made w 24 (.int .i64 n) (.slice A len c))
  have HW := Lib.hid (al w (.cells #[.int .i64 n, .slice A len c] 24))
  go_enter Try.func6, Try.ntmps6
  go_wp2_with fail
  refine (few_any n A es len c _ (HR.out.new HW.out)).mono ?_
  rintro e w1 ⟨rfl, hb⟩
  rw [HF.out]
  replace HG := Lib.hid (HG.out.new hb)
  have HB := Lib.hid (bthen HW.out hb (by simp)); clear hb
  have g0 := HG.out.c0; have g1 := HG.out.c1; have glt := HG.out.lt
  go_wp2_with fail
  refine (obstruction_any n A es len c _ (HR.out.new HB.out) HC.out).mono ?_
  rintro e w2 ⟨v2, rfl, hown, _, hb⟩
  obtain ⟨A2, c2, rfl, hx⟩ := own_any hn obsF_mem hown
  have HX2 := Lib.hid hx
  have HOC := Lib.hid (obs_chk hn HES.out)
  have HON := Lib.hid (fun h => obs_nil (R := adjRow n es) (n := n) (es := es) h)
  have HRO := Lib.hid (robs_obs hn HES.out)
  replace HG := Lib.hid (HG.out.new hb)
  replace HB := Lib.hid (bthen HB.out hb HB.out.size); clear hb hx hown g0 g1 glt
  generalize obsF (adjRow n es) n es = o at *
  obtain ⟨o, ok⟩ := o
  simp only at HX2 HOC HON HRO
  have g0 := HG.out.c0; have g1 := HG.out.c1; have glt := HG.out.lt
  go_wp2_with fail
  refine (of_any n A len c _).mono ?_
  rintro e w3 ⟨rfl, hb⟩
  replace HG := Lib.hid (HG.out.new hb)
  replace HX2 := Lib.hid (HX2.out.new hb)
  replace HB := Lib.hid (bthen HB.out hb HB.out.size); clear hb g0 g1 glt
  have g0 := HG.out.c0; have g1 := HG.out.c1; have glt := HG.out.lt
  go_wp2_with fail
  refine (robstruction_any n A es len c _ (HR.out.new HB.out) HC.out).mono ?_
  rintro e wn ⟨hres, hb⟩
  obtain ⟨A3, c3, rfl, hx3⟩ : ∃ A3 c3, e = .returned (.tuple #[.slice A3 o.length c3, .bool ok]) ∧ Xs wn wn.heap.size A3 o.length (ints o) := by
    rw [HRO.out] at hres
    cases ok with
    | true => rw [if_pos rfl] at hres; exact hres
    | false =>
      rw [if_neg (by simp)] at hres
      have := HON.out rfl
      subst this
      exact ⟨none, 0, hres, ⟨⟨rfl, fun h => absurd h (by simp)⟩, ⟨rfl, by simp⟩, fun x hx => by simp [ints] at hx⟩⟩
  have HX3 := Lib.hid hx3
  replace HG := Lib.hid (HG.out.new hb)
  replace HX2 := Lib.hid (HX2.out.new hb)
  replace HB := Lib.hid (bthen HB.out hb HB.out.size); clear hb hx3 hres g0 g1 glt
  obtain ⟨q, hq⟩ : ∃ q, q = chkB (adjRow n es) n es xs := ⟨_, rfl⟩
  have EQ : Hid (∀ W, Below wn.heap.size wn W → Calls Try.prog 21 #[.slice A2 o.length c2, .slice A3 o.length c3] W fun e w' => e = .returned (.bool true) ∧ Below W.heap.size W w') := Lib.hid fun W hW => (equal_int A2 A3 (ints o) (ints o) _ _ _ _ W (HX2.out.new hW) (HX3.out.new hW)).mono (by rintro e w9 ⟨rfl, h9⟩; exact ⟨by simp, h9⟩)
  have CQ : Hid (∀ W, Below wn.heap.size wn W → Calls Try.prog 22 #[.agg #[.int .i64 n, .slice A len c], .slice Al m d] W fun e w' => e = .returned (.bool q) ∧ Below W.heap.size W w') := Lib.hid fun W hW => by
    rw [hq]; exact checkObs_any n A es len c Al xs m d W (HR.out.new (bthen HB.out hW HB.out.size)) HC.out (HX.out.new (bthen HB.out hW HB.out.size))
  have RQ : Hid (∀ W, Below wn.heap.size wn W → Calls Try.prog 23 #[.agg #[.int .i64 n, .slice A len c], .slice Al m d] W fun e w' => e = .returned (.bool q) ∧ Below W.heap.size W w') := Lib.hid fun W hW => by
    rw [hq]; exact robstructs_any n A es len c Al xs m d W (HR.out.new (bthen HB.out hW HB.out.size)) HC.out (HX.out.new (bthen HB.out hW HB.out.size))
  have CO : Hid (∀ W, Below wn.heap.size wn W → Calls Try.prog 22 #[.agg #[.int .i64 n, .slice A len c], .slice A2 o.length c2] W fun e w' => e = .returned (.bool ok) ∧ Below W.heap.size W w') := Lib.hid fun W hW => by
    rw [← HOC.out]; exact checkObs_any n A es len c A2 (ints o) o.length c2 W (HR.out.new (bthen HB.out hW HB.out.size)) HC.out (HX2.out.new hW)
  clear hq
  go_upto_region 5 with (fail)
  refine wp_region_join (kss := [[], [(0, 34)], [(1, 35)], [(1, 35)], [(1, 35), (2, 36), (3, 37)], [(1, 35), (4, 38)], [(5, 39)], [(6, 40)], [(6, 40)], [(6, 40), (7, 41), (8, 42)], [(6, 40), (9, 43)], [(10, 44)], [(11, 45)], [(11, 45)], [(11, 45), (12, 46), (13, 47)], [(11, 45)], [(11, 45), (15, 49)], [(11, 45)], [(11, 45), (16, 50), (17, 51)], [(11, 45), (14, 48), (18, 52)], [(11, 45), (19, 53)], [(20, 54)], [(21, 55)], [(21, 55)], [(21, 55)], [(21, 55), (23, 57), (24, 58)], [(21, 55), (22, 56), (25, 59)], [(21, 55), (26, 60)]]) [(6, .bool ok), (8, .bool ok), (5, .slice A2 (o.length) c2), (7, .slice A3 (o.length) c3), (2, .pointer (some ⟨w.heap.size, 0, none⟩)), (1, .slice Al m d)] [fun zz _ => zz = .bool true, fun zz _ => zz = .bool true, fun zz _ => zz = .bool ok, fun zz _ => zz = .bool ok, fun zz _ => zz = .bool true, fun zz _ => zz = .bool true, fun zz _ => zz = .bool true, fun zz _ => zz = .slice A2 (o.length) c2, fun zz _ => zz = .slice A3 (o.length) c3, fun zz _ => zz = .bool true, fun zz _ => zz = .bool true, fun zz _ => zz = .bool true, fun zz _ => zz = .agg #[.int .i64 ((n : Int)), .slice A len c], fun zz _ => zz = .slice Al m d, fun zz _ => zz = .bool q, fun zz _ => zz = .agg #[.int .i64 ((n : Int)), .slice A len c], fun zz _ => zz = .agg #[.int .i64 ((n : Int)), .slice A len c], fun zz _ => zz = .slice Al m d, fun zz _ => zz = .bool q, fun zz _ => zz = .bool true, fun zz _ => zz = .bool true, fun zz _ => zz = .bool true, fun zz _ => zz = .bool ok, fun zz _ => zz = .agg #[.int .i64 ((n : Int)), .slice A len c], fun zz _ => zz = .slice A2 (o.length) c2, fun zz _ => zz = .bool ok, fun zz _ => zz = .bool true, fun zz _ => zz = .bool true] 28 [] (by kernel_rfl) (by kernel_rfl) ⟨rfl, rfl, rfl, rfl, rfl, rfl, trivial⟩ [false, false, false, false, false, false, false, false, false, false, false, false, false, false, false, false, false, false, false, false, false, false, false, false, false, false, false, false] ?_ ?_ ?_ ?_
  · exact fun i hi => absurd hi (by simp)
  · exact ⟨fun _ _ _ h _ => h, fun _ _ _ h _ => h, fun _ _ _ h _ => h, fun _ _ _ h _ => h, fun _ _ _ h _ => h, fun _ _ _ h _ => h, fun _ _ _ h _ => h, fun _ _ _ h _ => h, fun _ _ _ h _ => h, fun _ _ _ h _ => h, fun _ _ _ h _ => h, fun _ _ _ h _ => h, fun _ _ _ h _ => h, fun _ _ _ h _ => h, fun _ _ _ h _ => h, fun _ _ _ h _ => h, fun _ _ _ h _ => h, fun _ _ _ h _ => h, fun _ _ _ h _ => h, fun _ _ _ h _ => h, fun _ _ _ h _ => h, fun _ _ _ h _ => h, fun _ _ _ h _ => h, fun _ _ _ h _ => h, fun _ _ _ h _ => h, fun _ _ _ h _ => h, fun _ _ _ h _ => h, fun _ _ _ h _ => h, trivial⟩
  · refine ⟨?_, ?_, ?_, ?_, ?_, ?_, ?_, ?_, ?_, ?_, ?_, ?_, ?_, ?_, ?_, ?_, ?_, ?_, ?_, ?_, ?_, ?_, ?_, ?_, ?_, ?_, ?_, ?_, trivial⟩
    · exact fun aa ww hb he hd => ob_plain rfl (gives_call0 _ _ rfl (by kernel_rfl) (rv_one (awake26_any _)))
    · exact fun aa ww hb he hd => ob_plain rfl (gives_move _ rfl ⟨hd.1, Below.refl _ _⟩)
    · exact fun aa ww hb he hd => ob_on 35 rfl (by kernel_rfl) hd.1 (gives_move _ rfl ⟨he.1, Below.refl _ _⟩)
    · exact fun aa ww hb he hd => ob_on 35 rfl (by kernel_rfl) hd.1 (gives_move _ rfl ⟨he.2.1, Below.refl _ _⟩)
    · exact fun aa ww hb he hd => ob_on 35 rfl (by kernel_rfl) hd.1 (gives_eq_bool ok ok _ _ _ _ rfl Try.underlying4 hd.2.1 hd.2.2.1 ⟨congrArg Value.bool (by simp), Below.refl _ _⟩)
    · exact fun aa ww hb he hd => ob_plain rfl (gives_pick true _ _ _ rfl hd.1 ⟨hd.2.1, Below.refl _ _⟩)
    · exact fun aa ww hb he hd => ob_plain rfl (gives_move _ rfl ⟨hd.1, Below.refl _ _⟩)
    · exact fun aa ww hb he hd => ob_on 40 rfl (by kernel_rfl) hd.1 (gives_move _ rfl ⟨he.2.2.1, Below.refl _ _⟩)
    · exact fun aa ww hb he hd => ob_on 40 rfl (by kernel_rfl) hd.1 (gives_move _ rfl ⟨he.2.2.2.1, Below.refl _ _⟩)
    · exact fun aa ww hb he hd => ob_on 40 rfl (by kernel_rfl) hd.1 (gives_call2 _ _ _ _ rfl (by kernel_rfl) (by rw [show aa.eval (.tmp 41) = .slice A2 (o.length) c2 from hd.2.1, show aa.eval (.tmp 42) = .slice A3 (o.length) c3 from hd.2.2.1]; exact rv_one (EQ.out _ hb)))
    · exact fun aa ww hb he hd => ob_plain rfl (gives_pick true _ _ _ rfl hd.1 ⟨hd.2.1, Below.refl _ _⟩)
    · exact fun aa ww hb he hd => ob_plain rfl (gives_move _ rfl ⟨hd.1, Below.refl _ _⟩)
    · exact fun aa ww hb he hd => ob_on 45 rfl (by kernel_rfl) hd.1 (load_gr rfl rfl he.2.2.2.2.1 (GB.new HG.out hb))
    · exact fun aa ww hb he hd => ob_on 45 rfl (by kernel_rfl) hd.1 (gives_move _ rfl ⟨he.2.2.2.2.2.1, Below.refl _ _⟩)
    · exact fun aa ww hb he hd => ob_on 45 rfl (by kernel_rfl) hd.1 (gives_call2 _ _ _ _ rfl (by kernel_rfl) (by rw [show aa.eval (.tmp 46) = .agg #[.int .i64 ((n : Int)), .slice A len c] from hd.2.1, show aa.eval (.tmp 47) = .slice Al m d from hd.2.2.1]; exact rv_one (CQ.out _ hb)))
    · exact fun aa ww hb he hd => ob_on 45 rfl (by kernel_rfl) hd.1 (load_gr rfl rfl he.2.2.2.2.1 (GB.new HG.out hb))
    · exact fun aa ww hb he hd => ob_on 45 rfl (by kernel_rfl) hd.1 (gives_call1 _ _ _ rfl (by kernel_rfl) (by rw [show aa.eval (.tmp 49) = .agg #[.int .i64 ((n : Int)), .slice A len c] from hd.2.1]; exact rv_one (of_any n A len c _)))
    · exact fun aa ww hb he hd => ob_on 45 rfl (by kernel_rfl) hd.1 (gives_move _ rfl ⟨he.2.2.2.2.2.1, Below.refl _ _⟩)
    · exact fun aa ww hb he hd => ob_on 45 rfl (by kernel_rfl) hd.1 (gives_call2 _ _ _ _ rfl (by kernel_rfl) (by rw [show aa.eval (.tmp 50) = .agg #[.int .i64 ((n : Int)), .slice A len c] from hd.2.1, show aa.eval (.tmp 51) = .slice Al m d from hd.2.2.1]; exact rv_one (RQ.out _ hb)))
    · exact fun aa ww hb he hd => ob_on 45 rfl (by kernel_rfl) hd.1 (gives_eq_bool q q _ _ _ _ rfl Try.underlying4 hd.2.1 hd.2.2.1 ⟨congrArg Value.bool (by simp), Below.refl _ _⟩)
    · exact fun aa ww hb he hd => ob_plain rfl (gives_pick true _ _ _ rfl hd.1 ⟨hd.2.1, Below.refl _ _⟩)
    · exact fun aa ww hb he hd => ob_plain rfl (gives_move _ rfl ⟨hd.1, Below.refl _ _⟩)
    · exact fun aa ww hb he hd => ob_on 55 rfl (by kernel_rfl) hd.1 (gives_move _ rfl ⟨he.1, Below.refl _ _⟩)
    · exact fun aa ww hb he hd => ob_on 55 rfl (by kernel_rfl) hd.1 (load_gr rfl rfl he.2.2.2.2.1 (GB.new HG.out hb))
    · exact fun aa ww hb he hd => ob_on 55 rfl (by kernel_rfl) hd.1 (gives_move _ rfl ⟨he.2.2.1, Below.refl _ _⟩)
    · exact fun aa ww hb he hd => ob_on 55 rfl (by kernel_rfl) hd.1 (gives_call2 _ _ _ _ rfl (by kernel_rfl) (by rw [show aa.eval (.tmp 57) = .agg #[.int .i64 ((n : Int)), .slice A len c] from hd.2.1, show aa.eval (.tmp 58) = .slice A2 (o.length) c2 from hd.2.2.1]; exact rv_one (CO.out _ hb)))
    · exact fun aa ww hb he hd => ob_on 55 rfl (by kernel_rfl) hd.1 (gives_eq_bool ok ok _ _ _ _ rfl Try.underlying4 hd.2.1 hd.2.2.1 ⟨congrArg Value.bool (by simp), Below.refl _ _⟩)
    · exact fun aa ww hb he hd => ob_plain rfl (gives_pick true _ _ _ rfl hd.1 ⟨hd.2.1, Below.refl _ _⟩)
  intro vs w5 hb hR _
  have e61 : vs 27 = .bool true := hR 27 (by decide)
  clear hR
  simp only [putsL, Nat.zero_add, Nat.reduceAdd, List.take_succ_cons, List.take_zero, Act.put, List.setIfInBounds_toArray, List.set_cons_zero, List.set_cons_succ]
  rw [e61]
  clear e61
  show wpAny _ _ _ _ 1 _ _ _
  refine wpAny_next (i := 28) (by kernel_rfl) rfl rfl (wp_assign 4 (.tmp 61) rfl rfl (.bool true) rfl ?_)
  simp only [Act.put, List.setIfInBounds_toArray, List.set_cons_zero, List.set_cons_succ]
  refine wpAny_end (by kernel_rfl) (calm_normal ?_) _
  go_wp2_with fail
  go_ret
  exact ⟨rfl, bthen HB.out hb HB.out.size⟩

set_option maxRecDepth 100000 in
set_option maxHeartbeats 8000000 in
theorem hypergraphObstructs_walk (n : Int) (A : Option Addr) (es : List Nat) (len c : Nat) (Al : Option Addr) (xs : List Int) (m d : Nat) (w : World) (hr : Es w w.heap.size A len es) (hn : -9223372036854775808 ≤ n ∧ n ≤ 9223372036854775807) (_ : len ≤ c) (hx : Xs w w.heap.size Al m xs) (_ : m ≤ d) :
    Calls Try.prog 6 #[.agg #[.int .i64 n, .slice A len c], .slice Al m d] w fun e w' => e = .returned (.bool true) ∧ Below w.heap.size w w' := by
  by_cases hok : fewB n es = true ∧ n ≤ 5 ∧ m ≤ 10
  · obtain ⟨hf, h5, hm⟩ := hok
    obtain ⟨h0, _, _, _⟩ := of_decide_eq_true hf
    obtain ⟨n, rfl⟩ := Int.eq_ofNat_of_zero_le h0
    exact obstructs_main n A es len c Al xs m d w hr hf (by omega) hx hm
  · have hm9 := hx.le
    have HR := Lib.hid hr; clear hr
    have HG := Lib.hid (GB.made w 24 (.int .i64 n) (.slice A len c))
    have HW := Lib.hid (al w (.cells #[.int .i64 n, .slice A len c] 24))
    have hcase : fewB n es = false ∨ (fewB n es = true ∧ 5 < n) ∨ (fewB n es = true ∧ n ≤ 5 ∧ 10 < m) := by
      cases h : fewB n es with
      | false => exact .inl rfl
      | true =>
        rcases Int.lt_or_le 5 n with h1 | h1
        · exact .inr (.inl ⟨rfl, h1⟩)
        · refine .inr (.inr ⟨rfl, h1, ?_⟩)
          rcases Nat.lt_or_ge 10 m with h2 | h2
          · exact h2
          · exact absurd ⟨h, h1, h2⟩ hok
    clear hok
    rcases hcase with h | ⟨h, h1⟩ | ⟨h, h1, h2⟩
    all_goals
      have HF := Lib.hid h; clear h
      go_enter Try.func6, Try.ntmps6
      go_wp2_with fail
      refine (few_any n A es len c _ (HR.out.new HW.out)).mono ?_
      rintro e w1 ⟨rfl, hb⟩
      rw [HF.out]
      replace HG := Lib.hid (HG.out.new hb)
      have HB := Lib.hid (bthen HW.out hb (by simp)); clear hb
      have g0 := HG.out.c0; have g1 := HG.out.c1; have glt := HG.out.lt
      go_wp2_with fail
      refine (awake26_any _).mono ?_
      rintro e w2 ⟨rfl, hb⟩
      have HB2 := Lib.hid (bthen HB.out hb HB.out.size); clear hb
      go_wp2_with fail
      go_ret
      exact ⟨rfl, HB2.out⟩
end Go.Proofs.Ytkiahnffepbgpaa
