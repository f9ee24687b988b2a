/-
  Plain: what Obstruction answers is accepted by CheckObstruction; it answers something exactly for cyclic graphs.
-/
import Derived.Test.YtkiahnffepbgpaaObsT
import Derived.Test.YtkiahnffepbgpaaChkP
namespace Go.Proofs.Ytkiahnffepbgpaa
section
variable {n : Nat} {es : List Nat}
theorem Ext.zero {c r k : Nat} (h : Ext n es c r k) (hr : r < 2 ^ n) (h0 : k = 0 ∨ r = 0) : ¬ Cov es c := by
  obtain ⟨S, h1, _, h3, h4⟩ := h
  have hS : S = 0 := by
    refine Classical.byContradiction fun hne => ?_
    obtain ⟨u, hu⟩ := nz_bit hne
    rcases h0 with rfl | rfl
    · have hun := testBit_lt (sub_lt h1 hr) hu
      have : 0 < bitsOf n S := by
        unfold bitsOf
        exact List.countP_pos_iff.2 ⟨u, by simpa using hun, hu⟩
      omega
    · have := h1 u hu; simp at this
  subst hS
  simpa using h4
/-- The greedy search so far. -/
structure Gs (n : Nat) (es : List Nat) (m k : Nat) (l : List Nat) (c r : Nat) : Prop where
  mem : ∀ u, c.testBit u = true ↔ u ∈ l
  lt : ∀ x ∈ l, x < k
  inc : ∀ i j, j < i → i < l.length → nth l j < nth l i
  clq : Clq es c
  rk : ∀ u, r.testBit u = true → k ≤ u
  lk : sub c (linkOf es) ∧ sub r (linkOf es)
  ext : Ext n es c r (m - l.length)
  len : l.length ≤ m
  pre : Pre n es c r
theorem nth_sn2 {l : List Nat} {v i : Nat} : nth (l ++ [v]) i = if i < l.length then nth l i else if i = l.length then v else 0 := nth_snoc
theorem grdy_spec (hn : n ≤ 32) (hb : ∀ e ∈ es, e < 2 ^ n) {m : Nat} (hE : Ext n es 0 (linkOf es) m) : ∀ k, k ≤ n → Gs n es m k (grdy n es m k).1 (grdy n es m k).2.1 (grdy n es m k).2.2
  | 0, _ => ⟨fun u => by simp [grdy], fun x hx => by simp [grdy] at hx, fun i j _ hi => by simp [grdy] at hi, fun a b ha => by simp [grdy] at ha, fun u _ => Nat.zero_le _, ⟨fun u hu => by simp [grdy] at hu, fun u hu => hu⟩, hE, Nat.zero_le _, pre_zero hb⟩
  | k + 1, hk => by
    have h := grdy_spec hn hb hE k (by omega)
    rw [grdy]
    generalize grdy n es m k = t at h ⊢
    obtain ⟨l, c, r⟩ := t
    simp only at h ⊢
    have r32 : r < 2 ^ 32 := lt32_2 hn h.pre.rl
    have hdr := drop_bit r32 (show k < 32 by omega)
    by_cases hrk : r.testBit k = true
    · rw [if_pos hrk]
      have hkn : k < n := by omega
      by_cases hcond : (decide (l.length < m) && extB n es (c ||| 2 ^ k) (andn r (2 ^ k) &&& adj es k) (m - l.length - 1)) = true
      · rw [if_pos hcond]
        rw [Bool.and_eq_true, decide_eq_true_eq] at hcond
        have hpt := h.pre.take hn (fun u hu => hu) hrk
        have hsubr : sub (andn r (2 ^ k) &&& adj es k) r := fun u hu => by
          rw [Nat.testBit_and, Bool.and_eq_true, hdr] at hu; exact hu.1.1
        refine ⟨fun u => ?_, fun x hx => ?_, fun i j hji hi => ?_, fun a b ha hb2 hab => ?_, fun u hu => ?_, ⟨fun u hu => ?_, fun u hu => h.lk.2 u (hsubr u hu)⟩, ?_, by simp; omega, hpt⟩
        · rw [or_bit, h.mem]; simp
        · rw [List.mem_append, List.mem_singleton] at hx
          rcases hx with h1 | rfl
          · have := h.lt x h1; omega
          · omega
        · rw [List.length_append, List.length_singleton] at hi
          rw [nth_sn2, nth_sn2, if_pos (show j < l.length by omega)]
          by_cases h1 : i < l.length
          · rw [if_pos h1]; exact h.inc i j hji h1
          · rw [if_neg h1, if_pos (by omega)]
            exact h.lt _ (nth_mem (by omega))
        · rcases (or_bit c k a).1 ha with h1 | rfl
          · rcases (or_bit c k b).1 hb2 with h2 | rfl
            · exact h.clq a b h1 h2 hab
            · exact h.pre.ad b a hrk h1
          · rcases (or_bit c a b).1 hb2 with h2 | rfl
            · exact adj_symm hn hb (testBit_lt h.pre.cl h2) (h.pre.ad a b hrk h2)
            · exact absurd rfl hab
        · have h1 := h.rk u (hsubr u hu)
          rw [Nat.testBit_and, Bool.and_eq_true, hdr] at hu
          have := hu.1.2
          omega
        · rcases (or_bit c k u).1 hu with h1 | rfl
          · exact h.lk.1 u h1
          · exact h.lk.2 u hrk
        · rw [List.length_append, List.length_singleton, ← Nat.sub_sub]
          exact (extB_iff hpt.rl).1 hcond.2
      · rw [if_neg hcond]
        have hsubr : sub (andn r (2 ^ k)) r := fun u hu => ((hdr u).1 hu).1
        refine ⟨h.mem, fun x hx => by have := h.lt x hx; omega, h.inc, h.clq, fun u hu => ?_, ⟨h.lk.1, fun u hu => h.lk.2 u (hsubr u hu)⟩, ?_, h.len, h.pre.drop hsubr⟩
        · have h1 := (hdr u).1 hu
          have := h.rk u h1.1
          omega
        · rcases Nat.lt_or_ge l.length m with h1 | h1
          · rcases Ext.split hn h.pre.rl hrk h.ext with h2 | h2
            · exact h2
            · have hpt := h.pre.take hn (fun u hu => hu) hrk
              refine absurd ?_ hcond
              rw [Bool.and_eq_true, decide_eq_true_eq]
              exact ⟨h1, (extB_iff hpt.rl).2 h2⟩
          · exact Ext.now (h.ext.zero h.pre.rl (.inl (by omega)))
    · rw [if_neg hrk]
      refine ⟨h.mem, fun x hx => by have := h.lt x hx; omega, h.inc, h.clq, fun u hu => ?_, h.lk, h.ext, h.len, h.pre⟩
      have := h.rk u hu
      have : u ≠ k := fun e => hrk (e ▸ hu)
      omega
/-- A list that is a clique in no edge, in ascending order. -/
structure ClqL (n : Nat) (es : List Nat) (l : List Nat) (c : Nat) : Prop where
  mem : ∀ u, c.testBit u = true ↔ u ∈ l
  lt : ∀ x ∈ l, x < n
  inc : ∀ i j, j < i → i < l.length → nth l j < nth l i
  clq : Clq es c
  cov : ¬ Cov es c
  lk : sub c (linkOf es)
  cl : c < 2 ^ n
/-- A clique that no edge contains has three vertices. -/
theorem three (hn : n ≤ 32) (hb : ∀ e ∈ es, e < 2 ^ n) {c : Nat} (hc : c < 2 ^ n) (hq : Clq es c) (hl : sub c (linkOf es)) (h0 : linkOf es ≠ 0) (hno : ¬ Cov es c) : ∃ u w z, (c.testBit u = true ∧ c.testBit w = true ∧ c.testBit z = true) ∧ u ≠ w ∧ u ≠ z ∧ w ≠ z := by
  have esc : ∀ e ∈ es, ∃ u, c.testBit u = true ∧ e.testBit u = false := by
    intro e he
    refine Classical.byContradiction fun hx => hno ⟨e, he, fun u hu => ?_⟩
    cases h : e.testBit u with
    | true => rfl
    | false => exact absurd ⟨u, hu, h⟩ hx
  obtain ⟨x, hx⟩ := nz_bit h0
  rw [testBit_linkOf, List.any_eq_true] at hx
  obtain ⟨e0, he0, _⟩ := hx
  obtain ⟨u, hu, _⟩ := esc e0 he0
  have := hl u hu
  rw [testBit_linkOf, List.any_eq_true] at this
  obtain ⟨e1, he1, hu1⟩ := this
  obtain ⟨w, hw, hw1⟩ := esc e1 he1
  have huw : u ≠ w := fun e => by rw [e, hw1] at hu1; cases hu1
  obtain ⟨_, e2, he2, hu2, hw2⟩ := (gr_adj hn hb).1 ((clq_gr hn hb hc).1 hq u w hu hw huw)
  obtain ⟨z, hz, hz2⟩ := esc e2 he2
  refine ⟨u, w, z, ⟨hu, hw, hz⟩, huw, ?_, ?_⟩
  · intro e; rw [e, hz2] at hu2; cases hu2
  · intro e; rw [e, hz2] at hw2; cases hw2
theorem mem_nth {l : List Nat} {x : Nat} (h : x ∈ l) : ∃ i, i < l.length ∧ nth l i = x := by
  obtain ⟨i, hi, rfl⟩ := List.getElem_of_mem h
  exact ⟨i, hi, nth_eq hi⟩
theorem ClqL.three (hn : n ≤ 32) (hb : ∀ e ∈ es, e < 2 ^ n) (h0 : linkOf es ≠ 0) {l : List Nat} {c : Nat} (h : ClqL n es l c) : 3 ≤ l.length := by
  obtain ⟨u, w, z, ⟨hu, hw, hz⟩, h1, h2, h3⟩ := Go.Proofs.Ytkiahnffepbgpaa.three hn hb h.cl h.clq h.lk h0 h.cov
  obtain ⟨i, hi, rfl⟩ := mem_nth ((h.mem u).1 hu)
  obtain ⟨j, hj, rfl⟩ := mem_nth ((h.mem w).1 hw)
  obtain ⟨k, hk, rfl⟩ := mem_nth ((h.mem z).1 hz)
  have e1 : i ≠ j := fun e => h1 (by rw [e])
  have e2 : i ≠ k := fun e => h2 (by rw [e])
  have e3 : j ≠ k := fun e => h3 (by rw [e])
  omega
theorem Gs.done {m : Nat} {l : List Nat} {c r : Nat} (h : Gs n es m n l c r) : ClqL n es l c := by
  have hr : r = 0 := by
    refine Classical.byContradiction fun hne => ?_
    obtain ⟨u, hu⟩ := nz_bit hne
    have := h.rk u hu
    have := testBit_lt h.pre.rl hu
    omega
  exact ⟨h.mem, h.lt, h.inc, h.clq, h.ext.zero h.pre.rl (.inr hr), h.lk.1, h.pre.cl⟩
theorem clF_ok (hn : n ≤ 32) (hb : ∀ e ∈ es, e < 2 ^ n) {most : Nat} (h : clF n es most ≠ []) : linkOf es ≠ 0 ∧ ∃ c, ClqL n es (clF n es most) c := by
  unfold clF at h ⊢
  by_cases h0 : linkOf es = 0
  · rw [if_pos h0] at h; exact absurd rfl h
  · rw [if_neg h0] at h ⊢
    refine ⟨h0, ?_⟩
    cases hc : clLen n es most with
    | none => rw [hc] at h; exact absurd rfl h
    | some m =>
      have := List.find?_some hc
      rw [Bool.and_eq_true] at this
      exact ⟨_, (grdy_spec hn hb ((extB_iff (linkOf_lt hb)).1 this.2) n (Nat.le_refl _)).done⟩
/-- No clique of at most so many vertices is uncovered. -/
theorem clF_none (hn : n ≤ 32) (hb : ∀ e ∈ es, e < 2 ^ n) {most : Nat} (h : clF n es most = []) (h0 : linkOf es ≠ 0) {m : Nat} (h3 : 3 ≤ m) (hm : m ≤ most) : ¬ Ext n es 0 (linkOf es) m := by
  intro hE
  unfold clF at h
  rw [if_neg h0] at h
  cases hc : clLen n es most with
  | none =>
    unfold clLen at hc
    rw [List.find?_eq_none] at hc
    refine hc m (by simp; omega) ?_
    rw [Bool.and_eq_true, decide_eq_true_eq]
    exact ⟨h3, (extB_iff (linkOf_lt hb)).2 hE⟩
  | some k =>
    rw [hc] at h
    have hk := List.find?_some hc
    rw [Bool.and_eq_true] at hk
    have := ((grdy_spec hn hb ((extB_iff (linkOf_lt hb)).1 hk.2) n (Nat.le_refl _)).done).three hn hb h0
    have h' : (grdy n es k n).1 = [] := h
    rw [h'] at this
    simp at this
theorem bits_three (hn : n ≤ 32) {S u w z : Nat} (hS : S < 2 ^ n) (hu : S.testBit u = true) (hw : S.testBit w = true) (hz : S.testBit z = true) (h1 : u ≠ w) (h2 : u ≠ z) (h3 : w ≠ z) : 3 ≤ bitsOf n S := by
  have S32 := lt32_2 hn hS
  have un := testBit_lt hS hu; have wn := testBit_lt hS hw; have zn := testBit_lt hS hz
  have d1 := bits_drop S32 (show u < 32 by omega) un hu
  have a32 := andn_lt (b := 2 ^ u) S32
  have hw1 := (drop_bit S32 (show u < 32 by omega) w).2 ⟨hw, Ne.symm h1⟩
  have hz1 := (drop_bit S32 (show u < 32 by omega) z).2 ⟨hz, Ne.symm h2⟩
  have d2 := bits_drop a32 (show w < 32 by omega) wn hw1
  have hz2 := (drop_bit a32 (show w < 32 by omega) z).2 ⟨hz1, Ne.symm h3⟩
  have d3 := bits_drop (andn_lt (b := 2 ^ w) a32) (show z < 32 by omega) zn hz2
  omega
theorem covered_all (hn : n ≤ 32) (hb : ∀ e ∈ es, e < 2 ^ n) (h : clF n es n = []) : ∀ S, S < 2 ^ n → Clq es S → sub S (linkOf es) → S ≠ 0 → Cov es S := by
  intro S hS hq hl hS0
  refine Classical.byContradiction fun hno => ?_
  have h0 : linkOf es ≠ 0 := fun e => by
    obtain ⟨u, hu⟩ := nz_bit hS0
    have := hl u hu
    rw [e] at this; simp at this
  obtain ⟨u, w, z, ⟨hu, hw, hz⟩, h1, h2, h3⟩ := three hn hb hS hq hl h0 hno
  exact clF_none hn hb h h0 (bits_three hn hS hu hw hz h1 h2 h3) (bitsOf_le n S) ⟨S, hl, hq, Nat.le_refl _, by simpa using hno⟩
-- what is accepted
theorem ok_list {l : List Nat} (hlt : ∀ i, i < l.length → nth l i < n) (hd : ∀ i j, j < i → i < l.length → nth l i ≠ nth l j) : okTo n (ints l) (ints l).length = true := by
  rw [okTo, List.all_eq_true]
  intro i hi
  rw [List.mem_range, ints_length] at hi
  simp only [okAt, Bool.and_eq_true, decide_eq_true_eq, List.all_eq_true, List.mem_range, bne_iff_ne, ne_eq]
  rw [inth_ints hi]
  have := hlt i hi
  refine ⟨by omega, by omega, fun j hj => ?_⟩
  rw [inth_ints (by omega)]
  have := hd i j hj hi
  omega
theorem link_list {R : List Nat} {l : List Nat} {i j : Nat} (hi : i < l.length) (hj : j < l.length) : linkL R (ints l) i j = (nth R (nth l i)).testBit (nth l j) := by
  unfold linkL
  rw [inth_ints hi, inth_ints hj]; rfl
theorem chk_hole {L : Nat} {p : List Nat} (h : HoleL (adjRow n es) n L p) : chkB (adjRow n es) n es (ints p) = true := by
  have h4 := h.four
  have hl := h.len
  have hok := ok_list (n := n) (l := p) (fun i hi => h.lt i (by omega)) (fun i j hj hi => h.dis i j hj (by omega))
  have hlk : ∀ i j, j < i → i < p.length → linkL (adjRow n es) (ints p) i j = nearL (ints p).length i j := by
    intro i j hj hi
    rw [link_list hi (by omega), nearL, ints_length, Bool.eq_iff_iff]
    have := h.adj i j hj (by omega)
    unfold GR at this
    rw [this, Bool.or_eq_true, Bool.and_eq_true, decide_eq_true_eq, decide_eq_true_eq, decide_eq_true_eq, hl]
  have hcli : cliTo (adjRow n es) (ints p) (ints p).length = false := by
    rw [← Bool.not_eq_true]
    intro hc
    rw [cliTo, Bool.and_eq_true, List.all_eq_true] at hc
    have h2 := hc.2 2 (by rw [List.mem_range, ints_length]; omega)
    rw [cliRow, List.all_eq_true] at h2
    have h3 := h2 0 (by simp)
    rw [hlk 2 0 (by omega) (by omega), nearL, ints_length, hl] at h3
    simp at h3
    omega
  rw [chkB, hok, hcli, Bool.true_and, if_neg (by simp), cycTo, Bool.and_eq_true, decide_eq_true_eq, ints_length, List.all_eq_true]
  refine ⟨by omega, fun i hi => ?_⟩
  rw [List.mem_range] at hi
  rw [cycRow, List.all_eq_true]
  intro j hj
  rw [List.mem_range] at hj
  rw [hlk i j hj hi]; simp
theorem set_list {l : List Nat} {c : Nat} (hok : okTo n (ints l) (ints l).length = true) (hm : ∀ u, c.testBit u = true ↔ u ∈ l) : setTo (ints l) (ints l).length = c := by
  apply Nat.eq_of_testBit_eq
  intro u
  have h := setTo_bit hok (v := (u : Int)) (by omega)
  rw [Int.toNat_natCast] at h
  rw [h, Bool.eq_iff_iff, hm, List.any_eq_true]
  constructor
  · rintro ⟨i, hi, he⟩
    rw [List.mem_range, ints_length] at hi
    rw [inth_ints hi, beq_iff_eq] at he
    have : nth l i = u := by omega
    rw [← this]; exact nth_mem hi
  · intro hu
    obtain ⟨i, hi, he⟩ := mem_nth hu
    refine ⟨i, by rw [List.mem_range, ints_length]; exact hi, ?_⟩
    rw [inth_ints hi, he]; simp
theorem holds_iff {s e : Nat} (hs : s < 2 ^ 32) (he : e < 2 ^ 32) : holdsB s e = true ↔ sub s e := by
  unfold holdsB
  rw [decide_eq_true_eq]
  exact ⟨sub_of_andn hs he, andn_of_sub hs he⟩
theorem chk_clq (hn : n ≤ 32) (hb : ∀ e ∈ es, e < 2 ^ n) (h0 : linkOf es ≠ 0) {l : List Nat} {c : Nat} (h : ClqL n es l c) : chkB (adjRow n es) n es (ints l) = true := by
  have h3 := h.three hn hb h0
  have hlt : ∀ i, i < l.length → nth l i < n := fun i hi => h.lt _ (nth_mem hi)
  have hok := ok_list (n := n) (l := l) hlt (fun i j hj hi => by have := h.inc i j hj hi; omega)
  have hcli : cliTo (adjRow n es) (ints l) (ints l).length = true := by
    rw [cliTo, Bool.and_eq_true, decide_eq_true_eq, ints_length, List.all_eq_true]
    refine ⟨h3, fun i hi => ?_⟩
    rw [List.mem_range] at hi
    rw [cliRow, List.all_eq_true]
    intro j hj
    rw [List.mem_range] at hj
    rw [link_list hi (by omega)]
    have := h.inc i j hj hi
    exact (clq_gr hn hb h.cl).1 h.clq _ _ ((h.mem _).2 (nth_mem hi)) ((h.mem _).2 (nth_mem (by omega))) (by omega)
  rw [chkB, hok, hcli, Bool.true_and, if_pos rfl, set_list hok h.mem, Bool.not_eq_true', List.any_eq_false]
  intro e he hh
  exact h.cov ⟨e, he, (holds_iff (lt32_2 hn h.cl) (lt32_of hn hb e he)).1 hh⟩
/-- What Obstruction finds. -/
theorem pick_cases (cyc cl : List Nat) : pickF cyc cl = (cyc, decide (0 < cyc.length)) ∧ (cl = [] ∨ cyc ≠ []) ∨ (cl ≠ [] ∧ pickF cyc cl = (cl, true)) := by
  unfold pickF
  by_cases h1 : cl = []
  · left; rw [if_pos h1]; exact ⟨rfl, .inl h1⟩
  · rw [if_neg h1]
    by_cases h2 : cyc = []
    · right; rw [if_pos h2]; exact ⟨h1, rfl⟩
    · rw [if_neg h2]
      have : decide (0 < cyc.length) = true := by simp [List.length_pos_iff.2 h2]
      rw [this]
      by_cases h3 : cl.length < cyc.length
      · right; rw [if_pos h3]; exact ⟨h1, rfl⟩
      · rw [if_neg h3]
        by_cases h4 : lexLt cl cyc = true
        · right; rw [if_pos h4]; exact ⟨h1, rfl⟩
        · left; rw [if_neg h4]; exact ⟨rfl, .inr h2⟩
theorem obs_found (hn : n ≤ 32) (hb : ∀ e ∈ es, e < 2 ^ n) (h : (obsF (adjRow n es) n es).2 = true) : ¬ Acyc n es ∧ chkB (adjRow n es) n es (ints (obsF (adjRow n es) n es).1) = true := by
  have ha := ady hn hb
  unfold obsF at h ⊢
  rcases pick_cases (scF (adjRow n es) n) (clF n es (mostF n (scF (adjRow n es) n))) with ⟨h1, _⟩ | ⟨h1, h2⟩
  · rw [h1] at h ⊢
    have hne : scF (adjRow n es) n ≠ [] := by
      intro e; rw [e] at h; simp at h
    have hh := sc_hole ha hne
    exact ⟨hole_cyclic hn hb hh, chk_hole hh⟩
  · rw [h2]
    obtain ⟨h0, c, hc⟩ := clF_ok hn hb h1
    obtain ⟨u, w, z, ⟨hu, hw, _⟩, h3, _⟩ := three hn hb hc.cl hc.clq hc.lk h0 hc.cov
    exact ⟨clique_cyclic hn hb hc.cl hc.clq hu hw h3 hc.cov, chk_clq hn hb h0 hc⟩
theorem obs_missed (hn : n ≤ 32) (hb : ∀ e ∈ es, e < 2 ^ n) (h : (obsF (adjRow n es) n es).2 = false) : Acyc n es := by
  have ha := ady hn hb
  unfold obsF at h
  rcases pick_cases (scF (adjRow n es) n) (clF n es (mostF n (scF (adjRow n es) n))) with ⟨h1, h2⟩ | ⟨h1, h2⟩
  · rw [h1] at h
    have hcyc : scF (adjRow n es) n = [] := by
      cases hs : scF (adjRow n es) n with
      | nil => rfl
      | cons x r => rw [hs] at h; simp at h
    rw [hcyc] at h2
    have hcl : clF n es n = [] := by
      rcases h2 with h2 | h2
      · exact h2
      · exact absurd rfl h2
    refine acyc_of hn hb ?_ (covered_all hn hb hcl)
    exact Classical.byContradiction fun hne => sc_some ha hne hcyc
  · rw [h2] at h; cases h
end
end Go.Proofs.Ytkiahnffepbgpaa
