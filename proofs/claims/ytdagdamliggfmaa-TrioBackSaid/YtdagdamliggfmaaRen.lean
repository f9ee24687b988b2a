/-
  A graph with renamed vertices, plainly: what stays.
-/
import Derived.Test.YtdagdamliggfmaaCompP
import Derived.Test.YtdagdamliggfmaaOrdQ
namespace Go.Proofs.Ytdagdamliggfmaa

def pn (p : List Int) (i : Nat) : Nat := (inth p i).toNat
/-- Two permutations undo each other. -/
structure Inv (n : Nat) (p q : List Int) : Prop where
  lp : p.length = n
  lq : q.length = n
  pl : ∀ i, i < n → pn p i < n
  ql : ∀ i, i < n → pn q i < n
  qp : ∀ i, i < n → pn q (pn p i) = i
  pq : ∀ i, i < n → pn p (pn q i) = i
theorem Inv.symm {n : Nat} {p q : List Int} (h : Inv n p q) : Inv n q p := ⟨h.lq, h.lp, h.ql, h.pl, h.pq, h.qp⟩
theorem ren_bit {n : Nat} {p : List Int} (h : p.length = n) (e i : Nat) : (ren p e).testBit i = (decide (i < n) && e.testBit (pn p i)) := by rw [testBit_ren, h]; rfl
theorem ren_lt {n : Nat} {p : List Int} (h : p.length = n) (e : Nat) : ren p e < 2 ^ n := by
  have := renTo_lt p e p.length
  rw [h] at this
  rw [ren, h]; exact this
/-- A permutation and its inverse, as the law builds it. -/
theorem inv_of {n : Nat} {p q : List Int} (hp : permB p 0 n = true) (hq : q.length = n) (h : ∀ i, i < n → inth q (pn p i) = i) : Inv n p q := by
  obtain ⟨h1, h2, h3⟩ := of_decide_eq_true hp
  have hl : p.length = n := by omega
  have pl : ∀ i, i < n → pn p i < n := fun i hi => by
    have := h2 _ (inth_mem (show i < p.length by omega))
    unfold pn; omega
  have qp : ∀ i, i < n → pn q (pn p i) = i := fun i hi => by
    have := h i hi
    show (inth q (pn p i)).toNat = i
    rw [this]; simp
  have sur : ∀ j, j < n → ∃ i, i < n ∧ pn p i = j := by
    intro j hj
    apply Classical.byContradiction
    intro hno
    have hnd : (j :: (List.range n).map (pn p)).Nodup := by
      rw [List.nodup_cons]
      refine ⟨fun hm => ?_, ?_⟩
      · obtain ⟨i, hi, e⟩ := List.mem_map.1 hm
        exact hno ⟨i, by simpa using hi, e⟩
      · rw [List.nodup_iff_pairwise_ne, List.pairwise_map]
        refine List.Pairwise.imp_of_mem ?_ (List.nodup_iff_pairwise_ne.1 (List.nodup_range (n := n)))
        intro a b ha hb hab he
        have ha' : a < n := by simpa using ha
        have hb' : b < n := by simpa using hb
        have h5 := qp a ha'; have h6 := qp b hb'
        rw [he, h6] at h5; exact hab h5.symm
    have := hnd.length_le_of_subset (l₂ := List.range n) (by
      intro x hx
      rcases List.mem_cons.1 hx with rfl | hx
      · simpa using hj
      · obtain ⟨i, hi, rfl⟩ := List.mem_map.1 hx
        simpa using pl i (by simpa using hi))
    simp at this
    omega
  refine ⟨hl, hq, pl, fun j hj => ?_, qp, fun j hj => ?_⟩
  · obtain ⟨i, hi, rfl⟩ := sur j hj; rw [qp i hi]; exact hi
  · obtain ⟨i, hi, rfl⟩ := sur j hj; rw [qp i hi]
theorem Inv.perm {n : Nat} {p q : List Int} (h : Inv n p q) (hr : ∀ x ∈ p, 0 ≤ x) : permB p 0 n = true := by
  refine decide_eq_true ⟨by have := h.lp; omega, fun x hx => ?_, ?_⟩
  · obtain ⟨k, hk, rfl⟩ := List.getElem_of_mem hx
    have h1 := hr _ hx
    have h2 := h.pl k (by have := h.lp; omega)
    unfold pn at h2
    rw [← inth_eq hk] at h1 ⊢
    omega
  · rw [List.nodup_iff_pairwise_ne, List.pairwise_iff_getElem]
    intro i j hi hj hij he
    have hi' : i < n := by have := h.lp; omega
    have hj' : j < n := by have := h.lp; omega
    have h1 := h.qp i hi'; have h2 := h.qp j hj'
    have : pn p i = pn p j := by unfold pn; rw [inth_eq hi, inth_eq hj, he]
    rw [this, h2] at h1; omega

section
variable {n : Nat} {es : List Nat} {p q : List Int}
theorem ren_ren (h : Inv n p q) {e : Nat} (he : e < 2 ^ n) : ren q (ren p e) = e := by
  apply Nat.eq_of_testBit_eq
  intro i
  rw [ren_bit h.lq, ren_bit h.lp]
  by_cases hi : i < n
  · rw [h.pq i hi]; simp [hi, h.ql i hi]
  · have : e.testBit i = false := Nat.testBit_lt_two_pow (Nat.lt_of_lt_of_le he (two_pow_le (show n ≤ i by omega)))
    simp [hi, this]
theorem ren_map (h : Inv n p q) (hb : ∀ e ∈ es, e < 2 ^ n) : (es.map (ren p)).map (ren q) = es := by
  rw [List.map_map]
  exact map_same fun x hx => ren_ren h (hb x hx)
theorem rip_ren (h : p.length = n) : ∀ {l : List Nat}, rip l → rip (l.map (ren p))
  | [], _ => trivial
  | e :: l, ⟨h1, h2⟩ => by
    refine ⟨?_, rip_ren h h2⟩
    rcases h1 with h1 | ⟨f, hf, h1⟩
    · exact .inl (by simp [h1])
    · refine .inr ⟨ren p f, List.mem_map.2 ⟨f, hf, rfl⟩, fun v hv hu => ?_⟩
      rw [ren_bit h] at hv ⊢
      simp only [Bool.and_eq_true] at hv ⊢
      refine ⟨hv.1, h1 _ hv.2 ?_⟩
      obtain ⟨y, hy, hyv⟩ := hu
      obtain ⟨x, hx, rfl⟩ := List.mem_map.1 hy
      rw [ren_bit h] at hyv
      simp only [Bool.and_eq_true] at hyv
      exact ⟨x, hx, hyv.2⟩
theorem Rip.ren (h : p.length = n) (hr : Rip es) : Rip (es.map (ren p)) := by
  obtain ⟨l, h1, h2⟩ := hr
  exact ⟨l.map (Go.Proofs.Ytdagdamliggfmaa.ren p), h1.map _, rip_ren h h2⟩
theorem Rip.ren_iff (h : Inv n p q) (hb : ∀ e ∈ es, e < 2 ^ n) : Rip (es.map (Go.Proofs.Ytdagdamliggfmaa.ren p)) ↔ Rip es := by
  constructor
  · intro hr
    have := hr.ren h.lq
    rwa [ren_map h hb] at this
  · exact Rip.ren h.lp
theorem acyc_ren (hn : n ≤ 32) (h : Inv n p q) (hb : ∀ e ∈ es, e < 2 ^ n) : Acyc n (es.map (ren p)) ↔ Acyc n es := by
  rw [acyc_iff hn hb, acyc_iff hn (fun x hx => by obtain ⟨e, _, rfl⟩ := List.mem_map.1 hx; exact ren_lt h.lp e), Rip.ren_iff h hb]
theorem map_lt (h : p.length = n) : ∀ e ∈ es.map (ren p), e < 2 ^ n := fun x hx => by obtain ⟨e, _, rfl⟩ := List.mem_map.1 hx; exact ren_lt h e
theorem adj_ren (hn : n ≤ 32) (h : Inv n p q) (hb : ∀ e ∈ es, e < 2 ^ n) {i k : Nat} (hi : i < n) (hk : k < n) : (adj (es.map (ren p)) i).testBit k = (adj es (pn p i)).testBit (pn p k) := by
  have h1 := lt32_of hn hb
  have h2 := lt32_of hn (map_lt (es := es) h.lp)
  have h3 := h.pl i hi
  rw [Bool.eq_iff_iff, adj_bit h2 (by omega), adj_bit h1 (by omega)]
  refine and_congr ?_ ?_
  · constructor
    · intro hne he; apply hne
      have := h.qp i hi; have h4 := h.qp k hk
      rw [he, this] at h4; exact h4.symm
    · intro hne he; subst he; exact hne rfl
  · constructor
    · rintro ⟨e', he', h4, h5⟩
      obtain ⟨e, he, rfl⟩ := List.mem_map.1 he'
      rw [ren_bit h.lp] at h4 h5
      simp only [Bool.and_eq_true] at h4 h5
      exact ⟨e, he, h4.2, h5.2⟩
    · rintro ⟨e, he, h4, h5⟩
      refine ⟨ren p e, List.mem_map.2 ⟨e, he, rfl⟩, ?_, ?_⟩
      · rw [ren_bit h.lp]; simp [hi, h4]
      · rw [ren_bit h.lp]; simp [hk, h5]
theorem conn_ren (hn : n ≤ 32) (h : Inv n p q) (hb : ∀ e ∈ es, e < 2 ^ n) {v u : Nat} (hv : v < n) (hc : Conn es v u) : Conn (es.map (ren p)) (pn q v) (pn q u) := by
  induction hc with
  | refl => exact .refl _
  | step h1 h2 ih =>
    have hb1 := h1.lt hn hb hv
    have hb2 := adj_lt_n hn hb (by omega) h2
    refine .step ih ?_
    rw [adj_ren hn h hb (h.ql _ hb1) (h.ql _ hb2), h.pq _ hb1, h.pq _ hb2]
    exact h2
theorem cls_ren (hn : n ≤ 32) (h : Inv n p q) (hb : ∀ e ∈ es, e < 2 ^ n) {v x : Nat} (hv : v < n) (hc : IsCls n es v x) : IsCls n (es.map (ren p)) (pn q v) (ren p x) := by
  intro u
  rw [ren_bit h.lp]
  simp only [Bool.and_eq_true, decide_eq_true_eq]
  constructor
  · rintro ⟨h1, h2⟩
    refine ⟨h1, ?_⟩
    have := conn_ren hn h hb hv ((hc _).1 h2).2
    rwa [h.qp u h1] at this
  · rintro ⟨h1, h2⟩
    refine ⟨h1, (hc _).2 ⟨h.pl u h1, ?_⟩⟩
    have := conn_ren hn h.symm (map_lt (es := es) h.lp) (h.ql v hv) h2
    rwa [ren_map h hb, h.pq v hv] at this
end
theorem check_ren {n : Nat} {es : List Nat} {p : List Int} (h : p.length = n) (hn : n ≤ 32) (hl : es.length ≤ 64) : checkCode n (es.map (ren p)) = 0 := by
  unfold checkCode
  rw [if_neg (by omega), if_neg (by simp; omega), if_pos]
  rw [List.all_eq_true]
  intro x hx
  have := map_lt h x hx
  simpa using this
/-- The components as a set. -/
theorem comps_mem {n : Nat} {es l : List Nat} (hn : n ≤ 32) (hb : ∀ e ∈ es, e < 2 ^ n) (h : IsComps n es l) (x : Nat) : x ∈ l ↔ ∃ v, v < n ∧ IsCls n es v x := by
  obtain ⟨vs, h1, h2, h3, h4⟩ := h
  constructor
  · intro hx
    obtain ⟨i, hi, rfl⟩ := List.getElem_of_mem hx
    have hiv : i < vs.length := by omega
    refine ⟨nth vs i, ((h2 _).1 (nth_mem hiv)).1, ?_⟩
    have := h4 i hiv
    rwa [nth_eq hi] at this
  · rintro ⟨v, hv, hc⟩
    obtain ⟨u, ⟨hu1, hu2⟩, hmin⟩ := least (P := fun u => u < n ∧ Conn es v u) ⟨hv, .refl _⟩
    have hl : Least n es u := ⟨hu1, fun t ht hct => by
      rcases Nat.lt_or_ge t u with h5 | h5
      · exact absurd ⟨ht, hu2.trans hct⟩ (hmin t h5)
      · exact h5⟩
    obtain ⟨i, hi, he⟩ := List.getElem_of_mem ((h2 u).2 hl)
    have hci := h4 i hi
    rw [nth_eq hi, he] at hci
    have hcu : IsCls n es u x := fun t => (hc t).trans ⟨fun ⟨a, b⟩ => ⟨a, (hu2.symm hn hb hv).trans b⟩, fun ⟨a, b⟩ => ⟨a, hu2.trans b⟩⟩
    have := hcu.unique hci
    rw [this]
    exact nth_mem (by omega)
theorem comps_nodup {n : Nat} {es l : List Nat} (hn : n ≤ 32) (hb : ∀ e ∈ es, e < 2 ^ n) (h : IsComps n es l) : l.Nodup := by
  obtain ⟨vs, h1, h2, h3, h4⟩ := h
  rw [List.nodup_iff_pairwise_ne, List.pairwise_iff_getElem]
  intro i j hi hj hij he
  have hiv : i < vs.length := by omega
  have hjv : j < vs.length := by omega
  have ci := h4 i hiv
  have cj := h4 j hjv
  rw [nth_eq hi] at ci
  rw [nth_eq hj, ← he] at cj
  have li := (h2 _).1 (nth_mem hiv)
  have lj := (h2 _).1 (nth_mem hjv)
  have hc1 := ((ci _).1 ((cj _).2 ⟨lj.1, .refl _⟩)).2
  have hlt : nth vs i < nth vs j := by rw [nth_eq hiv, nth_eq hjv]; exact List.pairwise_iff_getElem.1 h1 i j hiv hjv hij
  have := lj.2 _ li.1 (hc1.symm hn hb li.1)
  omega
/-- Renaming keeps the number of components. -/
theorem comps_count {n : Nat} {es : List Nat} {p q : List Int} (hn : n ≤ 32) (h : Inv n p q) (hb : ∀ e ∈ es, e < 2 ^ n) {l l' : List Nat} (hl : IsComps n es l) (hl' : IsComps n (es.map (ren p)) l') : l'.length = l.length := by
  have hb' := map_lt (es := es) h.lp
  have hperm : (l.map (ren p)).Perm l' := by
    rw [List.perm_ext_iff_of_nodup _ (comps_nodup hn hb' hl')]
    · intro x
      rw [comps_mem hn hb' hl', List.mem_map]
      constructor
      · rintro ⟨y, hy, rfl⟩
        obtain ⟨v, hv, hc⟩ := (comps_mem hn hb hl y).1 hy
        exact ⟨pn q v, h.ql v hv, cls_ren hn h hb hv hc⟩
      · rintro ⟨v, hv, hc⟩
        have h1 := cls_ren hn h.symm hb' hv hc
        rw [ren_map h hb] at h1
        exact ⟨ren q x, (comps_mem hn hb hl _).2 ⟨pn p v, h.pl v hv, h1⟩, ren_ren h.symm hc.lt⟩
    · rw [List.nodup_iff_pairwise_ne, List.pairwise_map]
      refine List.Pairwise.imp_of_mem ?_ (List.nodup_iff_pairwise_ne.1 (comps_nodup hn hb hl))
      intro a b ha hb2 hab he
      obtain ⟨v, _, ca⟩ := (comps_mem hn hb hl a).1 ha
      obtain ⟨u, _, cb⟩ := (comps_mem hn hb hl b).1 hb2
      have h1 := ren_ren h ca.lt
      rw [he, ren_ren h cb.lt] at h1
      exact hab h1.symm
  rw [← hperm.length_eq, List.length_map]
end Go.Proofs.Ytdagdamliggfmaa
