/-
  An acyclic graph has an order of its vertices without a disruptive trio.
-/
import Derived.Test.YtdagdamliggfmaaOrdP
import Derived.Test.YtdagdamliggfmaaRefPerm
namespace Go.Proofs.Ytdagdamliggfmaa

theorem any_adjR (es : List Nat) (a b : Nat) : es.any (fun e => e.testBit a && e.testBit b) = true ↔ AdjR es a b := by
  rw [List.any_eq_true]
  constructor
  · rintro ⟨x, hx, h⟩
    obtain ⟨i, hi, rfl⟩ := List.getElem_of_mem hx
    simp at h
    exact ⟨i, hi, by rw [nth_eq hi]; exact h.1, by rw [nth_eq hi]; exact h.2⟩
  · rintro ⟨i, hi, h1, h2⟩
    exact ⟨_, nth_mem hi, by rw [h1, h2]; rfl⟩
theorem adjB_adjR (es : List Nat) (a b : Nat) : adjB es a b = true ↔ a ≠ b ∧ AdjR es a b := by
  unfold adjB
  rw [Bool.and_eq_true, any_adjR, decide_eq_true_eq]
theorem testBit_ren (p : List Int) (e i : Nat) : (ren p e).testBit i = (decide (i < p.length) && e.testBit (inth p i).toNat) := testBit_renTo p e p.length i
theorem adjR_ren {p : List Int} {es : List Nat} {i j : Nat} (hi : i < p.length) (hj : j < p.length) : AdjR (es.map (ren p)) i j ↔ AdjR es (inth p i).toNat (inth p j).toNat := by
  rw [← any_adjR, ← any_adjR, List.any_map]
  have : (fun e => Nat.testBit e i && Nat.testBit e j) ∘ ren p = fun e => e.testBit (inth p i).toNat && e.testBit (inth p j).toNat := by
    funext e
    simp [testBit_ren, hi, hj]
  rw [this]
/-- An order of the vertices without a disruptive trio. -/
def GoodOrd (n : Nat) (es : List Nat) (p : List Int) : Prop := permB p 0 n = true ∧ rtrios (es.map (ren p)) n = []
theorem good_exists {n : Nat} (hn : n ≤ 32) {es : List Nat} (hb : ∀ x ∈ es, x < 2 ^ n) (h : Acyc n es) : ∃ p, GoodOrd n es p := by
  obtain ⟨l, r, g, hrun, hfin, hz⟩ := h
  have hb32 : ∀ x ∈ es, x < 2 ^ 32 := fun x hx => Nat.lt_of_lt_of_le (hb x hx) (two_pow_le hn)
  obtain ⟨ord, E⟩ := hrun.elim hn hb32
  have hno : ∀ v, ¬ InR r v := by
    rintro v ⟨i, hi, h1⟩
    rw [hz _ (nth_mem hi)] at h1
    simp at h1
  have hall : ∀ v, InR es v → v ∈ ord := fun v hv => (E.all v hv).resolve_right (hno v)
  let q : List Nat := ord.reverse ++ (List.range n).filter (fun x => decide (x ∉ ord))
  have hqd : q = ord.reverse ++ (List.range n).filter (fun x => decide (x ∉ ord)) := rfl
  have hqn : q.Nodup := by
    rw [hqd, List.nodup_append]
    refine ⟨List.pairwise_reverse.2 (List.Pairwise.imp Ne.symm E.nodup), List.Pairwise.filter _ List.nodup_range, ?_⟩
    intro a ha b hb' hab
    subst hab
    simp at ha hb'
    exact hb'.2 ha
  have hqm : ∀ x, x ∈ q ↔ x < n := by
    intro x
    rw [hqd]
    simp only [List.mem_append, List.mem_reverse, List.mem_filter, List.mem_range, decide_eq_true_eq]
    constructor
    · rintro (h | h)
      · exact E.lt x h
      · exact h.1
    · intro h
      by_cases hx : x ∈ ord
      · exact .inl hx
      · exact .inr ⟨h, hx⟩
  have hql : q.length = n := by
    have : q.Perm (List.range n) := (List.perm_ext_iff_of_nodup hqn List.nodup_range).2 (fun a => by rw [hqm, List.mem_range])
    rw [this.length_eq, List.length_range]
  have hget : ∀ i, i < n → (inth (q.map fun x : Nat => (x : Int)) i).toNat = q.getD i 0 := by
    intro i hi
    rw [inth_eq (by simp; omega)]
    simp [List.getD, show i < q.length by omega]
  refine ⟨q.map fun x : Nat => (x : Int), ?_, ?_⟩
  · refine decide_eq_true ⟨by simp [hql], ?_, ?_⟩
    · intro x hx
      simp only [List.mem_map] at hx
      obtain ⟨y, hy, rfl⟩ := hx
      have := (hqm y).1 hy
      omega
    · rw [List.Nodup, List.pairwise_map]
      exact hqn.imp (fun h h2 => h (by omega))
  · cases hl : rtrios (es.map (ren (q.map fun x : Nat => (x : Int)))) n with
    | nil => rfl
    | cons t rest =>
      exfalso
      have ht := mem_rtrios (show t ∈ rtrios (es.map (ren (q.map fun x : Nat => (x : Int)))) n by rw [hl]; simp)
      obtain ⟨i, j, k⟩ := t
      unfold isT at ht
      simp only [Bool.and_eq_true, decide_eq_true_eq, Bool.not_eq_true'] at ht
      obtain ⟨⟨hij, hjk, hkn⟩, h1, h2, h3⟩ := ht
      have hlen : (q.map fun x : Nat => (x : Int)).length = n := by simp [hql]
      rw [adjB_adjR, adjR_ren (by omega) (by omega), hget i (by omega), hget k (by omega)] at h1
      rw [adjB_adjR, adjR_ren (by omega) (by omega), hget j (by omega), hget k (by omega)] at h2
      have h3' : ¬ AdjR es (q.getD i 0) (q.getD j 0) := by
        intro hh
        have : adjB (es.map (ren (q.map fun x : Nat => (x : Int)))) i j = true := by
          rw [adjB_adjR, adjR_ren (by omega) (by omega), hget i (by omega), hget j (by omega)]
          exact ⟨by omega, hh⟩
        rw [this] at h3; cases h3
      have hqk : q.getD k 0 = q[k]'(by omega) := by simp [List.getD, show k < q.length by omega]
      have hko : q.getD k 0 ∈ ord := hall _ h1.2.right
      have hklt : k < ord.length := by
        rcases Nat.lt_or_ge k ord.length with h | h
        · exact h
        · exfalso
          have hm : q[k]'(by omega) ∈ (List.range n).filter (fun x => decide (x ∉ ord)) := by
            have hk2 : k < (ord.reverse ++ (List.range n).filter (fun x => decide (x ∉ ord))).length := by rw [← hqd]; omega
            have : q[k]'(by omega) = ((List.range n).filter (fun x => decide (x ∉ ord)))[k - ord.reverse.length]'(by simp at hk2 ⊢; omega) := by
              simp only [hqd]
              rw [List.getElem_append_right (by simp; omega)]
            rw [this]; exact List.getElem_mem _
          simp at hm
          rw [hqk] at hko
          exact hm.2 hko
      have hval : ∀ x, x < ord.length → q.getD x 0 = ord[ord.length - 1 - x]'(by omega) := by
        intro x hx
        have hxq : x < q.length := by rw [hqd]; simp; omega
        have : q.getD x 0 = q[x] := by simp [List.getD, hxq]
        rw [this]
        simp only [hqd]
        rw [List.getElem_append_left (by simp; exact hx), List.getElem_reverse]
      have hnot : ∀ x, x < k → q.getD x 0 ∉ ord.take (ord.length - 1 - k + 1) := by
        intro x hx hm
        rw [hval x (by omega)] at hm
        obtain ⟨y, hy, hy2⟩ := List.getElem_of_mem hm
        rw [List.getElem_take] at hy2
        simp at hy
        have hlt : y < ord.length - 1 - x := by omega
        exact (List.pairwise_iff_getElem.1 E.nodup) y (ord.length - 1 - x) (by omega) (by omega) hlt hy2
      exact h3' (E.clique (ord.length - 1 - k) (q.getD k 0) (by rw [hval k hklt]; exact List.getElem?_eq_getElem _) _ _ h1.2 h2.2 (hnot i (by omega)) (hnot j (by omega)))
end Go.Proofs.Ytdagdamliggfmaa
