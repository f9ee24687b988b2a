/-
  Plain: renamed vertices and exchanged edges keep acyclicity.
-/
import Derived.Test.YtkiahnffepbgpaaRip
namespace Go.Proofs.Ytkiahnffepbgpaa

/-- The set of the new names of the vertices of e below k. -/
def imgTo (p : List Int) (e : Nat) : Nat → Nat
  | 0 => 0
  | k + 1 => if e.testBit k then imgTo p e k ||| 2 ^ (inth p k).toNat else imgTo p e k
/-- The list is an order of the numbers below n. -/
structure PermOk (n : Nat) (p : List Int) : Prop where
  len : p.length = n
  rng : ∀ i, i < n → 0 ≤ inth p i ∧ inth p i < n
  inj : ∀ i j, i < n → j < n → inth p i = inth p j → i = j
theorem img_bit {p : List Int} {e u : Nat} : ∀ {k : Nat}, (imgTo p e k).testBit u = true ↔ ∃ v, v < k ∧ e.testBit v = true ∧ u = (inth p v).toNat
  | 0 => by simp [imgTo]
  | k + 1 => by
    rw [imgTo]
    split
    · rename_i h
      rw [Nat.testBit_or, Bool.or_eq_true, img_bit, Nat.testBit_two_pow, decide_eq_true_eq]
      constructor
      · rintro (⟨v, h1, h2, h3⟩ | h1)
        · exact ⟨v, by omega, h2, h3⟩
        · exact ⟨k, by omega, h, h1.symm⟩
      · rintro ⟨v, h1, h2, h3⟩
        by_cases hv : v = k
        · subst hv; exact .inr h3.symm
        · exact .inl ⟨v, by omega, h2, h3⟩
    · rename_i h
      rw [img_bit]
      constructor
      · rintro ⟨v, h1, h2, h3⟩; exact ⟨v, by omega, h2, h3⟩
      · rintro ⟨v, h1, h2, h3⟩
        have : v ≠ k := fun e => h (e ▸ h2)
        exact ⟨v, by omega, h2, h3⟩
theorem img_lt {n : Nat} {p : List Int} (h : PermOk n p) (e : Nat) : ∀ k, k ≤ n → imgTo p e k < 2 ^ n
  | 0, _ => pow2_pos n
  | k + 1, hk => by
    rw [imgTo]
    split
    · have := h.rng k (by omega)
      exact Nat.or_lt_two_pow (img_lt h e k (by omega)) (Nat.pow_lt_pow_right (by omega) (by omega))
    · exact img_lt h e k (by omega)
section
variable {n : Nat} {p : List Int}
theorem rip_img (h : PermOk n p) : ∀ {l : List Nat}, (∀ x ∈ l, x < 2 ^ n) → (rip (l.map fun e => imgTo p e n) ↔ rip l)
  | [], _ => Iff.rfl
  | e :: l, hb => by
    have ih := rip_img h (l := l) fun x hx => hb x (by simp [hx])
    have inj : ∀ {a b : Nat}, a < n → b < n → (inth p a).toNat = (inth p b).toNat → a = b := by
      intro a b ha hb2 he
      have h1 := h.rng a ha; have h2 := h.rng b hb2
      exact h.inj a b ha hb2 (by omega)
    have bit : ∀ x v, v < n → ((imgTo p x n).testBit (inth p v).toNat = true ↔ x.testBit v = true) := by
      intro x v hv
      rw [img_bit]
      constructor
      · rintro ⟨u, h1, h2, h3⟩; rw [inj hv h1 h3]; exact h2
      · intro hx; exact ⟨v, hv, hx, rfl⟩
    have low : ∀ x ∈ e :: l, ∀ v, x.testBit v = true → v < n := fun x hx v hv => testBit_lt (hb x hx) hv
    have inu : ∀ v, v < n → (inU (l.map fun e => imgTo p e n) (inth p v).toNat ↔ inU l v) := by
      intro v hv
      constructor
      · rintro ⟨y, hy, hyv⟩
        obtain ⟨x, hx, rfl⟩ := List.mem_map.1 hy
        exact ⟨x, hx, (bit x v hv).1 hyv⟩
      · rintro ⟨x, hx, hxv⟩
        exact ⟨_, List.mem_map.2 ⟨x, hx, rfl⟩, (bit x v hv).2 hxv⟩
    rw [List.map_cons, rip, rip, ih]
    refine and_congr ?_ Iff.rfl
    constructor
    · rintro (h1 | ⟨f', hf', h1⟩)
      · exact .inl (List.map_eq_nil_iff.1 h1)
      · obtain ⟨f, hf, rfl⟩ := List.mem_map.1 hf'
        refine .inr ⟨f, hf, fun v hv hu => ?_⟩
        have hvn := low e (by simp) v hv
        exact (bit f v hvn).1 (h1 _ ((bit e v hvn).2 hv) ((inu v hvn).2 hu))
    · rintro (h1 | ⟨f, hf, h1⟩)
      · exact .inl (by rw [h1]; rfl)
      · refine .inr ⟨_, List.mem_map.2 ⟨f, hf, rfl⟩, fun u hu hU => ?_⟩
        obtain ⟨v, hvn, hv, rfl⟩ := img_bit.1 hu
        exact (bit f v hvn).2 (h1 v hv ((inu v hvn).1 hU))
theorem Rip_img (h : PermOk n p) {l : List Nat} (hb : ∀ x ∈ l, x < 2 ^ n) : Rip (l.map fun e => imgTo p e n) ↔ Rip l := by
  constructor
  · rintro ⟨m, hm, hr⟩
    obtain ⟨l2, h1, rfl⟩ := perm_map_inv hm l rfl
    exact ⟨l2, h1, (rip_img h fun x hx => hb x (h1.mem_iff.2 hx)).1 hr⟩
  · rintro ⟨m, hm, hr⟩
    exact ⟨_, hm.map _, (rip_img h fun x hx => hb x (hm.mem_iff.2 hx)).2 hr⟩
end
/-- Two elements exchanged. -/
def swapI (p : List Int) (k m : Nat) : List Int := (p.set k (inth p m)).set m (inth p k)
def swapN (l : List Nat) (k m : Nat) : List Nat := (l.set k (nth l m)).set m (nth l k)
theorem swapI_get {p : List Int} {k m i : Nat} (hk : k < p.length) (hm : m < p.length) : inth (swapI p k m) i = if i = m then inth p k else if i = k then inth p m else inth p i := by
  rw [swapI, inth_set (by simpa using hm), inth_set hk]
theorem PermOk.swap {n : Nat} {p : List Int} (h : PermOk n p) {k m : Nat} (hk : k < n) (hm : m < n) : PermOk n (swapI p k m) := by
  have hl := h.len
  refine ⟨by simp [swapI, hl], fun i hi => ?_, fun i j hi hj he => ?_⟩
  · rw [swapI_get (by omega) (by omega)]
    split
    · exact h.rng k hk
    · split
      · exact h.rng m hm
      · exact h.rng i hi
  · rw [swapI_get (by omega) (by omega), swapI_get (by omega) (by omega)] at he
    by_cases h1 : i = m
    · rw [if_pos h1] at he
      by_cases h2 : j = m
      · omega
      · rw [if_neg h2] at he
        by_cases h3 : j = k
        · rw [if_pos h3] at he; have := h.inj _ _ hk hm he; omega
        · rw [if_neg h3] at he; have := h.inj _ _ hk hj he; omega
    · rw [if_neg h1] at he
      by_cases h2 : i = k
      · rw [if_pos h2] at he
        by_cases h3 : j = m
        · rw [if_pos h3] at he; have := h.inj _ _ hm hk he; omega
        · rw [if_neg h3] at he
          by_cases h4 : j = k
          · omega
          · rw [if_neg h4] at he; have := h.inj _ _ hm hj he; omega
      · rw [if_neg h2] at he
        by_cases h3 : j = m
        · rw [if_pos h3] at he; have := h.inj _ _ hi hk he; omega
        · rw [if_neg h3] at he
          by_cases h4 : j = k
          · rw [if_pos h4] at he; have := h.inj _ _ hi hm he; omega
          · rw [if_neg h4] at he; exact h.inj _ _ hi hj he
theorem count_sum (a : Nat) : ∀ l : List Nat, l.count a = (l.map fun x => if x = a then 1 else 0).sum
  | [] => rfl
  | x :: l => by
    rw [List.count_cons, count_sum a l, List.map_cons, List.sum_cons]
    by_cases h : x = a
    · simp [h]; omega
    · simp [h]
theorem swapN_perm {l : List Nat} {k m : Nat} (hk : k < l.length) (hm : m < l.length) : (swapN l k m).Perm l := by
  rw [List.perm_iff_count]
  intro a
  rw [count_sum, count_sum]
  have h1 := sum_set (fun x => if x = a then 1 else 0) l k (nth l m) hk
  have h2 := sum_set (fun x => if x = a then 1 else 0) (l.set k (nth l m)) m (nth l k) (by simpa using hm)
  rw [nth_set hk] at h2
  unfold swapN
  by_cases he : m = k
  · subst he
    rw [if_pos rfl] at h2
    omega
  · rw [if_neg he] at h2
    omega
theorem swapN_length (l : List Nat) (k m : Nat) : (swapN l k m).length = l.length := by simp [swapN]
theorem swapI_length (l : List Int) (k m : Nat) : (swapI l k m).length = l.length := by simp [swapI]
theorem perm_id (n : Nat) : PermOk n ((List.range n).map fun (i : Nat) => (i : Int)) := by
  have hg : ∀ i, i < n → inth ((List.range n).map fun (i : Nat) => (i : Int)) i = i := fun i hi => by rw [inth_eq (by simpa using hi)]; simp
  refine ⟨by simp, fun i hi => by rw [hg i hi]; omega, fun i j hi hj he => by rw [hg i hi, hg j hj] at he; omega⟩
theorem nth_ext {a b : List Nat} (hl : a.length = b.length) (h : ∀ t, t < a.length → nth a t = nth b t) : a = b := by
  apply List.ext_getElem hl
  intro i h1 h2
  rw [← nth_eq h1, ← nth_eq h2]; exact h i h1
theorem acyc_img {n : Nat} {p : List Int} {es xs ys : List Nat} (hn : n ≤ 32) (hp : PermOk n p) (hx : xs.Perm es) (hb : ∀ e ∈ es, e < 2 ^ n) (hl : ys.length = xs.length) (hy : ∀ t, t < ys.length → nth ys t = imgTo p (nth xs t) n) : (Acyc n ys ↔ Acyc n es) ∧ ∀ e ∈ ys, e < 2 ^ n := by
  have e : ys = xs.map fun e => imgTo p e n := nth_ext (by simp [hl]) fun t ht => by
    rw [hy t ht, nth_eq (show t < (xs.map fun e => imgTo p e n).length by simp; omega), nth_eq (show t < xs.length by omega)]; simp
  have hbx : ∀ e ∈ xs, e < 2 ^ n := fun e he => hb e (hx.mem_iff.1 he)
  have hby : ∀ e ∈ ys, e < 2 ^ n := by
    intro y h
    rw [e, List.mem_map] at h
    obtain ⟨x, _, rfl⟩ := h
    exact img_lt hp x n (Nat.le_refl _)
  refine ⟨?_, hby⟩
  rw [acyc_iff hn hby, acyc_iff hn hb, e, Rip_img hp hbx]
  exact ⟨Rip.perm hx, Rip.perm hx.symm⟩
theorem acyc_more {n : Nat} {l : List Nat} {e f : Nat} (hn : n ≤ 32) (hb : ∀ x ∈ l, x < 2 ^ n) (hf : f ∈ l) (hs : sub e f) : (Acyc n (l ++ [e]) ↔ Acyc n l) ∧ ∀ x ∈ l ++ [e], x < 2 ^ n := by
  have he : e < 2 ^ n := by
    apply Nat.lt_pow_two_of_testBit
    intro i hi
    cases h : e.testBit i with
    | false => rfl
    | true => have := testBit_lt (hb f hf) (hs i h); omega
  have hb2 : ∀ x ∈ l ++ [e], x < 2 ^ n := by
    intro x hx
    rw [List.mem_append, List.mem_singleton] at hx
    rcases hx with h | rfl
    · exact hb x h
    · exact he
  refine ⟨?_, hb2⟩
  rw [acyc_iff hn hb2, acyc_iff hn hb]
  have hp : (l ++ [e]).Perm (e :: l) := List.perm_append_comm
  exact ⟨fun h => (Rip.perm hp h).del hf hs, fun h => Rip.perm hp.symm (h.add hf hs)⟩
theorem check_ok {n : Nat} {l : List Nat} (hn : n ≤ 32) (hl : l.length ≤ 64) (hb : ∀ x ∈ l, x < 2 ^ n) : checkCode n l = 0 := by
  unfold checkCode
  rw [if_neg (by omega), if_neg (by omega), if_pos]
  rw [List.all_eq_true]
  intro x hx
  have := hb x hx
  simpa using this
end Go.Proofs.Ytkiahnffepbgpaa
