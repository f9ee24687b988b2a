/-
  Plain: a graph is cyclic if and only if Obstruction finds something, and what it finds is accepted.
-/
import Derived.Test.YtkiahnffepbgpaaDirac
import Derived.Test.YtkiahnffepbgpaaObsF
import Derived.Test.YtkiahnffepbgpaaAdj
import Derived.Test.YtkiahnffepbgpaaRip
namespace Go.Proofs.Ytkiahnffepbgpaa
section
variable {n : Nat} {es : List Nat}
theorem gr_adj (hn : n ≤ 32) (hb : ∀ e ∈ es, e < 2 ^ n) {u v : Nat} : GR (adjRow n es) u v ↔ u ≠ v ∧ ∃ e ∈ es, e.testBit u = true ∧ e.testBit v = true := by
  unfold GR
  by_cases hu : u < 32
  · rw [nth_adjRow hu]
    by_cases hun : u < n
    · rw [if_pos hun, testBit_adj (lt32_of hn hb) hu, Bool.and_eq_true, decide_eq_true_eq, List.any_eq_true]
      simp only [Bool.and_eq_true]
      exact ⟨fun ⟨h1, h2⟩ => ⟨Ne.symm h1, h2⟩, fun ⟨h1, h2⟩ => ⟨Ne.symm h1, h2⟩⟩
    · rw [if_neg hun]
      constructor
      · intro h; simp at h
      · rintro ⟨_, e, he, h1, _⟩; exact absurd (testBit_lt (hb e he) h1) hun
  · have : nth (adjRow n es) u = 0 := by
      simp only [nth, List.getD]; rw [List.getElem?_eq_none (by rw [adjRow_length]; omega)]; rfl
    rw [this]
    constructor
    · intro h; simp at h
    · rintro ⟨_, e, he, h1, _⟩; have := testBit_lt (hb e he) h1; omega
theorem ady (hn : n ≤ 32) (hb : ∀ e ∈ es, e < 2 ^ n) : Ady n (adjRow n es) :=
  ⟨hn, adjRow_lt hb, fun u v g => by
    rw [gr_adj hn hb] at g ⊢
    obtain ⟨h1, e, he, h2, h3⟩ := g
    exact ⟨Ne.symm h1, e, he, h3, h2⟩, fun v g => ((gr_adj hn hb).1 g).1 rfl⟩
theorem clq_gr (hn : n ≤ 32) (_ : ∀ e ∈ es, e < 2 ^ n) {S : Nat} (hS : S < 2 ^ n) : Clq es S ↔ ∀ a b, S.testBit a = true → S.testBit b = true → a ≠ b → GR (adjRow n es) a b := by
  unfold Clq GR
  constructor
  · intro h a b ha hb2 hab
    have := testBit_lt hS ha
    rw [nth_adjRow (by omega), if_pos this]; exact h a b ha hb2 hab
  · intro h a b ha hb2 hab
    have h1 := h a b ha hb2 hab
    have := testBit_lt hS ha
    rwa [nth_adjRow (by omega), if_pos this] at h1
/-- What the reduction keeps of the first edges. -/
structure Keeps (r0 r : List Nat) (g : List Bool) : Prop where
  len : r.length = r0.length
  sb : ∀ k, k < r.length → sub (nth r k) (nth r0 k)
  sm : ∀ k, k < r0.length → ∃ f, f < r.length ∧ bget g f = false ∧ ∀ v, (nth r0 k).testBit v = true → inU r v → (nth r f).testBit v = true
theorem inU_nth {r : List Nat} {v : Nat} : inU r v ↔ ∃ k, k < r.length ∧ (nth r k).testBit v = true := by
  constructor
  · rintro ⟨x, hx, hv⟩
    obtain ⟨k, hk, rfl⟩ := List.getElem_of_mem hx
    exact ⟨k, hk, by rw [nth_eq hk]; exact hv⟩
  · rintro ⟨k, hk, hv⟩; exact ⟨_, nth_mem hk, hv⟩
theorem Keeps.run (hn : n ≤ 32) {r0 : List Nat} (h0 : Sane n r0 (List.replicate r0.length false)) {l : List (Int × Int × Int)} {r : List Nat} {g : List Bool} (h : Run n r0 (List.replicate r0.length false) l r g) : Keeps r0 r g := by
  induction h with
  | nil =>
    refine ⟨rfl, fun k _ v hv => hv, fun k hk => ⟨k, hk, ?_, fun v hv _ => hv⟩⟩
    simp [bget, List.getD, hk]
  | @abs l r g e f hr ha ih =>
    have hs := (hr.sane hn h0).1
    obtain ⟨he, hf, hab, _⟩ := ha
    obtain ⟨h1, h2, h3, h4⟩ := absorbs_parts hab
    have h32 := hs.lt32 hn
    have hsub : sub (nth r e) (nth r f) := sub_of_andn (h32 _ (nth_mem he)) (h32 _ (nth_mem hf)) h4
    have hU : ∀ v, inU (r.set e 0) v → inU r v := by
      intro v hv
      obtain ⟨k, hk, hkv⟩ := inU_nth.1 hv
      rw [nth_set he] at hkv
      by_cases hke : k = e
      · rw [if_pos hke] at hkv; simp at hkv
      · rw [if_neg hke] at hkv; exact inU_nth.2 ⟨k, by simpa using hk, hkv⟩
    refine ⟨by rw [List.length_set]; exact ih.len, fun k hk v hv => ?_, fun k hk => ?_⟩
    · rw [nth_set he] at hv
      by_cases hke : k = e
      · rw [if_pos hke] at hv; simp at hv
      · rw [if_neg hke] at hv; exact ih.sb k (by simpa using hk) v hv
    · obtain ⟨f0, h5, h6, h7⟩ := ih.sm k hk
      have hgl : e < g.length := by rw [hs.len]; exact he
      by_cases hfe : f0 = e
      · refine ⟨f, by simpa using hf, by rw [bget_set hgl, if_neg (Ne.symm h1)]; exact h3, fun v hv hu => ?_⟩
        rw [nth_set he, if_neg (Ne.symm h1)]
        have := h7 v hv (hU v hu)
        rw [hfe] at this
        exact hsub v this
      · refine ⟨f0, by simpa using h5, by rw [bget_set hgl, if_neg hfe]; exact h6, fun v hv hu => ?_⟩
        rw [nth_set he, if_neg hfe]; exact h7 v hv (hU v hu)
  | @iso l r g e w hr ha hi ih =>
    have hs := (hr.sane hn h0).1
    obtain ⟨hw, he, hew, hocc, _⟩ := hi
    have h32 := hs.lt32 hn
    have hbit : ∀ u, (andn (nth r e) (2 ^ w)).testBit u = true ↔ (nth r e).testBit u = true ∧ u ≠ w := drop_bit (h32 _ (nth_mem he)) (by omega)
    have hU : ∀ v, inU (r.set e (andn (nth r e) (2 ^ w))) v → inU r v ∧ v ≠ w := by
      intro v hv
      obtain ⟨k, hk, hkv⟩ := inU_nth.1 hv
      have hk' : k < r.length := by simpa using hk
      rw [nth_set he] at hkv
      by_cases hke : k = e
      · rw [if_pos hke] at hkv
        exact ⟨inU_nth.2 ⟨e, he, ((hbit v).1 hkv).1⟩, ((hbit v).1 hkv).2⟩
      · rw [if_neg hke] at hkv
        refine ⟨inU_nth.2 ⟨k, hk', hkv⟩, fun e' => ?_⟩
        subst e'
        exact hke (countP_one (p := fun x => x.testBit v) hk' he hkv hew hocc)
    refine ⟨by rw [List.length_set]; exact ih.len, fun k hk v hv => ?_, fun k hk => ?_⟩
    · rw [nth_set he] at hv
      by_cases hke : k = e
      · rw [if_pos hke] at hv
        subst hke
        exact ih.sb k he v ((hbit v).1 hv).1
      · rw [if_neg hke] at hv; exact ih.sb k (by simpa using hk) v hv
    · obtain ⟨f0, h5, h6, h7⟩ := ih.sm k hk
      refine ⟨f0, by simpa using h5, h6, fun v hv hu => ?_⟩
      obtain ⟨h8, h9⟩ := hU v hu
      rw [nth_set he]
      by_cases hfe : f0 = e
      · rw [if_pos hfe]
        have := h7 v hv h8
        rw [hfe] at this
        exact (hbit v).2 ⟨this, h9⟩
      · rw [if_neg hfe]; exact h7 v hv h8
theorem count_only {p : Nat → Bool} : ∀ {r : List Nat} {f : Nat}, f < r.length → p (nth r f) = true → (∀ e, e < r.length → p (nth r e) = true → e = f) → r.countP p = 1
  | [], f, h, _, _ => by simp at h
  | x :: r, 0, _, h1, h2 => by
    have hx : p x = true := h1
    rw [List.countP_cons, if_pos hx]
    have : r.countP p = 0 := by
      rw [List.countP_eq_zero]
      intro y hy hpy
      obtain ⟨k, hk, rfl⟩ := List.getElem_of_mem hy
      have := h2 (k + 1) (by simpa using hk) (by
        have : nth (x :: r) (k + 1) = nth r k := rfl
        rw [this, nth_eq hk]; exact hpy)
      omega
    omega
  | x :: r, f + 1, h, h1, h2 => by
    have hx : ¬ p x = true := fun hpx => by
      have := h2 0 (by simp) hpx
      omega
    rw [List.countP_cons, if_neg hx]
    have := count_only (r := r) (f := f) (by simpa using h) h1 (fun e he hpe => by
      have := h2 (e + 1) (by simpa using he) hpe
      omega)
    omega
theorem inU_link {r : List Nat} {v : Nat} : (linkOf r).testBit v = true ↔ inU r v := by
  rw [testBit_linkOf, List.any_eq_true]; rfl
/-- Without holes, and every clique covered: the reduction removes everything. -/
theorem acyc_of (hn : n ≤ 32) (hb : ∀ e ∈ es, e < 2 ^ n) (h0 : cylF (adjRow n es) n = 0) (hc : ∀ S, S < 2 ^ n → Clq es S → sub S (linkOf es) → S ≠ 0 → Cov es S) : Acyc n es := by
  have hss := sane_start (n := n) hb
  obtain ⟨l, r, g, hr, hf⟩ := run_ends hn hss _ (Run.nil (n := n) (r0 := es)) (Nat.le_refl _)
  refine ⟨l, r, g, hr, hf, ?_⟩
  have hk := Keeps.run hn hss hr
  have hs := (hr.sane hn hss).1
  refine Classical.byContradiction fun hno => ?_
  have hVlt : linkOf r < 2 ^ n := linkOf_lt hs.lt
  have hV0 : linkOf r ≠ 0 := by
    intro e
    refine hno fun x hx => Classical.byContradiction fun hx0 => ?_
    obtain ⟨u, hu⟩ := nz_bit hx0
    have : (linkOf r).testBit u = true := inU_link.2 ⟨x, hx, hu⟩
    rw [e] at this; simp at this
  obtain ⟨v, hv, hsim⟩ := dirac (ady hn hb) h0 _ (linkOf r) rfl hVlt hV0
  obtain ⟨N, hN, hNb⟩ := bitset (fun u => (linkOf r).testBit u = true ∧ (u = v ∨ GR (adjRow n es) v u)) n
  have hvn := testBit_lt hVlt hv
  have hNv : N.testBit v = true := (hNb v).2 ⟨hvn, hv, .inl rfl⟩
  have hclq : Clq es N := by
    rw [clq_gr hn hb hN]
    intro a b ha hb2 hab
    obtain ⟨_, a1, a2⟩ := (hNb a).1 ha
    obtain ⟨_, b1, b2⟩ := (hNb b).1 hb2
    rcases a2 with rfl | a2
    · rcases b2 with rfl | b2
      · exact absurd rfl hab
      · exact b2
    · rcases b2 with rfl | b2
      · exact (ady hn hb).sym _ _ a2
      · exact hsim a b a1 b1 a2 b2 hab
  have hlink : sub N (linkOf es) := by
    intro u hu
    obtain ⟨k, hkr, hku⟩ := inU_nth.1 (inU_link.1 ((hNb u).1 hu).2.1)
    exact inU_link.2 (inU_nth.2 ⟨k, by rw [← hk.len]; exact hkr, hk.sb k hkr u hku⟩)
  obtain ⟨e, he, hsub⟩ := hc N hN hclq hlink (fun e => by rw [e] at hNv; simp at hNv)
  obtain ⟨k, hke, rfl⟩ := List.getElem_of_mem he
  obtain ⟨f, hfl, hfg, hfs⟩ := hk.sm k hke
  have hNf : sub N (nth r f) := fun u hu => hfs u (by rw [nth_eq hke]; exact hsub u hu) (inU_link.1 ((hNb u).1 hu).2.1)
  have hfv := hNf v hNv
  have : ∃ e', e' < r.length ∧ (nth r e').testBit v = true ∧ e' ≠ f := by
    refine Classical.byContradiction fun hno2 => hf.2 v hvn ?_
    exact count_only (p := fun x => x.testBit v) hfl hfv (fun e' h1 h2 => Classical.byContradiction fun h3 => hno2 ⟨e', h1, h2, h3⟩)
  obtain ⟨e', h1, h2, h3⟩ := this
  have hsub2 : sub (nth r e') (nth r f) := by
    intro u hu
    refine hNf u ((hNb u).2 ⟨testBit_lt (hs.lt _ (nth_mem h1)) hu, inU_link.2 (inU_nth.2 ⟨e', h1, hu⟩), ?_⟩)
    by_cases huv : u = v
    · exact .inl huv
    · right
      rw [gr_adj hn hb]
      have he' : e' < es.length := by rw [← hk.len]; exact h1
      exact ⟨fun e => huv e.symm, nth es e', nth_mem he', hk.sb e' h1 v h2, hk.sb e' h1 u hu⟩
  have h32 := hs.lt32 hn
  have hz := andn_of_sub (h32 _ (nth_mem h1)) (h32 _ (nth_mem hfl)) hsub2
  have hab : absorbs r g e' f = true := by
    unfold absorbs
    rw [decide_eq_true h3, hs.live_of h1 h2, hfg, decide_eq_true hz]; rfl
  have := hf.1 e' f h1 hfl
  rw [hab] at this; cases this
/-- In an acyclic graph no set of vertices is such that each of them has two neighbours in it that are not adjacent. -/
theorem rip_simp : ∀ {l : List Nat}, rip l → ∀ H : Nat → Prop, (∃ v, H v) → (∀ v, H v → ∃ x y, (H x ∧ H y) ∧ (∃ e ∈ l, e.testBit v = true ∧ e.testBit x = true) ∧ (∃ e ∈ l, e.testBit v = true ∧ e.testBit y = true) ∧ ¬ ∃ e ∈ l, e.testBit x = true ∧ e.testBit y = true) → False
  | [], _, H, ⟨v, hv⟩, h => by
    obtain ⟨_, _, _, ⟨e, he, _⟩, _⟩ := h v hv
    cases he
  | e :: l, ⟨h1, h2⟩, H, hne, h => by
    have hin : ∀ v, H v → inU l v := by
      intro v hv
      obtain ⟨x, y, _, ⟨e1, he1, a1, b1⟩, ⟨e2, he2, a2, b2⟩, hno⟩ := h v hv
      rcases List.mem_cons.1 he1 with rfl | he1
      · rcases List.mem_cons.1 he2 with rfl | he2
        · exact absurd ⟨_, he1, b1, b2⟩ hno
        · exact ⟨e2, he2, a2⟩
      · exact ⟨e1, he1, a1⟩
    have hdown : ∀ u v, H u → H v → (∃ f ∈ e :: l, f.testBit u = true ∧ f.testBit v = true) → ∃ f ∈ l, f.testBit u = true ∧ f.testBit v = true := by
      rintro u v hu hv ⟨f, hf, a, b⟩
      rcases List.mem_cons.1 hf with rfl | hf
      · rcases h1 with h1 | ⟨f', hf', h1⟩
        · subst h1
          obtain ⟨x, hx, _⟩ := hin u hu
          cases hx
        · exact ⟨f', hf', h1 u a (hin u hu), h1 v b (hin v hv)⟩
      · exact ⟨f, hf, a, b⟩
    refine rip_simp h2 H hne fun v hv => ?_
    obtain ⟨x, y, ⟨hx, hy⟩, k1, k2, k3⟩ := h v hv
    exact ⟨x, y, ⟨hx, hy⟩, hdown v x hv hx k1, hdown v y hv hy k2, fun ⟨f, hf, a, b⟩ => k3 ⟨f, by simp [hf], a, b⟩⟩
theorem hole_cyclic (hn : n ≤ 32) (hb : ∀ e ∈ es, e < 2 ^ n) {L : Nat} {p : List Nat} (hp : HoleL (adjRow n es) n L p) : ¬ Acyc n es := by
  rw [acyc_iff hn hb]
  rintro ⟨l, hl, hrip⟩
  have h4 := hp.four
  have hmem : ∀ e, e ∈ es ↔ e ∈ l := fun e => hl.mem_iff
  have hadj : ∀ i j, j < i → i < L → ((∃ e ∈ l, e.testBit (nth p i) = true ∧ e.testBit (nth p j) = true) ↔ (j + 1 = i ∨ (j = 0 ∧ i + 1 = L))) := by
    intro i j hji hi
    rw [← hp.adj i j hji hi, gr_adj hn hb]
    constructor
    · rintro ⟨e, he, a, b⟩; exact ⟨hp.dis i j hji hi, e, (hmem e).2 he, a, b⟩
    · rintro ⟨_, e, he, a, b⟩; exact ⟨e, (hmem e).1 he, a, b⟩
  have hadj2 : ∀ i j, i ≠ j → i < L → j < L → ((∃ e ∈ l, e.testBit (nth p i) = true ∧ e.testBit (nth p j) = true) ↔ (j + 1 = i ∨ i + 1 = j ∨ (j = 0 ∧ i + 1 = L) ∨ (i = 0 ∧ j + 1 = L))) := by
    intro i j hij hi hj
    rcases Nat.lt_or_ge j i with h | h
    · rw [hadj i j h hi]; omega
    · have := hadj j i (by omega) hj
      constructor
      · rintro ⟨e, he, a, b⟩
        have := this.1 ⟨e, he, b, a⟩; omega
      · intro hh
        obtain ⟨e, he, a, b⟩ := this.2 (by omega)
        exact ⟨e, he, b, a⟩
  refine rip_simp hrip (fun v => ∃ i, i < L ∧ v = nth p i) ⟨_, 0, by omega, rfl⟩ ?_
  rintro v ⟨i, hi, rfl⟩
  -- the neighbours in the cycle
  obtain ⟨a, ha⟩ : ∃ a, a = if i + 1 < L then i + 1 else 0 := ⟨_, rfl⟩
  obtain ⟨b, hb'⟩ : ∃ b, b = if i = 0 then L - 1 else i - 1 := ⟨_, rfl⟩
  have hal : a < L ∧ (a = i + 1 ∨ (a = 0 ∧ i + 1 = L)) := by rw [ha]; split <;> omega
  have hbl : b < L ∧ (b + 1 = i ∨ (i = 0 ∧ b + 1 = L)) := by rw [hb']; split <;> omega
  refine ⟨nth p a, nth p b, ⟨⟨a, hal.1, rfl⟩, b, hbl.1, rfl⟩, (hadj2 i a (by omega) hi hal.1).2 (by omega), (hadj2 i b (by omega) hi hbl.1).2 (by omega), fun h => ?_⟩
  have := (hadj2 a b (by omega) hal.1 hbl.1).1 h
  omega
theorem clique_cyclic (hn : n ≤ 32) (hb : ∀ e ∈ es, e < 2 ^ n) {S a b : Nat} (hS : S < 2 ^ n) (hc : Clq es S) (ha : S.testBit a = true) (hb2 : S.testBit b = true) (hab : a ≠ b) (hno : ¬ Cov es S) : ¬ Acyc n es := by
  rw [acyc_iff hn hb]
  rintro ⟨l, hl, hrip⟩
  obtain ⟨e, he, h⟩ := rip_clique hrip (fun v => S.testBit v = true) a b ha hb2 hab fun x y hx hy hxy => by
    obtain ⟨_, e, he, h1, h2⟩ := (gr_adj hn hb).1 ((clq_gr hn hb hS).1 hc x y hx hy hxy)
    exact ⟨e, hl.mem_iff.1 he, h1, h2⟩
  exact hno ⟨e, hl.mem_iff.2 he, fun v hv => h v hv⟩
end
end Go.Proofs.Ytkiahnffepbgpaa
