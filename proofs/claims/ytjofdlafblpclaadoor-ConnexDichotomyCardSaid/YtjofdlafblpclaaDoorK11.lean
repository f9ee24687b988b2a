/-
Plain: a graph is cyclic if and only if Obstruction finds something, and what it finds is accepted.
Contracts of the reference of layer 31: Adjacent, Is.
-/
import Derived.Test.YtjofdlafblpclaaDoorK10
import Derived.Test.YtjofdlafblpclaaDoorK4
import Derived.Test.YtjofdlafblpclaaDoorK5
import Derived.Test.YtjofdlafblpclaaDoorK3
import Derived.Test.YtjofdlafblpclaaDoorK1
import Derived.Test.YtjofdlafblpclaaDoorK9
namespace Go.Proofs.YtjofdlafblpclaaDoor
section
variable {n : Nat} {es : List Nat}
theorem gr_adj (hn : n ≤ 32) (hb : ∀ e ∈ es, e < 2 ^ n) {u v : Nat} : GR (adjRow n es) u v ↔ u ≠ v ∧ ∃ e ∈ es, e.testBit u = true ∧ e.testBit v = true := by
  unfold GR
  by_cases hu : u < 32
  · rw [nth_adjRow hu]
    by_cases hun : u < n
    · rw [if_pos hun, testBit_adj (lt32_of hn hb) hu, Bool.and_eq_true, decide_eq_true_eq, List.any_eq_true]
      simp only [Bool.and_eq_true]
      exact ⟨fun ⟨h1, h2⟩ => ⟨Ne.symm h1, h2⟩, fun ⟨h1, h2⟩ => ⟨Ne.symm h1, h2⟩⟩
    · rw [if_neg hun]
      constructor
      · intro h; simp at h
      · rintro ⟨_, e, he, h1, _⟩; exact absurd (testBit_lt (hb e he) h1) hun
  · have : nth (adjRow n es) u = 0 := by
      simp only [nth, List.getD]; rw [List.getElem?_eq_none (by rw [adjRow_length]; omega)]; rfl
    rw [this]
    constructor
    · intro h; simp at h
    · rintro ⟨_, e, he, h1, _⟩; have := testBit_lt (hb e he) h1; omega
theorem ady (hn : n ≤ 32) (hb : ∀ e ∈ es, e < 2 ^ n) : Ady n (adjRow n es) :=
  ⟨hn, adjRow_lt hb, fun u v g => by
    rw [gr_adj hn hb] at g ⊢
    obtain ⟨h1, e, he, h2, h3⟩ := g
    exact ⟨Ne.symm h1, e, he, h3, h2⟩, fun v g => ((gr_adj hn hb).1 g).1 rfl⟩
theorem clq_gr (hn : n ≤ 32) (_ : ∀ e ∈ es, e < 2 ^ n) {S : Nat} (hS : S < 2 ^ n) : Clq es S ↔ ∀ a b, S.testBit a = true → S.testBit b = true → a ≠ b → GR (adjRow n es) a b := by
  unfold Clq GR
  constructor
  · intro h a b ha hb2 hab
    have := testBit_lt hS ha
    rw [nth_adjRow (by omega), if_pos this]; exact h a b ha hb2 hab
  · intro h a b ha hb2 hab
    have h1 := h a b ha hb2 hab
    have := testBit_lt hS ha
    rwa [nth_adjRow (by omega), if_pos this] at h1
/-- What the reduction keeps of the first edges. -/
structure Keeps (r0 r : List Nat) (g : List Bool) : Prop where
  len : r.length = r0.length
  sb : ∀ k, k < r.length → sub (nth r k) (nth r0 k)
  sm : ∀ k, k < r0.length → ∃ f, f < r.length ∧ bget g f = false ∧ ∀ v, (nth r0 k).testBit v = true → inU r v → (nth r f).testBit v = true
theorem inU_nth {r : List Nat} {v : Nat} : inU r v ↔ ∃ k, k < r.length ∧ (nth r k).testBit v = true := by
  constructor
  · rintro ⟨x, hx, hv⟩
    obtain ⟨k, hk, rfl⟩ := List.getElem_of_mem hx
    exact ⟨k, hk, by rw [nth_eq hk]; exact hv⟩
  · rintro ⟨k, hk, hv⟩; exact ⟨_, nth_mem hk, hv⟩
theorem Keeps.run (hn : n ≤ 32) {r0 : List Nat} (h0 : Sane n r0 (List.replicate r0.length false)) {l : List (Int × Int × Int)} {r : List Nat} {g : List Bool} (h : Run n r0 (List.replicate r0.length false) l r g) : Keeps r0 r g := by
  induction h with
  | nil =>
    refine ⟨rfl, fun k _ v hv => hv, fun k hk => ⟨k, hk, ?_, fun v hv _ => hv⟩⟩
    simp [bget, List.getD, hk]
  | @abs l r g e f hr ha ih =>
    have hs := (hr.sane hn h0).1
    obtain ⟨he, hf, hab, _⟩ := ha
    obtain ⟨h1, h2, h3, h4⟩ := absorbs_parts hab
    have h32 := hs.lt32 hn
    have hsub : sub (nth r e) (nth r f) := sub_of_andn (h32 _ (nth_mem he)) (h32 _ (nth_mem hf)) h4
    have hU : ∀ v, inU (r.set e 0) v → inU r v := by
      intro v hv
      obtain ⟨k, hk, hkv⟩ := inU_nth.1 hv
      rw [nth_set he] at hkv
      by_cases hke : k = e
      · rw [if_pos hke] at hkv; simp at hkv
      · rw [if_neg hke] at hkv; exact inU_nth.2 ⟨k, by simpa using hk, hkv⟩
    refine ⟨by rw [List.length_set]; exact ih.len, fun k hk v hv => ?_, fun k hk => ?_⟩
    · rw [nth_set he] at hv
      by_cases hke : k = e
      · rw [if_pos hke] at hv; simp at hv
      · rw [if_neg hke] at hv; exact ih.sb k (by simpa using hk) v hv
    · obtain ⟨f0, h5, h6, h7⟩ := ih.sm k hk
      have hgl : e < g.length := by rw [hs.len]; exact he
      by_cases hfe : f0 = e
      · refine ⟨f, by simpa using hf, by rw [bget_set hgl, if_neg (Ne.symm h1)]; exact h3, fun v hv hu => ?_⟩
        rw [nth_set he, if_neg (Ne.symm h1)]
        have := h7 v hv (hU v hu)
        rw [hfe] at this
        exact hsub v this
      · refine ⟨f0, by simpa using h5, by rw [bget_set hgl, if_neg hfe]; exact h6, fun v hv hu => ?_⟩
        rw [nth_set he, if_neg hfe]; exact h7 v hv (hU v hu)
  | @iso l r g e w hr ha hi ih =>
    have hs := (hr.sane hn h0).1
    obtain ⟨hw, he, hew, hocc, _⟩ := hi
    have h32 := hs.lt32 hn
    have hbit : ∀ u, (andn (nth r e) (2 ^ w)).testBit u = true ↔ (nth r e).testBit u = true ∧ u ≠ w := drop_bit (h32 _ (nth_mem he)) (by omega)
    have hU : ∀ v, inU (r.set e (andn (nth r e) (2 ^ w))) v → inU r v ∧ v ≠ w := by
      intro v hv
      obtain ⟨k, hk, hkv⟩ := inU_nth.1 hv
      have hk' : k < r.length := by simpa using hk
      rw [nth_set he] at hkv
      by_cases hke : k = e
      · rw [if_pos hke] at hkv
        exact ⟨inU_nth.2 ⟨e, he, ((hbit v).1 hkv).1⟩, ((hbit v).1 hkv).2⟩
      · rw [if_neg hke] at hkv
        refine ⟨inU_nth.2 ⟨k, hk', hkv⟩, fun e' => ?_⟩
        subst e'
        exact hke (countP_one (p := fun x => x.testBit v) hk' he hkv hew hocc)
    refine ⟨by rw [List.length_set]; exact ih.len, fun k hk v hv => ?_, fun k hk => ?_⟩
    · rw [nth_set he] at hv
      by_cases hke : k = e
      · rw [if_pos hke] at hv
        subst hke
        exact ih.sb k he v ((hbit v).1 hv).1
      · rw [if_neg hke] at hv; exact ih.sb k (by simpa using hk) v hv
    · obtain ⟨f0, h5, h6, h7⟩ := ih.sm k hk
      refine ⟨f0, by simpa using h5, h6, fun v hv hu => ?_⟩
      obtain ⟨h8, h9⟩ := hU v hu
      rw [nth_set he]
      by_cases hfe : f0 = e
      · rw [if_pos hfe]
        have := h7 v hv h8
        rw [hfe] at this
        exact (hbit v).2 ⟨this, h9⟩
      · rw [if_neg hfe]; exact h7 v hv h8
theorem count_only {p : Nat → Bool} : ∀ {r : List Nat} {f : Nat}, f < r.length → p (nth r f) = true → (∀ e, e < r.length → p (nth r e) = true → e = f) → r.countP p = 1
  | [], f, h, _, _ => by simp at h
  | x :: r, 0, _, h1, h2 => by
    have hx : p x = true := h1
    rw [List.countP_cons, if_pos hx]
    have : r.countP p = 0 := by
      rw [List.countP_eq_zero]
      intro y hy hpy
      obtain ⟨k, hk, rfl⟩ := List.getElem_of_mem hy
      have := h2 (k + 1) (by simpa using hk) (by
        have : nth (x :: r) (k + 1) = nth r k := rfl
        rw [this, nth_eq hk]; exact hpy)
      omega
    omega
  | x :: r, f + 1, h, h1, h2 => by
    have hx : ¬ p x = true := fun hpx => by
      have := h2 0 (by simp) hpx
      omega
    rw [List.countP_cons, if_neg hx]
    have := count_only (r := r) (f := f) (by simpa using h) h1 (fun e he hpe => by
      have := h2 (e + 1) (by simpa using he) hpe
      omega)
    omega
theorem inU_link {r : List Nat} {v : Nat} : (linkOf r).testBit v = true ↔ inU r v := by
  rw [testBit_linkOf, List.any_eq_true]; rfl
/-- Without holes, and every clique covered: the reduction removes everything. -/
theorem acyc_of (hn : n ≤ 32) (hb : ∀ e ∈ es, e < 2 ^ n) (h0 : cylF (adjRow n es) n = 0) (hc : ∀ S, S < 2 ^ n → Clq es S → sub S (linkOf es) → S ≠ 0 → Cov es S) : Acyc n es := by
  have hss := sane_start (n := n) hb
  obtain ⟨l, r, g, hr, hf⟩ := run_ends hn hss _ (Run.nil (n := n) (r0 := es)) (Nat.le_refl _)
  refine ⟨l, r, g, hr, hf, ?_⟩
  have hk := Keeps.run hn hss hr
  have hs := (hr.sane hn hss).1
  refine Classical.byContradiction fun hno => ?_
  have hVlt : linkOf r < 2 ^ n := linkOf_lt hs.lt
  have hV0 : linkOf r ≠ 0 := by
    intro e
    refine hno fun x hx => Classical.byContradiction fun hx0 => ?_
    obtain ⟨u, hu⟩ := nz_bit hx0
    have : (linkOf r).testBit u = true := inU_link.2 ⟨x, hx, hu⟩
    rw [e] at this; simp at this
  obtain ⟨v, hv, hsim⟩ := dirac (ady hn hb) h0 _ (linkOf r) rfl hVlt hV0
  obtain ⟨N, hN, hNb⟩ := bitset (fun u => (linkOf r).testBit u = true ∧ (u = v ∨ GR (adjRow n es) v u)) n
  have hvn := testBit_lt hVlt hv
  have hNv : N.testBit v = true := (hNb v).2 ⟨hvn, hv, .inl rfl⟩
  have hclq : Clq es N := by
    rw [clq_gr hn hb hN]
    intro a b ha hb2 hab
    obtain ⟨_, a1, a2⟩ := (hNb a).1 ha
    obtain ⟨_, b1, b2⟩ := (hNb b).1 hb2
    rcases a2 with rfl | a2
    · rcases b2 with rfl | b2
      · exact absurd rfl hab
      · exact b2
    · rcases b2 with rfl | b2
      · exact (ady hn hb).sym _ _ a2
      · exact hsim a b a1 b1 a2 b2 hab
  have hlink : sub N (linkOf es) := by
    intro u hu
    obtain ⟨k, hkr, hku⟩ := inU_nth.1 (inU_link.1 ((hNb u).1 hu).2.1)
    exact inU_link.2 (inU_nth.2 ⟨k, by rw [← hk.len]; exact hkr, hk.sb k hkr u hku⟩)
  obtain ⟨e, he, hsub⟩ := hc N hN hclq hlink (fun e => by rw [e] at hNv; simp at hNv)
  obtain ⟨k, hke, rfl⟩ := List.getElem_of_mem he
  obtain ⟨f, hfl, hfg, hfs⟩ := hk.sm k hke
  have hNf : sub N (nth r f) := fun u hu => hfs u (by rw [nth_eq hke]; exact hsub u hu) (inU_link.1 ((hNb u).1 hu).2.1)
  have hfv := hNf v hNv
  have : ∃ e', e' < r.length ∧ (nth r e').testBit v = true ∧ e' ≠ f := by
    refine Classical.byContradiction fun hno2 => hf.2 v hvn ?_
    exact count_only (p := fun x => x.testBit v) hfl hfv (fun e' h1 h2 => Classical.byContradiction fun h3 => hno2 ⟨e', h1, h2, h3⟩)
  obtain ⟨e', h1, h2, h3⟩ := this
  have hsub2 : sub (nth r e') (nth r f) := by
    intro u hu
    refine hNf u ((hNb u).2 ⟨testBit_lt (hs.lt _ (nth_mem h1)) hu, inU_link.2 (inU_nth.2 ⟨e', h1, hu⟩), ?_⟩)
    by_cases huv : u = v
    · exact .inl huv
    · right
      rw [gr_adj hn hb]
      have he' : e' < es.length := by rw [← hk.len]; exact h1
      exact ⟨fun e => huv e.symm, nth es e', nth_mem he', hk.sb e' h1 v h2, hk.sb e' h1 u hu⟩
  have h32 := hs.lt32 hn
  have hz := andn_of_sub (h32 _ (nth_mem h1)) (h32 _ (nth_mem hfl)) hsub2
  have hab : absorbs r g e' f = true := by
    unfold absorbs
    rw [decide_eq_true h3, hs.live_of h1 h2, hfg, decide_eq_true hz]; rfl
  have := hf.1 e' f h1 hfl
  rw [hab] at this; cases this
/-- In an acyclic graph no set of vertices is such that each of them has two neighbours in it that are not adjacent. -/
theorem rip_simp : ∀ {l : List Nat}, rip l → ∀ H : Nat → Prop, (∃ v, H v) → (∀ v, H v → ∃ x y, (H x ∧ H y) ∧ (∃ e ∈ l, e.testBit v = true ∧ e.testBit x = true) ∧ (∃ e ∈ l, e.testBit v = true ∧ e.testBit y = true) ∧ ¬ ∃ e ∈ l, e.testBit x = true ∧ e.testBit y = true) → False
  | [], _, H, ⟨v, hv⟩, h => by
    obtain ⟨_, _, _, ⟨e, he, _⟩, _⟩ := h v hv
    cases he
  | e :: l, ⟨h1, h2⟩, H, hne, h => by
    have hin : ∀ v, H v → inU l v := by
      intro v hv
      obtain ⟨x, y, _, ⟨e1, he1, a1, b1⟩, ⟨e2, he2, a2, b2⟩, hno⟩ := h v hv
      rcases List.mem_cons.1 he1 with rfl | he1
      · rcases List.mem_cons.1 he2 with rfl | he2
        · exact absurd ⟨_, he1, b1, b2⟩ hno
        · exact ⟨e2, he2, a2⟩
      · exact ⟨e1, he1, a1⟩
    have hdown : ∀ u v, H u → H v → (∃ f ∈ e :: l, f.testBit u = true ∧ f.testBit v = true) → ∃ f ∈ l, f.testBit u = true ∧ f.testBit v = true := by
      rintro u v hu hv ⟨f, hf, a, b⟩
      rcases List.mem_cons.1 hf with rfl | hf
      · rcases h1 with h1 | ⟨f', hf', h1⟩
        · subst h1
          obtain ⟨x, hx, _⟩ := hin u hu
          cases hx
        · exact ⟨f', hf', h1 u a (hin u hu), h1 v b (hin v hv)⟩
      · exact ⟨f, hf, a, b⟩
    refine rip_simp h2 H hne fun v hv => ?_
    obtain ⟨x, y, ⟨hx, hy⟩, k1, k2, k3⟩ := h v hv
    exact ⟨x, y, ⟨hx, hy⟩, hdown v x hv hx k1, hdown v y hv hy k2, fun ⟨f, hf, a, b⟩ => k3 ⟨f, by simp [hf], a, b⟩⟩
theorem hole_cyclic (hn : n ≤ 32) (hb : ∀ e ∈ es, e < 2 ^ n) {L : Nat} {p : List Nat} (hp : HoleL (adjRow n es) n L p) : ¬ Acyc n es := by
  rw [acyc_iff hn hb]
  rintro ⟨l, hl, hrip⟩
  have h4 := hp.four
  have hmem : ∀ e, e ∈ es ↔ e ∈ l := fun e => hl.mem_iff
  have hadj : ∀ i j, j < i → i < L → ((∃ e ∈ l, e.testBit (nth p i) = true ∧ e.testBit (nth p j) = true) ↔ (j + 1 = i ∨ (j = 0 ∧ i + 1 = L))) := by
    intro i j hji hi
    rw [← hp.adj i j hji hi, gr_adj hn hb]
    constructor
    · rintro ⟨e, he, a, b⟩; exact ⟨hp.dis i j hji hi, e, (hmem e).2 he, a, b⟩
    · rintro ⟨_, e, he, a, b⟩; exact ⟨e, (hmem e).1 he, a, b⟩
  have hadj2 : ∀ i j, i ≠ j → i < L → j < L → ((∃ e ∈ l, e.testBit (nth p i) = true ∧ e.testBit (nth p j) = true) ↔ (j + 1 = i ∨ i + 1 = j ∨ (j = 0 ∧ i + 1 = L) ∨ (i = 0 ∧ j + 1 = L))) := by
    intro i j hij hi hj
    rcases Nat.lt_or_ge j i with h | h
    · rw [hadj i j h hi]; omega
    · have := hadj j i (by omega) hj
      constructor
      · rintro ⟨e, he, a, b⟩
        have := this.1 ⟨e, he, b, a⟩; omega
      · intro hh
        obtain ⟨e, he, a, b⟩ := this.2 (by omega)
        exact ⟨e, he, b, a⟩
  refine rip_simp hrip (fun v => ∃ i, i < L ∧ v = nth p i) ⟨_, 0, by omega, rfl⟩ ?_
  rintro v ⟨i, hi, rfl⟩
  -- the neighbours in the cycle
  obtain ⟨a, ha⟩ : ∃ a, a = if i + 1 < L then i + 1 else 0 := ⟨_, rfl⟩
  obtain ⟨b, hb'⟩ : ∃ b, b = if i = 0 then L - 1 else i - 1 := ⟨_, rfl⟩
  have hal : a < L ∧ (a = i + 1 ∨ (a = 0 ∧ i + 1 = L)) := by rw [ha]; split <;> omega
  have hbl : b < L ∧ (b + 1 = i ∨ (i = 0 ∧ b + 1 = L)) := by rw [hb']; split <;> omega
  refine ⟨nth p a, nth p b, ⟨⟨a, hal.1, rfl⟩, b, hbl.1, rfl⟩, (hadj2 i a (by omega) hi hal.1).2 (by omega), (hadj2 i b (by omega) hi hbl.1).2 (by omega), fun h => ?_⟩
  have := (hadj2 a b (by omega) hal.1 hbl.1).1 h
  omega
theorem clique_cyclic (hn : n ≤ 32) (hb : ∀ e ∈ es, e < 2 ^ n) {S a b : Nat} (hS : S < 2 ^ n) (hc : Clq es S) (ha : S.testBit a = true) (hb2 : S.testBit b = true) (hab : a ≠ b) (hno : ¬ Cov es S) : ¬ Acyc n es := by
  rw [acyc_iff hn hb]
  rintro ⟨l, hl, hrip⟩
  obtain ⟨e, he, h⟩ := rip_clique hrip (fun v => S.testBit v = true) a b ha hb2 hab fun x y hx hy hxy => by
    obtain ⟨_, e, he, h1, h2⟩ := (gr_adj hn hb).1 ((clq_gr hn hb hS).1 hc x y hx hy hxy)
    exact ⟨e, hl.mem_iff.1 he, h1, h2⟩
  exact hno ⟨e, hl.mem_iff.2 he, fun v hv => h v hv⟩
end
end Go.Proofs.YtjofdlafblpclaaDoor
namespace Go.Proofs.YtjofdlafblpclaaDoor
open Go.RowKit
set_option linter.unusedSimpArgs false
set_option linter.unusedVariables false

def adj31 (es : List Nat) (a b : Nat) : Bool := decide (a ≠ b) && es.any fun e => e.testBit a && e.testBit b
theorem any_take9 (p : Nat → Bool) (l : List Nat) (k : Nat) (h : k < l.length) : (l.take (k + 1)).any p = ((l.take k).any p || p (nth l k)) := by
  rw [List.take_succ_eq_append_getElem h, List.any_append, nth_eq h]; simp
theorem rem_bit (e v : Nat) : (((e : Int) / 2 ^ v).tmod 2 == 1) = e.testBit v := by
  have h1 : ((e : Int) / 2 ^ v) = ((e / 2 ^ v : Nat) : Int) := by simp
  rw [h1, Int.tmod_eq_emod_of_nonneg (Int.natCast_nonneg _), Nat.testBit_eq_decide_div_mod_eq, Bool.eq_iff_iff]
  generalize e / 2 ^ v = q
  simp only [beq_iff_eq, decide_eq_true_eq]
  omega
set_option maxHeartbeats 2000000 in
theorem adj31_any (a b : Nat) (A : Option Addr) (es : List Nat) (len c : Nat) (w : World) (hr : Es w w.heap.size A len es) (ha : a < 32) (hb : b < 32) :
    Calls Tryd.prog 37 #[.slice A len c, .int .i64 a, .int .i64 b] w fun e w' => e = .returned (.bool (adj31 es a b)) ∧ w = w' := by
  have hle := hr.le
  have hlen := hr.len
  have HLEN := Lib.hid hlen; clear hlen
  have HR := Lib.hid hr; clear hr
  have i1 : (0 : Int) ≤ (a : Int) := by omega
  have i2 : (a : Int) < 32 := by omega
  have i3 : (0 : Int) ≤ (b : Int) := by omega
  have i4 : (b : Int) < 32 := by omega
  by_cases hab : a = b
  · have hne : ((a : Int) != (b : Int)) = false := by simp [hab]
    have HAB := Lib.hid hab; clear hab
    go_enter Tryd.func37, Tryd.ntmps37
    go_wp2_with fail
    go_loop [7] (fun i => ∃ k : Nat, k ≤ len ∧ i = .int .i64 k) (fun i => len - (intOf i).toNat)
    case atStart => exact ⟨0, Nat.zero_le _, rfl⟩
    case round =>
      obtain ⟨k, hk, rfl⟩ := hrel
      by_cases hlt : k < len
      · go_wp2_with fail
        exact ⟨⟨k + 1, by omega, by go_num⟩, by simp [intOf]; omega⟩
      · go_wp2_with fail
        go_ret
        exact ⟨ret_bool (by simp [adj31, HAB.out]), rfl⟩
  · have hne : ((a : Int) != (b : Int)) = true := by simp; omega
    have HAB := Lib.hid hab; clear hab
    go_enter Tryd.func37, Tryd.ntmps37
    go_wp2_with fail
    go_loop [7] (fun i => ∃ k : Nat, k ≤ len ∧ i = .int .i64 k ∧ Hid ((es.take k).any (fun e => e.testBit a && e.testBit b) = false)) (fun i => len - (intOf i).toNat)
    case atStart => exact ⟨0, Nat.zero_le _, rfl, Lib.hid rfl⟩
    case round =>
      obtain ⟨k, hk, rfl, HI⟩ := hrel
      by_cases hlt : k < len
      · obtain ⟨ad, rfl, hb1, hcell⟩ := HR.out.at_ hlt
        have hlk : k < es.length := by have := HLEN.out; omega
        have hek := HR.out.lt hlt
        have hst := Lib.hid (any_take9 (fun e => e.testBit a && e.testBit b) es k hlk)
        have j1 : (0 : Int) ≤ (k : Int) := by omega
        have j2 : (k : Int) < (len : Int) := by omega
        have hta := rem_bit (nth es k) a
        have htb := rem_bit (nth es k) b
        cases ha : (nth es k).testBit a with
        | false =>
          rw [ha] at hta
          have HA := Lib.hid ha; clear ha htb
          go_wp2_with fail
          exact ⟨⟨k + 1, by omega, by go_num, Lib.hid (by rw [hst.out, HI.out, HA.out]; rfl)⟩, by simp [intOf]; omega⟩
        | true =>
          rw [ha] at hta
          have HA := Lib.hid ha; clear ha
          cases hb2 : (nth es k).testBit b with
          | false =>
            rw [hb2] at htb
            have HB2 := Lib.hid hb2; clear hb2
            go_wp2_with fail
            exact ⟨⟨k + 1, by omega, by go_num, Lib.hid (by rw [hst.out, HI.out, HA.out, HB2.out]; rfl)⟩, by simp [intOf]; omega⟩
          | true =>
            rw [hb2] at htb
            have HB2 := Lib.hid hb2; clear hb2
            go_wp2_with fail
            go_ret
            refine ⟨ret_bool ?_, rfl⟩
            have : es.any (fun e => e.testBit a && e.testBit b) = true := by
              rw [List.any_eq_true]
              exact ⟨_, nth_mem hlk, by rw [HA.out, HB2.out]; rfl⟩
            simp [adj31, HAB.out, this]
      · go_wp2_with fail
        go_ret
        refine ⟨ret_bool ?_, rfl⟩
        have h1 := HI.out
        rw [List.take_of_length_le (by have := HLEN.out; omega)] at h1
        simp [adj31, h1]
def rowB (es : List Nat) (l : List Int) (i m : Nat) : Bool := (List.range m).all fun k => decide (inth l i ≠ inth l k) && (adj31 es (inth l i).toNat (inth l k).toNat == decide (k + 1 = i))
/-- The reference's Is. -/
def isTo (es : List Nat) (f : Nat) (l : List Int) (k : Nat) : Bool := (List.range k).all fun i => endAt f l i && rowB es l i i
def isB (es : List Nat) (f : Nat) (l : List Int) : Bool := decide (3 ≤ l.length) && isTo es f l l.length
theorem rowB_succ (es : List Nat) (l : List Int) (i m : Nat) : rowB es l i (m + 1) = (rowB es l i m && (decide (inth l i ≠ inth l m) && (adj31 es (inth l i).toNat (inth l m).toNat == decide (m + 1 = i)))) := all_range_succ _ _
theorem isTo_succ (es : List Nat) (f : Nat) (l : List Int) (i : Nat) : isTo es f l (i + 1) = (isTo es f l i && (endAt f l i && rowB es l i i)) := all_range_succ _ _
theorem is_bad {es : List Nat} {f : Nat} {l : List Int} {i : Nat} (hi : i < l.length) (h : (endAt f l i && rowB es l i i) = false) : isB es f l = false := by
  have : isTo es f l l.length = false := by
    cases h2 : isTo es f l l.length with
    | false => rfl
    | true =>
      rw [isTo, List.all_eq_true] at h2
      rw [h2 i (by simpa using hi)] at h; cases h
  rw [isB, this]; simp
theorem row_bad {es : List Nat} {l : List Int} {i j : Nat} (hj : j < i) (h : (decide (inth l i ≠ inth l j) && (adj31 es (inth l i).toNat (inth l j).toNat == decide (j + 1 = i))) = false) : rowB es l i i = false := by
  cases h2 : rowB es l i i with
  | false => rfl
  | true =>
    rw [rowB, List.all_eq_true] at h2
    rw [h2 j (by simpa using hj)] at h; cases h
def rangeTo (n : Int) (l : List Int) (k : Nat) : Bool := (List.range k).all fun j => decide (0 ≤ inth l j) && decide (inth l j < n)
theorem rangeTo_succ (n : Int) (l : List Int) (k : Nat) : rangeTo n l (k + 1) = (rangeTo n l k && (decide (0 ≤ inth l k) && decide (inth l k < n))) := all_range_succ _ _
theorem rangeTo_at {n : Int} {l : List Int} {m k : Nat} (h : rangeTo n l m = true) (hk : k < m) : 0 ≤ inth l k ∧ inth l k < n := by
  rw [rangeTo, List.all_eq_true] at h
  have := h k (by simpa using hk)
  simpa using this
theorem okTo_range {n : Nat} {l : List Int} (h : rangeTo n l l.length = false) : okTo n l l.length = false := by
  cases h2 : okTo n l l.length with
  | false => rfl
  | true =>
    have : rangeTo n l l.length = true := by
      rw [rangeTo, List.all_eq_true]
      intro k hk
      rw [okTo, List.all_eq_true] at h2
      have := h2 k hk
      simp only [okAt, Bool.and_eq_true] at this
      rw [this.1, this.2.1]; rfl
    rw [this] at h; cases h
theorem link_adj {n : Nat} {es : List Nat} {l : List Int} {i j : Nat} (hn : n ≤ 32) (hb : ∀ e ∈ es, e < 2 ^ n) (hi : 0 ≤ inth l i ∧ inth l i < n) : linkL (adjRow n es) l i j = adj31 es (inth l i).toNat (inth l j).toNat := by
  have hi2 : (inth l i).toNat < n := by omega
  rw [linkL, nth_adjRow (by omega), if_pos hi2, Bool.eq_iff_iff, adj_bit (fun e he => Nat.lt_of_lt_of_le (hb e he) (two_pow_le hn)) (by omega)]
  simp only [adj31, Bool.and_eq_true, decide_eq_true_eq, List.any_eq_true]
  constructor
  · rintro ⟨h1, e, h2, h3, h4⟩; exact ⟨fun h => h1 h.symm, e, h2, h3, h4⟩
  · rintro ⟨h1, e, h2, h3, h4⟩; exact ⟨fun h => h1 h.symm, e, h2, h3, h4⟩
theorem chk_is {n f : Nat} {es : List Nat} {l : List Int} (hn : n ≤ 32) (hb : ∀ e ∈ es, e < 2 ^ n) (h : rangeTo n l l.length = true) : chkW (adjRow n es) n f l = isB es f l := by
  rw [chkW, isB, Bool.eq_iff_iff]
  simp only [Bool.and_eq_true, okTo, wayTo, isTo, stepAt, rowB, List.all_eq_true, List.mem_range]
  constructor
  · rintro ⟨h0, h1, h2⟩
    refine ⟨h0, fun i hi => ⟨(h2 i hi).1, fun j hj => ?_⟩⟩
    have a1 := h1 i hi
    simp only [okAt, Bool.and_eq_true, List.all_eq_true, List.mem_range] at a1
    have a2 := a1.2.2 j hj
    have a3 := (h2 i hi).2 j hj
    rw [link_adj hn hb (rangeTo_at h hi)] at a3
    refine ⟨?_, a3⟩
    simp only [bne_iff_ne, ne_eq] at a2
    simp only [ne_eq, decide_eq_true_eq]
    exact fun he => a2 he.symm
  · rintro ⟨h0, h1⟩
    refine ⟨h0, fun i hi => ?_, fun i hi => ⟨(h1 i hi).1, fun j hj => ?_⟩⟩
    · simp only [okAt, Bool.and_eq_true, List.all_eq_true, List.mem_range]
      have h2 := rangeTo_at h hi
      refine ⟨decide_eq_true h2.1, decide_eq_true h2.2, fun j hj => ?_⟩
      have a1 := ((h1 i hi).2 j hj).1
      simp only [ne_eq, decide_eq_true_eq] at a1
      simp only [bne_iff_ne, ne_eq]
      exact fun he => a1 he.symm
    · rw [link_adj hn hb (rangeTo_at h hi)]
      exact ((h1 i hi).2 j hj).2
set_option maxRecDepth 100000 in
set_option maxHeartbeats 8000000 in
theorem is31_any (n f : Nat) (A : Option Addr) (es : List Nat) (len c : Nat) (B : Option Addr) (xs : List Int) (m d : Nat) (w : World) (hr : Es w w.heap.size A len es) (hx : Xs w w.heap.size B m xs) (hok : rangeTo n xs xs.length = true) (hn : n ≤ 32) :
    Calls Tryd.prog 20 #[.slice A len c, .int .i64 f, .slice B m d] w fun e w' => e = .returned (.bool (isB es f xs)) ∧ Below w.heap.size w w' := by
  have hm9 := hx.le
  have HML := Lib.hid hx.len
  have HX := Lib.hid hx; clear hx
  have HR := Lib.hid hr; clear hr
  have HOK := Lib.hid hok; clear hok
  by_cases hm3 : m < 3
  · have t3 : decide ((m : Int) < 3) = true := by simp; omega
    have HF := Lib.hid (show isB es f xs = false by
      rw [isB, decide_eq_false (by have := HML.out; omega)]; rfl)
    go_enter Tryd.func20, Tryd.ntmps20
    go_wp2_with fail
    go_ret
    exact ⟨ret_bool9 HF.out, Below.refl _ _⟩
  have t3 : decide ((m : Int) < 3) = false := by simp; omega
  go_enter Tryd.func20, Tryd.ntmps20
  go_wp2_with fail
  clear t3
  go_loopw [7] (fun iv wr => ∃ (i : Nat), iv = .int .i64 i ∧ i ≤ m ∧ Hid (isTo es f xs i = true ∧ Below w.heap.size w wr)) (fun iv _ => m - (intOf iv).toNat)
  case atStart => exact ⟨0, rfl, Nat.zero_le _, Lib.hid ⟨rfl, Below.refl _ _⟩⟩
  case round =>
    obtain ⟨i, rfl, hi, HI⟩ := hrel
    by_cases him : i < m
    · obtain ⟨yi, hyi⟩ := Int.eq_ofNat_of_zero_le (rangeTo_at HOK.out (show i < xs.length by have := HML.out; omega)).1
      have hyin : yi < n := by have := (rangeTo_at HOK.out (show i < xs.length by have := HML.out; omega)).2; omega
      obtain ⟨ad, rfl, hb1, hcell⟩ := (HX.out.new HI.out.2).at_ him
      rw [hyi] at hcell
      have HYI := Lib.hid hyi; clear hyi
      have HEND := Lib.hid (show endAt f xs i = (decide (i = 0 ∨ i + 1 = m) == decide (yi < f)) by
        rw [endAt, HYI.out, HML.out]; congr 1; rw [Bool.eq_iff_iff]; simp)
      have HILT := Lib.hid (show i < xs.length by have := HML.out; omega)
      have t1 : ((i : Int) == 0) = decide (i = 0) := by rw [Bool.eq_iff_iff]; simp
      have t3 : ((i : Int) == (m : Int) - 1) = decide (i + 1 = m) := by rw [Bool.eq_iff_iff]; simp; omega
      have HOR := Lib.hid (show decide (i = 0 ∨ i + 1 = m) = (decide (i = 0) || decide (i + 1 = m)) by rw [Bool.eq_iff_iff]; simp)
      rw [HOR.out] at HEND
      clear HOR
      have i5 : (0 : Int) ≤ (i : Int) := by omega
      have i6 : (i : Int) < (m : Int) := by omega
      generalize hd1 : decide (i = 0) = d1 at *
      generalize hd3 : decide (i + 1 = m) = d3 at *
      generalize hd4 : decide (yi < f) = d4 at *
      clear hd1 hd3
      by_cases he : (d1 || d3) = d4
      · have HEN := Lib.hid (show endAt f xs i = true by rw [HEND.out, he]; simp)
        obtain ⟨wo, rfl⟩ : ∃ wo : World, wo = wr := ⟨_, rfl⟩
        clear HEND
        cases d1 <;> cases d3 <;> cases d4 <;> simp at he
        all_goals
          go_wp2_with fail
          clear hcell t1 t3 hd4 hb1
          go_loopw [9] (fun jv wr => ∃ (j : Nat), jv = .int .i64 j ∧ j ≤ i ∧ Hid (rowB es xs i j = true ∧ Below w.heap.size w wr)) (fun jv _ => i - (intOf jv).toNat)
          case atStart => exact ⟨0, rfl, Nat.zero_le _, Lib.hid ⟨rfl, HI.out.2⟩⟩
          case round =>
            obtain ⟨j, rfl, hj, HJ⟩ := hrel
            by_cases hji : j < i
            · obtain ⟨yj, hyj⟩ := Int.eq_ofNat_of_zero_le (rangeTo_at HOK.out (show j < xs.length by have := HML.out; omega)).1
              have hyjn : yj < n := by have := (rangeTo_at HOK.out (show j < xs.length by have := HML.out; omega)).2; omega
              obtain ⟨ad', e', hb1', hcell⟩ := (HX.out.new HJ.out.2).at_ (show j < m by omega)
              injection e' with e'
              subst e'
              obtain ⟨ad', e', hb1', hcelli⟩ := (HX.out.new HJ.out.2).at_ (show i < m by omega)
              injection e' with e'
              subst e'
              rw [hyj] at hcell
              rw [HYI.out] at hcelli
              have HYJ := Lib.hid hyj; clear hyj
              have HLK := Lib.hid (show adj31 es (inth xs i).toNat (inth xs j).toNat = adj31 es yi yj by rw [HYI.out, HYJ.out]; rfl)
              have HNE := Lib.hid (show decide (inth xs i ≠ inth xs j) = decide (yi ≠ yj) by rw [HYI.out, HYJ.out, Bool.eq_iff_iff]; simp; omega)
              have j1 : (0 : Int) ≤ (j : Int) := by omega
              have j2 : (j : Int) < (m : Int) := by omega
              have t1 : ((j : Int) == (i : Int) - 1) = decide (j + 1 = i) := by rw [Bool.eq_iff_iff]; simp; omega
              have HBAD := Lib.hid (fun (h : (decide (yi ≠ yj) && (adj31 es yi yj == decide (j + 1 = i))) = false) => show isB es f xs = false from is_bad HILT.out (by rw [row_bad hji (by rw [HLK.out, HNE.out]; exact h)]; simp))
              have HNX := Lib.hid (fun (h : (decide (yi ≠ yj) && (adj31 es yi yj == decide (j + 1 = i))) = true) => show rowB es xs i (j + 1) = true by rw [rowB_succ, HJ.out.1, HLK.out, HNE.out, h]; rfl)
              have HAD := Lib.hid (fun W (h : Below w.heap.size w W) => adj31_any yi yj (A := A) (es := es) (len := len) (c := c) W (HR.out.new h) (by omega) (by omega))
              generalize hdd : decide (j + 1 = i) = d5 at *
              clear hdd HLK HNE
              by_cases hq : yi = yj
              · have t2 : ((yi : Int) == (yj : Int)) = true := by simp [hq]
                have HF := Lib.hid (HBAD.out (by rw [decide_eq_false (by omega)]; rfl))
                clear hq
                go_wp2_with fail
                go_quiet (fail)
                go_wp2_with fail
                go_ret
                exact ⟨ret_bool9 HF.out, below_drewN HJ.out.2 _⟩
              · have t2 : ((yi : Int) == (yj : Int)) = false := by simp; omega
                have HQ := Lib.hid (show decide (yi ≠ yj) = true from decide_eq_true hq)
                clear hq
                go_wp2_with fail
                go_quiet ((go_at_call 37; exact quiet_left (HAD.out _ (below_drewN HJ.out.2 _))))
                generalize adj31 es yi yj = lb at *
                cases lb <;> cases d5
                · have HN := Lib.hid (HNX.out (by rw [HQ.out]; rfl))
                  go_wp2_with fail
                  exact ⟨⟨j + 1, by go_num, by omega, Lib.hid ⟨HN.out, below_drewN HJ.out.2 _⟩⟩, by simp [intOf]; omega⟩
                · have HF := Lib.hid (HBAD.out (by rw [HQ.out]; rfl))
                  go_wp2_with fail
                  go_ret
                  exact ⟨ret_bool9 HF.out, below_drewN HJ.out.2 _⟩
                · have HF := Lib.hid (HBAD.out (by rw [HQ.out]; rfl))
                  go_wp2_with fail
                  go_ret
                  exact ⟨ret_bool9 HF.out, below_drewN HJ.out.2 _⟩
                · have HN := Lib.hid (HNX.out (by rw [HQ.out]; rfl))
                  go_wp2_with fail
                  exact ⟨⟨j + 1, by go_num, by omega, Lib.hid ⟨HN.out, below_drewN HJ.out.2 _⟩⟩, by simp [intOf]; omega⟩
            · obtain rfl : j = i := by omega
              have HW5 := Lib.hid (show isTo es f xs (j + 1) = true by rw [isTo_succ, HI.out.1, HEN.out, HJ.out.1]; rfl)
              go_wp2_with fail
              exact ⟨⟨j + 1, by go_num, by omega, Lib.hid ⟨HW5.out, HJ.out.2⟩⟩, by simp [intOf]; omega⟩
      · have HF := Lib.hid (show isB es f xs = false from is_bad HILT.out (by rw [HEND.out]; cases d1 <;> cases d3 <;> cases d4 <;> simp at he ⊢))
        cases d1 <;> cases d3 <;> cases d4 <;> simp at he
        all_goals
          go_wp2_with fail
          go_ret
          exact ⟨ret_bool9 HF.out, HI.out.2⟩
    · obtain rfl : m = i := by omega
      have HF := Lib.hid (show isB es f xs = true by
        rw [isB, decide_eq_true (by have := HML.out; omega), ← HML.out, HI.out.1]; rfl)
      go_wp2_with fail
      go_ret
      exact ⟨ret_bool9 HF.out, HI.out.2⟩
end Go.Proofs.YtjofdlafblpclaaDoor
