/-
Regions that draw their order in which some operations (appends to own rows) change older blocks: each operation is met once.
Appends to own rows as values; a problem that is made row by row (the dual one).
Contract of law28.dot. Regions printed by gen/sx.py.
Contracts of law28.primal and dual: the true case. Printed by gen/spd.py.
The walk of law28.SimplexDuals. Printed by gen/slaw.py.
-/
import Derived.Test.YtamcibmjpmibdaaK5
import Derived.Test.YtamcibmjpmibdaaK16
import Derived.Test.YtamcibmjpmibdaaK9
import Derived.Test.YtamcibmjpmibdaaK14
namespace Go.Proofs.Ytamcibmjpmibdaa
open Go.RowKit
set_option linter.unusedVariables false

/-- What an operation may change: special ones as 'sp' says, the others nothing that stands. -/
def touch (sp : List (Nat × (World → World → Prop))) (i : Nat) : World → World → Prop := (sp.lookup i).getD fun w w' => Below w.heap.size w w'
/-- What has to be shown of one operation. -/
def ObT (P : Program) (ops : Array Oper) (I : World → Prop) (E : Nat → World → Prop) (av : Nat → Bool) (env : List (Tmp × Value)) (R : List (Value → World → Prop)) (o : Oper) (ks : List (Nat × Tmp)) (Ri : Value → World → Prop) (T : World → World → Prop) : Prop :=
  ∀ (a : Act) (w : World), I w → (∀ e, av e = true → E e w) → envFacts a env → depFacts R a w ks →
    if Region.wanted o (yielded ops a.tmps) = true then gives P o a.eval w (fun v w' => Ri v w' ∧ T w w') else Ri undef w
/-- Operation i comes ahead of what ends E e. -/
def availB (ops : Array Oper) (ek : List (Nat × Nat)) (i e : Nat) : Bool := ek.all fun p => p.2 != e || p.1 == i || (ancs ops p.1).contains i
def ObsT (P : Program) (ops : Array Oper) (I : World → Prop) (E : Nat → World → Prop) (ek : List (Nat × Nat)) (env : List (Tmp × Value)) (R : List (Value → World → Prop)) (sp : List (Nat × (World → World → Prop))) : Nat → List Oper → List (List (Nat × Tmp)) → List (Value → World → Prop) → Prop
  | i, o :: l, ks :: r, Ri :: q => ObT P ops I E (availB ops ek i) env R o ks Ri (touch sp i) ∧ ObsT P ops I E ek env R sp (i + 1) l r q
  | _, _, [], [] => True
  | _, _, _, _ => False
theorem obsT_get {P : Program} {ops : Array Oper} {I : World → Prop} {E : Nat → World → Prop} {ek : List (Nat × Nat)} {env : List (Tmp × Value)} {R : List (Value → World → Prop)} {sp : List (Nat × (World → World → Prop))} : ∀ (l : List Oper) (kss : List (List (Nat × Tmp))) (q : List (Value → World → Prop)) (n : Nat), ObsT P ops I E ek env R sp n l kss q →
    ∀ i o ks, l[i]? = some o → kss[i]? = some ks → ObT P ops I E (availB ops ek (n + i)) env R o ks (q.getD i (fun _ _ => True)) (touch sp (n + i))
  | o :: l, ks :: r, Ri :: q, n, ⟨h1, h2⟩, 0, o', ks', ho, hk => by simp at ho hk; subst ho; subst hk; exact h1
  | o :: l, ks :: r, Ri :: q, n, ⟨h1, h2⟩, i + 1, o', ks', ho, hk => by
    have := obsT_get l r q (n + 1) h2 i o' ks' (by simpa using ho) (by simpa using hk)
    rw [show n + (i + 1) = n + 1 + i by omega]
    simpa using this
  | _, [], _, _, _, i, o', ks', _, hk => by simp at hk
  | [], _ :: _, _, _, h, _, _, _, ho, _ => by simp at ho
  | _ :: _, _ :: _, [], _, h, _, _, _, _, _ => by simp [ObsT] at h
/-- Each fact is kept by a special operation, but those that it ends. -/
def StabT (I : World → Prop) (T : World → World → Prop) (skip : Nat → Bool) : Nat → List (Value → World → Prop) → Prop
  | _, [] => True
  | k, Ri :: q => (skip k = true ∨ ∀ v w w', I w → Ri v w → T w w' → Ri v w') ∧ StabT I T skip (k + 1) q
theorem stabT_get {I : World → Prop} {T : World → World → Prop} {skip : Nat → Bool} : ∀ {R : List (Value → World → Prop)} {n : Nat}, StabT I T skip n R → ∀ i v w w', skip (n + i) = false → I w → factAt R i v w → T w w' → factAt R i v w'
  | [], _, _, i, v, w, w', _, _, _, _ => by simp [factAt]
  | Ri :: q, n, ⟨h1, h2⟩, 0, v, w, w', hs, hi, h, hb => by
    rcases h1 with h1 | h1
    · rw [Nat.add_zero] at hs; rw [hs] at h1; cases h1
    · simpa [factAt] using h1 v w w' hi (by simpa [factAt] using h) hb
  | Ri :: q, n, ⟨h1, h2⟩, i + 1, v, w, w', hs, hi, h, hb => by
    have := stabT_get h2 i v w w' (by rw [show n + 1 + i = n + (i + 1) by omega]; exact hs) hi (by simpa [factAt] using h) hb
    simpa [factAt] using this
def AllT (I : World → Prop) (E : Nat → World → Prop) (ek : List (Nat × Nat)) (R : List (Value → World → Prop)) (kl : List (Nat × Nat)) : List (Nat × (World → World → Prop)) → Prop
  | [] => True
  | (s, T) :: r => ((∀ w w', I w → T w w' → I w') ∧ (∀ e w w', ek.contains (s, e) = false → I w → E e w → T w w' → E e w') ∧ StabT I T (fun j => j == s || kl.contains (s, j)) 0 R) ∧ AllT I E ek R kl r
theorem allT_get {I : World → Prop} {E : Nat → World → Prop} {ek : List (Nat × Nat)} {R : List (Value → World → Prop)} {kl : List (Nat × Nat)} : ∀ {sp : List (Nat × (World → World → Prop))}, AllT I E ek R kl sp → ∀ {i : Nat} {T : World → World → Prop}, sp.lookup i = some T → (∀ w w', I w → T w w' → I w') ∧ (∀ e w w', ek.contains (i, e) = false → I w → E e w → T w w' → E e w') ∧ StabT I T (fun j => j == i || kl.contains (i, j)) 0 R
  | [], _, i, T, h => by cases h
  | (s, T') :: r, ⟨h1, h2⟩, i, T, h => by
    rw [List.lookup_cons] at h
    by_cases hs : i = s
    · subst hs; simp at h; subst h; exact h1
    · have : (i == s) = false := by simp [hs]
      rw [this] at h
      exact allT_get h2 h
/-- A fact that ends is looked at only by the operation that ends it, or by earlier ones; or it comes up behind that operation. -/
def killB (ops : Array Oper) (m : Nat) (kl : List (Nat × Nat)) : Bool :=
  kl.all fun p => decide (p.1 < m) && ((ancs ops p.2).contains p.1 || (List.range m).all fun i => !((looksDeps ops m i).any fun k => k.1 == p.2) || i == p.1 || (ancs ops p.1).contains i)
/-- What still holds behind the operations. -/
def liveB (ops : Array Oper) (kl : List (Nat × Nat)) (i : Nat) : Bool := kl.all fun p => p.2 != i || (ancs ops i).contains p.1

theorem obT_plain {P : Program} {ops : Array Oper} {I : World → Prop} {E : Nat → World → Prop} {av : Nat → Bool} {env : List (Tmp × Value)} {R : List (Value → World → Prop)} {o : Oper} {ks : List (Nat × Tmp)} {Ri : Value → World → Prop} {sp : List (Nat × (World → World → Prop))} {i : Nat} (hl : (sp.lookup i).isNone = true)
    (h : ∀ (a : Act) (w : World), I w → (∀ e, av e = true → E e w) → envFacts a env → depFacts R a w ks → if Region.wanted o (yielded ops a.tmps) = true then gives P o a.eval w (fun v w' => Ri v w' ∧ Below w.heap.size w w') else Ri undef w) : ObT P ops I E av env R o ks Ri (touch sp i) := by
  have : touch sp i = fun w w' => Below w.heap.size w w' := by unfold touch; rw [Option.isNone_iff_eq_none.1 hl]; rfl
  rw [this]
  exact h
theorem obT_spec {P : Program} {ops : Array Oper} {I : World → Prop} {E : Nat → World → Prop} {av : Nat → Bool} {env : List (Tmp × Value)} {R : List (Value → World → Prop)} {o : Oper} {ks : List (Nat × Tmp)} {Ri : Value → World → Prop} {sp : List (Nat × (World → World → Prop))} {i : Nat} {T : World → World → Prop} (hl : sp.lookup i = some T) (hg : o.guard = none)
    (h : ∀ (a : Act) (w : World), I w → (∀ e, av e = true → E e w) → envFacts a env → depFacts R a w ks → gives P o a.eval w (fun v w' => Ri v w' ∧ T w w')) : ObT P ops I E av env R o ks Ri (touch sp i) := by
  have : touch sp i = T := by unfold touch; rw [hl]; rfl
  rw [this]
  exact fun a w hI hE he hd => by rw [if_pos (by simp [Region.wanted, hg])]; exact h a w hI hE he hd
section
variable {P : Program} {env : List (Tmp × Value)} {R : List (Value → World → Prop)} {m : Nat} {I : World → Prop} {sp : List (Nat × (World → World → Prop))} {kl ek : List (Nat × Nat)} {E : Nat → World → Prop}
theorem touch_keep (hIB : ∀ w w', I w → Below w.heap.size w w' → I w') (hEB : ∀ e w w', E e w → Below w.heap.size w w' → E e w') (hst : Stab R) (hsp : AllT I E ek R kl sp) {i : Nat} {w w' : World} (hi : I w) (ht : touch sp i w w') : I w' ∧ (∀ e, ek.contains (i, e) = false → E e w → E e w') ∧ ∀ j v, j ≠ i → kl.contains (i, j) = false → factAt R j v w → factAt R j v w' := by
  unfold touch at ht
  cases hl : sp.lookup i with
  | none =>
    rw [hl] at ht
    exact ⟨hIB w w' hi ht, fun e _ h => hEB e w w' h ht, fun j v _ _ h => stab_get hst j v w w' h ht⟩
  | some T =>
    rw [hl] at ht
    obtain ⟨h1, h3, h2⟩ := allT_get hsp hl
    exact ⟨h1 w w' hi ht, fun e he h => h3 e w w' he hi h ht, fun j v hj hk h => stabT_get h2 j v w w' (by simp [hj]; simpa using hk) hi h ht⟩
theorem joinT_go {l : List Oper} {Q : Exit → Act → World → Prop} {a0 : Act} {sz : Nat} {kss : List (List (Nat × Tmp))} (hB : joinB l.toArray m sz kss (env.map (·.1)) [] = true) (hK : killB l.toArray m kl = true) (hsz : a0.tmps.size = sz) (henv : envFacts a0 env)
    (hIB : ∀ w w', I w → Below w.heap.size w w' → I w') (hEB : ∀ e w w', E e w → Below w.heap.size w w' → E e w') (hst : Stab R) (hsp : AllT I E ek R kl sp) (hob : ObsT P l.toArray I E ek env R sp 0 l kss R)
    (fin : ∀ vs w, I w → (∀ i, i < m → liveB l.toArray kl i = true → factAt R i (vs i) w) → wpAnyH P .any l.toArray Q (fun _ => True) (l.length - m) (listM l.length m) (putsL vs 0 (l.take m) a0) w) :
    ∀ (fuel : Nat) (listed : Array Bool) (vs : Nat → Value) (w : World), listed.size = l.length → (∀ j, m ≤ j → listed.getD j false = false) → (∀ k, listed.getD k false = true → ∀ i ∈ waitsFor l.toArray k, listed.getD i false = true) → fuel = l.length - m + left (fun i => listed.getD i false) m → I w → (∀ e, (∀ p ∈ ek, p.2 = e → listed.getD p.1 false = false) → E e w) →
      (∀ i, i < m → listed.getD i false = true → (∀ p ∈ kl, p.2 = i → listed.getD p.1 false = true → (ancs l.toArray i).contains p.1 = true) → factAt R i (vs i) w) → wpAnyH P .any l.toArray Q (fun _ => True) fuel listed (stOf l.toArray a0 vs (fun i => listed.getD i false) m) w := by
  simp only [joinB, Bool.and_eq_true, decide_eq_true_eq, List.all_eq_true, List.mem_range, List.size_toArray] at hB
  obtain ⟨⟨⟨⟨⟨⟨⟨hm, hns⟩, hts⟩, hdis⟩, hdep⟩, hkss⟩, hrest⟩, hfree⟩ := hB
  have hkss : (List.range m).map (looksDeps l.toArray m) = kss := by simpa using hkss
  have hdist : ∀ i j, i < m → j < m → j ≠ i → dstOf l.toArray i = none ∨ dstOf l.toArray i ≠ dstOf l.toArray j := by
    intro i j hi hj hji
    have := hdis i hi j hj
    simp only [Bool.or_eq_true, beq_iff_eq, bne_iff_ne] at this
    rcases this with (h | h) | h
    · exact absurd h.symm hji
    · exact .inl h
    · exact .inr h
  have last : ∀ (fuel : Nat) (listed : Array Bool) (vs : Nat → Value) (w : World), listed.size = l.length → (∀ j, m ≤ j → listed.getD j false = false) → fuel = l.length - m + left (fun i => listed.getD i false) m → I w →
      (∀ i, i < m → listed.getD i false = true → (∀ p ∈ kl, p.2 = i → listed.getD p.1 false = true → (ancs l.toArray i).contains p.1 = true) → factAt R i (vs i) w) → left (fun i => listed.getD i false) m = 0 → wpAnyH P .any l.toArray Q (fun _ => True) fuel listed (stOf l.toArray a0 vs (fun i => listed.getD i false) m) w := by
    intro fuel listed vs w hls hj hf hI hR h0
    have hall := left_zero m h0
    have e1 : listed = listM l.length m := by
      apply Array.ext
      · simp [hls, listM]; omega
      · intro i h1 h2
        have h3 := listM_get l.length m i false hm
        have h4 : listed.getD i false = listed[i] := by simp [h1]
        have h5 : (listM l.length m).getD i false = (listM l.length m)[i] := by simp [h2]
        rw [← h4, ← h5, h3]
        by_cases hi : i < m
        · rw [if_pos hi]; exact hall i hi
        · rw [if_neg hi, hj i (by omega)]; split <;> rfl
    have := fin vs w hI (fun i hi hlive => hR i hi (hall i hi) (fun p hp hpi _ => by
      simp only [liveB, List.all_eq_true, Bool.or_eq_true, bne_iff_ne] at hlive
      exact (hlive p hp).resolve_left (fun h => h hpi)))
    rw [show l.length - m = fuel by omega] at this
    rw [e1]
    rw [st_congr (vs' := vs) (L' := fun _ => true) a0 m (fun i hi => ⟨by rw [← e1]; exact hall i hi, fun _ => rfl⟩), st_all l a0 vs m hm]
    exact this
  intro fuel
  induction fuel with
  | zero =>
    intro listed vs w hls hj hcl hf hI hEx hR
    exact last 0 listed vs w hls hj hf hI hR (by omega)
  | succ fuel ih =>
    intro listed vs w hls hj hcl hf hI hEx hR
    by_cases h0 : left (fun i => listed.getD i false) m = 0
    · exact last (fuel + 1) listed vs w hls hj hf hI hR h0
    · obtain ⟨q, hq, hql, hqb⟩ := left_pos m h0
      have hqget : l.toArray[q]? = some l[q] := by simp [show q < l.length by omega]
      have hqr : q ∈ Region.ready .any l.toArray listed := by
        refine mem_ready.2 ⟨?_, l[q], hqget, fun e he hbe => ?_⟩
        · have : listed.getD q false = listed.getD q true := by simp [show q < listed.size by omega]
          rw [← this]; exact hql
        · have h1 := hdep q hq
          rw [hqget] at h1
          simp only [Bool.and_eq_true, Array.all_eq_true_iff_forall_mem, Bool.or_eq_true, Bool.not_eq_true', decide_eq_true_eq] at h1
          rcases h1.1 e he with h2 | h2
          · rw [hbe] at h2; cases h2
          · exact hqb _ h2
      refine ⟨fun hnil => (by rw [hnil] at hqr; cases hqr), fun i hi => ?_⟩
      obtain ⟨hun, o, ho, hall⟩ := mem_ready.1 hi
      have hil : i < listed.size := by
        rcases Nat.lt_or_ge i listed.size with h | h
        · exact h
        · simp [h] at hun
      have hun' : listed.getD i false = false := by simpa [hil] using hun
      have him : i < m := by
        rcases Nat.lt_or_ge i m with h | h
        · exact h
        · exfalso
          have h1 := hrest (i - m) (by omega) q hq
          simp only [Bool.or_eq_true, List.contains_iff_mem, List.not_mem_nil, false_or] at h1
          rw [show m + (i - m) = i by omega] at h1
          have h2 := ancs_all (fun k => listed.getD k false = true) (waits_of ho hall) hcl q h1
          rw [hql] at h2
          cases h2
      have hdo : dstOf l.toArray i = o.dst := by simp only [dstOf, ho]; rfl
      have hanc : ∀ k, listed.getD k false = true → ∀ x ∈ ancs l.toArray k, listed.getD x false = true := fun k hk => ancs_all (fun k => listed.getD k false = true) (hcl k hk) hcl
      have hmem : ∀ k ∈ looksDeps l.toArray m i, k.1 < m ∧ dstOf l.toArray k.1 = some k.2 ∧ listed.getD k.1 false = true := by
        intro k hk
        have h1 := hdep i him
        rw [ho] at h1
        simp only [Bool.and_eq_true, List.all_eq_true] at h1
        have h2 := h1.2 k hk
        rw [Array.any_eq_true'] at h2
        obtain ⟨e, he, h3⟩ := h2
        simp only [Bool.and_eq_true, beq_iff_eq] at h3
        have h4 := hall e he h3.1
        rw [h3.2] at h4
        simp only [looksDeps, ho, List.mem_filterMap, List.mem_range] at hk
        obtain ⟨x, hx, hx2⟩ := hk
        cases hd : dstOf l.toArray x with
        | none => rw [hd] at hx2; cases hx2
        | some t =>
          rw [hd] at hx2
          simp only at hx2
          split at hx2
          · injection hx2 with hx2; subst hx2; exact ⟨hx, hd, h4⟩
          · cases hx2
      have hE : envFacts (stOf l.toArray a0 vs (fun i => listed.getD i false) m) env := envFacts_keep (fun t ht => st_out a0 m (fun j hj' hd => by
          have := hts j hj'
          rw [hd] at this
          simp only [Bool.and_eq_true, Bool.not_eq_true', ← Bool.not_eq_true, List.contains_iff_mem] at this
          exact this.2 ht)) henv
      have hD : depFacts R (stOf l.toArray a0 vs (fun i => listed.getD i false) m) w (looksDeps l.toArray m i) := depFacts_all _ (fun k hk => by
          obtain ⟨h1, h2, h3⟩ := hmem k hk
          have ht := hts k.1 h1
          rw [h2] at ht
          simp only [Bool.and_eq_true, decide_eq_true_eq] at ht
          rw [st_in (vs := vs) a0 m h1 h2 h3 (by rw [hsz]; exact ht.1) (fun j hj' hjk hd => by
            rcases hdist k.1 j h1 hj' hjk with h | h
            · rw [h2] at h; cases h
            · exact h (by rw [h2, hd]))]
          refine hR _ h1 h3 (fun p hp hpk hpl => ?_)
          simp only [killB, List.all_eq_true, Bool.and_eq_true, Bool.or_eq_true, List.mem_range, decide_eq_true_eq, beq_iff_eq, Bool.not_eq_true'] at hK
          rcases (hK p hp).2 with h | h
          · rw [← hpk]; exact h
          · exfalso
            rcases h i him with (h | h) | h
            · have : ((looksDeps l.toArray m i).any fun k => k.1 == p.2) = true := List.any_eq_true.2 ⟨k, hk, by simp [hpk]⟩
              rw [this] at h; cases h
            · rw [h, hpl] at hun'; cases hun'
            · have := hanc p.1 hpl i (by simpa using h)
              rw [hun'] at this; cases this)
      have hAv : ∀ e, availB l.toArray ek i e = true → E e w := fun e he => hEx e (fun p hp hpe => by
        simp only [availB, List.all_eq_true, Bool.or_eq_true, bne_iff_ne, beq_iff_eq, List.contains_iff_mem] at he
        rcases he p hp with (h | h) | h
        · exact absurd hpe h
        · rw [h]; exact hun'
        · cases hl : listed.getD p.1 false with
          | false => rfl
          | true => have := hanc p.1 hl i h; rw [hun'] at this; cases this)
      have next : ∀ v w', factAt R i v w' → I w' → (∀ e, ek.contains (i, e) = false → E e w → E e w') → (∀ j u, j ≠ i → kl.contains (i, j) = false → factAt R j u w → factAt R j u w') → wpAnyH P .any l.toArray Q (fun _ => True) fuel (listed.setIfInBounds i true) ((stOf l.toArray a0 vs (fun i => listed.getD i false) m).put o.dst v) w' := by
        intro v w' hv hI' hEk hkeep
        have hsame : ∀ j, j ≠ i → (listed.setIfInBounds i true).getD j false = listed.getD j false := by
          intro j hji
          simp only [Array.getD_eq_getD_getElem?]; rw [Array.getElem?_setIfInBounds_ne (Ne.symm hji)]
        have hself : (listed.setIfInBounds i true).getD i false = true := by simp [hil]
        have h1 := ih (listed.setIfInBounds i true) (upd vs i v) w' (by simp [hls]) (fun j hj' => by
          rw [hsame j (by omega)]; exact hj j hj') (fun k hk => by
            by_cases hki : k = i
            · subst hki
              intro x hx
              have hx' := waits_of ho (L := fun x => listed.getD x false = true) hall x hx
              by_cases hxi : x = k
              · subst hxi; rw [hun'] at hx'; cases hx'
              · rw [hsame x hxi]; exact hx'
            · intro x hx
              have hx' := hcl k (by rw [← hsame k hki]; exact hk) x hx
              by_cases hxi : x = i
              · subst hxi; rw [hun'] at hx'; cases hx'
              · rw [hsame x hxi]; exact hx') (by rw [listed_upd _ _ hil]; have := left_upd (L := fun i => listed.getD i false) m him hun'; omega) hI' (fun e he => hEk e (by
            cases hc : ek.contains (i, e) with
            | false => rfl
            | true => have := he (i, e) (by simpa using hc) rfl; rw [hself] at this; cases this) (hEx e (fun p hp hpe => by
              by_cases hpi : p.1 = i
              · rw [hpi]; exact hun'
              · rw [← hsame _ hpi]; exact he p hp hpe))) (fun j hj' hjl hjd => by
            by_cases hji : j = i
            · subst hji; rw [upd_self]; exact hv
            · rw [upd_ne _ _ hji]
              rw [hsame j hji] at hjl
              refine hkeep j _ hji ?_ (hR j hj' hjl (fun p hp hpj hpl => ?_))
              · cases hc : kl.contains (i, j) with
                | false => rfl
                | true =>
                  exfalso
                  have := hjd (i, j) (by simpa using hc) rfl hself
                  have := hanc j hjl i (by simpa using this)
                  rw [hun'] at this; cases this
              · refine hjd p hp hpj ?_
                by_cases hpi : p.1 = i
                · rw [hpi]; exact hself
                · rw [hsame _ hpi]; exact hpl)
        rw [listed_upd _ _ hil, st_put a0 v m him hun' (fun j hj' hji => hdist i j him hj' hji), hdo] at h1
        exact h1
      have hOb := obsT_get l kss R 0 hob i o (looksDeps l.toArray m i) (by simpa using ho) (by rw [← hkss]; simp [him]) (stOf l.toArray a0 vs (fun i => listed.getD i false) m) w hI (by rw [Nat.zero_add]; exact hAv) hE hD
      rw [Nat.zero_add] at hOb
      unfold wpOp
      simp only [ho]
      by_cases hw : Region.wanted o (yielded l.toArray (stOf l.toArray a0 vs (fun i => listed.getD i false) m).tmps) = true
      · rw [if_pos hw] at hOb ⊢
        exact .inl (wp_of_gives hOb (fun v w' ⟨h1, h2⟩ => by
          obtain ⟨k1, k3, k2⟩ := touch_keep hIB hEB hst hsp hI h2
          exact ⟨trivial, next v w' h1 k1 k3 k2⟩))
      · rw [if_neg hw] at hOb ⊢
        exact ⟨trivial, next _ _ hOb hI (fun e _ h => h) (fun j u _ _ h => h)⟩
/-- A region whose first m operations are met one by one; some of them change older blocks. -/
theorem wp_region_T {id : Nat} {l : List Oper} {Q : Exit → Act → World → Prop} {a0 : Act} {w : World} {kss : List (List (Nat × Tmp))} (I : World → Prop) (E : Nat → World → Prop) (env : List (Tmp × Value)) (R : List (Value → World → Prop)) (m : Nat) (sp : List (Nat × (World → World → Prop))) (kl ek : List (Nat × Nat)) (hm : P.follows .mixedOrders = true) (hB : joinB l.toArray m a0.tmps.size kss (env.map (·.1)) [] = true) (hK : killB l.toArray m kl = true) (henv : envFacts a0 env)
    (hI : I w) (hE : ∀ e, E e w) (hIB : ∀ w w', I w → Below w.heap.size w w' → I w') (hEB : ∀ e w w', E e w → Below w.heap.size w w' → E e w') (hst : Stab R) (hsp : AllT I E ek R kl sp) (hob : ObsT P l.toArray I E ek env R sp 0 l kss R)
    (fin : ∀ vs w', I w' → (∀ i, i < m → liveB l.toArray kl i = true → factAt R i (vs i) w') → wpAny P .any l.toArray (calm Q) (l.length - m) (listM l.length m) (putsL vs 0 (l.take m) a0) w') : (Code.region id l.toArray true).wp P Q a0 w := by
  refine Code.wp_mono (Q := calm Q) (fun e a w h => by cases e <;> first | exact h | exact h.elim) ?_
  refine wp_region_held (S := fun _ => True) hm ?_
  have h0 : ∀ j b, (Array.replicate l.toArray.size false).getD j b = if j < l.length then false else b := by
    intro j b
    simp only [Array.getD_eq_getD_getElem?, Array.getElem?_replicate, List.size_toArray]
    split <;> rfl
  have hml : m ≤ l.length := by
    simp only [joinB, Bool.and_eq_true, decide_eq_true_eq, List.size_toArray] at hB
    exact hB.1.1.1.1.1.1.1
  have hl0 : (fun i => (Array.replicate l.toArray.size false).getD i false) = fun _ => false := by funext j; rw [h0]; split <;> rfl
  have hst0 : ∀ m, stOf l.toArray a0 (fun _ => undef) (fun _ => false) m = a0 := by
    intro m
    induction m with
    | zero => rfl
    | succ m ih => rw [stOf, if_neg (by simp)]; exact ih
  have hlf : ∀ m, left (fun _ => false) m = m := by
    intro m
    induction m with
    | zero => rfl
    | succ m ih => rw [left, ih]; rfl
  have := joinT_go (P := P) (Q := calm Q) hB hK rfl henv hIB hEB hst hsp hob (fun vs w' h1 h2 => anyH_of_any _ _ _ _ (fin vs w' h1 h2)) l.toArray.size (Array.replicate l.toArray.size false) (fun _ => undef) { w with drawn := w.drawn + 1 } (by simp) (fun j _ => by rw [h0]; split <;> rfl) (fun k hk => by rw [h0] at hk; split at hk <;> cases hk)
    (by rw [hl0, hlf]; simp; omega) (hIB _ _ hI (Below.drew (Below.refl _ _))) (fun e _ => hEB e _ _ (hE e) (Below.drew (Below.refl _ _))) (fun i _ h => by rw [h0] at h; split at h <;> cases h)
  rw [hl0, hst0] at this
  exact this
end
end Go.Proofs.Ytamcibmjpmibdaa
namespace Go.Proofs.Ytamcibmjpmibdaa
open Go.RowKit
set_option linter.unusedVariables false
set_option linter.unusedSimpArgs false

section
variable {o : Oper} {a : Act} {w : World}
theorem gives_append_clean {P : Program} {s x : Operand} {t : TypeId}
    (ho : o.op = .call { callee := .builtin .append, args := #[s, x], argTypes := #[t, t] })
    (base : Nat) (e : TypeId) (i : TypeInfo) (z : Value) (size bytes : Nat) (ht : P.underlying t = some (.slice e)) (hi : P.info? e = some i) (hz : i.zero = some z)
    (hsize : i.size = size) (hby : i.bytes = bytes) (hzs : z.cells.size = size) (hsz : 0 < size) (hzc : ∀ u ∈ z.cells.toList, ClV u)
    (v : Value) (n : Nat) (xs : List Value) (hs : a.eval s = v) (hown : OwnC w base e size v n xs)
    (B : Nat) (A : Option Addr) (m c : Nat) (news : List Value) (hx : a.eval x = .slice A m c) (hr : Reads w B size A m news) (h1 : ∀ u ∈ news, u.oneCell' = true) (hnc : ∀ u ∈ news, ClV u)
    (h63 : n + m ≤ maxLen) (hbytes : (n + m) * bytes ≤ 140737488355328) (hbase : base ≤ w.heap.size) :
    gives P o a.eval w (fun v' w' => OwnC w' base e size v' (n + m) (xs ++ news) ∧ w.grownBy w' v.ownBlock ∧ (v'.ownBlock = v.ownBlock ∨ v'.ownBlock = some w.heap.size) ∧ KeepsN w w') := by
  obtain ⟨v', w', hrun, h2, h3, h4, h5, h6⟩ := run_append_clean (P := P) w base t o.type e i z size bytes ht hi hz hsize hby hzs hsz v n xs hown.own hown.cl hzc B A m c news hr h1 hnc hown.xs h63 hbytes hbase
  unfold gives execOp
  simp only [ho, resolve, invoke, builtin, Sem.run_bind, Sem.run_pure, Result.andThen_ok, List.map_toArray, List.map_cons, List.map_nil, hs, hx, hrun]
  exact ⟨⟨h2, h5⟩, h3, h4, h6⟩
/-- A slice of Rats behind a row of such slices. -/
theorem gives_app_rows {s x : Operand} (ho : o.op = .call { callee := .builtin .append, args := #[s, x], argTypes := #[29, 29] })
    (base : Nat) (v : Value) (n : Nat) (xs : List Value) (hs : a.eval s = v) (hown : OwnC w base 28 1 v n xs) (g : Nat) (A : Option Addr) (k c : Nat) (hx : a.eval x = .slice (some ⟨g, 0, none⟩) 1 1) (hb : Blk w g 28 #[.slice A k c])
    (hk : n ≤ 1000000) (hbase : base ≤ w.heap.size) :
    gives Try.prog o a.eval w (fun v' w' => OwnC w' base 28 1 v' (n + 1) (xs ++ [.slice A k c]) ∧ w.grownBy w' v.ownBlock ∧ (v'.ownBlock = v.ownBlock ∨ v'.ownBlock = some w.heap.size) ∧ KeepsN w w') := by
  obtain ⟨i, hi, hz, hs1, hby⟩ := info_parts info_rats
  have hr : Reads w w.heap.size 1 (some ⟨g, 0, none⟩) 1 [.slice A k c] := ⟨rfl, fun _ => ⟨_, rfl, hb.lt, fun j u hu => by
    rw [addr_zero, hb.cell]; simpa using hu⟩⟩
  exact gives_append_clean ho base 28 i _ 1 24 Try.underlying29 hi hz hs1 hby rfl (by omega) (by intro u hu z hz'; simp [Value.cells] at hu; subst hu; cases hz') v n xs hs hown w.heap.size _ 1 1 _ hx hr (by simp; rfl) (by intro u hu z hz'; simp at hu; subst hu; cases hz') (by simp only [maxLen]; omega) (by omega) hbase
/-- A row of one Rat behind an own row of Rats. -/
theorem gives_push_one {s x : Operand} (ho : o.op = .call { callee := .builtin .append, args := #[s, x], argTypes := #[28, 28] })
    (base : Nat) (v : Value) (n : Nat) (P : Nat → Value → Prop) (hs : a.eval s = v) (hown : OR w base v n P) (B : Nat) (A : Option Addr) (c : Nat) (P1 : Nat → Value → Prop) (hx : a.eval x = .slice A 1 c) (hr : Rs w B A 1 P1)
    (hk : n ≤ 1000000) (hbase : base ≤ w.heap.size) :
    gives Try.prog o a.eval w (fun v' w' => (∀ R : Nat → Value → Prop, (∀ j u, j < n → P j u → R j u) → (∀ u, P1 0 u → R n u) → OR w' base v' (n + 1) R) ∧ w.grownBy w' v.ownBlock ∧ (v'.ownBlock = v.ownBlock ∨ v'.ownBlock = some w.heap.size) ∧ KeepsN w w') := by
  obtain ⟨i, hi, hz, hs1, hby⟩ := info_parts info_rat
  obtain ⟨xs, h1, h2⟩ := hown
  obtain ⟨ys, hr, hl⟩ := hr
  refine gives_mono (gives_append_clean ho base 41 i _ 3 56 Try.underlying28 hi hz hs1 hby rfl (by omega) (by intro u hu z hz'; simp [Value.cells] at hu; rcases hu with rfl | rfl <;> cases hz') v n xs hs h1 B A 1 c ys hx hr (fun u hu => (hl.cl u hu).2) (fun u hu => (hl.cl u hu).1) (by simp only [maxLen]; omega) (by omega) hbase) ?_
  rintro v' w' ⟨g1, g2, g3, g4⟩
  refine ⟨fun R hR hn => ⟨_, g1, ?_⟩, g2, g3, g4⟩
  obtain ⟨s, A, k, c, B, m, d, q0, q1, q2, q3⟩ := hl.2 0 (by omega)
  have hlen := hl.1
  match ys, hlen, q0, q1, q2 with
  | [y0, y1, y2], _, q0, q1, q2 =>
    simp at q0 q1 q2
    subst q0; subst q1; subst q2
    exact (h2.mono hR).app (hn _ q3)
end
/-- A row's block is not that one. -/
def apB (row : Option Nat) (v : Value) : Prop := v.ownBlock = none ∨ v.ownBlock ≠ row
section
variable {w w' : World} {base n : Nat} {v : Value} {P Q : Nat → Value → Prop} {row : Option Nat}
theorem OR.kept (h : OR w base v n P) (hg : w.grownBy w' row) (hne : apB row v) (hq : ∀ j u, j < n → P j u → Q j u) : OR w' base v n Q := by
  obtain ⟨ys, h1, h2⟩ := h
  exact ⟨ys, h1.kept hg hne, h2.mono hq⟩
theorem OR.lt (h : OR w base v n P) : ∀ k, v.ownBlock = some k → base ≤ k ∧ k < w.heap.size := by
  obtain ⟨ys, h1, h2⟩ := h
  exact h1.own.lt
theorem own_own_ne {base' size n' size' : Nat} {e e' : TypeId} {u : Value} {xs ys : List Value} (h : w.ownsRow base e size v n xs) (h' : w.ownsRow base' e' size' u n' ys) (hne : e ≠ e') : apB u.ownBlock v := by
  rcases h.2 with ⟨rfl, _⟩ | ⟨g, cap, cur, rfl, h1, h2, h3⟩
  · exact .inl rfl
  · refine .inr ?_
    rcases h'.2 with ⟨rfl, _⟩ | ⟨g', cap', cur', rfl, _, h2', _⟩
    · simp [Value.ownBlock]
    · simp only [Value.ownBlock]
      intro he
      injection he with he
      subst he
      rw [h2] at h2'
      injection h2' with h2'
      injection h2' with _ ht
      exact hne ht
theorem apB.of_lt {k : Nat} (h : ∀ g, v.ownBlock = some g → g < k) (hr : ∀ g, row = some g → k ≤ g) : apB row v := by
  by_cases h0 : v.ownBlock = none
  · exact .inl h0
  · refine .inr fun e => ?_
    cases hv : v.ownBlock with
    | none => exact h0 hv
    | some g => have := h g hv; have := hr g (by rw [← e]; exact hv); omega
theorem apB.of_ge {k : Nat} (h : ∀ g, v.ownBlock = some g → k ≤ g) (hr : ∀ g, row = some g → g < k) : apB row v := by
  by_cases h0 : v.ownBlock = none
  · exact .inl h0
  · refine .inr fun e => ?_
    cases hv : v.ownBlock with
    | none => exact h0 hv
    | some g => have := h g hv; have := hr g (by rw [← e]; exact hv); omega
theorem apB.symm {u : Value} (h : apB u.ownBlock v) : apB v.ownBlock u := by
  rcases h with h | h
  · by_cases h0 : u.ownBlock = none
    · exact .inl h0
    · exact .inr (by rw [h]; exact h0)
  · exact .inr (Ne.symm h)
theorem apB.congr {u u' : Value} (h : apB u.ownBlock v) (e : u'.ownBlock = u.ownBlock) : apB u'.ownBlock v := by unfold apB at *; rw [e]; exact h
end
/-- What an append answers shares no block with an older row. -/
theorem app_apart {v v' u : Value} {S0 : Nat} {w : World} (h : v'.ownBlock = v.ownBlock ∨ v'.ownBlock = some w.heap.size) (ha : apB u.ownBlock v) (hu : ∀ g, u.ownBlock = some g → g < S0) (hS : S0 ≤ w.heap.size) : apB u.ownBlock v' := by
  rcases h with h | h
  · unfold apB at *; rw [h]; exact ha
  · refine .inr fun e => ?_
    have := hu _ (e.symm.trans h)
    omega
theorem app_apart2 {v v' u : Value} {w : World} (h : v'.ownBlock = v.ownBlock ∨ v'.ownBlock = some w.heap.size) (ha : apB v.ownBlock u) (hu : ∀ g, u.ownBlock = some g → g < w.heap.size) : apB v'.ownBlock u := by
  rcases h with h | h
  · exact ha.congr h
  · rw [h]
    exact apB.of_lt (k := w.heap.size) hu (fun g hg => by cases hg; exact Nat.le_refl _)
/-- Own rows that are done, boxes, and what stood before. -/
structure DuX (base S0 : Nat) (w0 w5 : World) (m J g g7 : Nat) (rv : Nat → Value) (rf : Nat → Nat → Rat) (cs c7 : Array Value) (w : World) : Prop where
  rr : ∀ l, l < J → OR w base (rv l) m (PN w 2 (rf l))
  x : Blk w g 31 cs
  y : Blk w g7 31 c7
  hb : Below w0.heap.size w0 w
  h5 : Below w5.heap.size w5 w
  low : S0 ≤ w.heap.size
section
variable {base S0 m J g g7 : Nat} {w0 w5 w w' : World} {rv : Nat → Value} {rf : Nat → Nat → Rat} {cs c7 : Array Value}
theorem DuX.below (h : DuX base S0 w0 w5 m J g g7 rv rf cs c7 w) (hb : Below w.heap.size w w') : DuX base S0 w0 w5 m J g g7 rv rf cs c7 w' :=
  ⟨fun l hl => (h.rr l hl).newN hb, h.x.keep hb, h.y.keep hb, bthen h.hb hb h.hb.size, bthen h.h5 hb h.h5.size, Nat.le_trans h.low hb.size⟩
theorem DuX.grown (h : DuX base S0 w0 w5 m J g g7 rv rf cs c7 w) {row : Option Nat} (hg : w.grownBy w' row) (kp : KeepsN w w') (s1 : ∀ k, row = some k → base ≤ k) (s2 : w0.heap.size ≤ base ∧ w5.heap.size ≤ base ∧ g < base ∧ g7 < base) (s3 : ∀ l, l < J → apB row (rv l)) : DuX base S0 w0 w5 m J g g7 rv rf cs c7 w' := by
  have hne : ∀ k, k < base → some k ≠ row := fun k hk e => by have := s1 k e.symm; omega
  exact ⟨fun l hl => (h.rr l hl).kept hg (s3 l hl) fun _ _ _ hv => PN.keep hv kp, h.x.grown hg (hne g s2.2.2.1), h.y.grown hg (hne g7 s2.2.2.2), h.hb.grown hg h.hb.size (fun k hk => by have := s1 k hk; omega), h.h5.grown hg h.h5.size (fun k hk => by have := s1 k hk; omega), Nat.le_trans h.low hg.size⟩
end
/-- The rows of the dual problem: its objective, and its constraints. -/
def dRv (DC : Option Addr) (dc m : Nat) (Dr : Nat → Option Addr) (dp : Nat → Nat) : Nat → Value
  | 0 => .slice DC m dc
  | l + 1 => .slice (Dr l) m (dp l)
def dRf (B : Nat → Rat) (A : Nat → Nat → Rat) : Nat → Nat → Rat
  | 0 => fun i => -(B i)
  | l + 1 => fun i => -(A i l)
/-- The dual problem with j constraints. -/
structure DuI (base : Nat) (w0 w5 : World) (m j g g7 : Nat) (DC DA DB : Option Addr) (dc da db : Nat) (Dr : Nat → Option Addr) (dp : Nat → Nat) (A : Nat → Nat → Rat) (B C : Nat → Rat) (c7 : Array Value) (w : World) : Prop where
  X : DuX base base w0 w5 m (j + 1) g g7 (dRv DC dc m Dr dp) (dRf B A) #[.slice DC m dc, .slice DA j da, .slice DB j db] c7 w
  al : OwnC w base 28 1 (.slice DA j da) j (rwL Dr (fun _ => m) dp j)
  b : OR w base (.slice DB j db) j (PN w 2 (fun l => -(C l)))
  ap : ∀ l, l < j + 1 → apB (Value.slice DB j db).ownBlock (dRv DC dc m Dr dp l)
section
variable {base m j g g7 dc da db : Nat} {w0 w5 w w' : World} {DC DA DB : Option Addr} {Dr : Nat → Option Addr} {dp : Nat → Nat} {A : Nat → Nat → Rat} {B C : Nat → Rat} {c7 : Array Value}
theorem DuI.below (h : DuI base w0 w5 m j g g7 DC DA DB dc da db Dr dp A B C c7 w) (hb : Below w.heap.size w w') : DuI base w0 w5 m j g g7 DC DA DB dc da db Dr dp A B C c7 w' :=
  ⟨h.X.below hb, h.al.below hb, h.b.newN hb, h.ap⟩
theorem DuI.start (hO : OR w base (.slice DC m dc) m (PN w 2 (fun i => -(B i)))) (hx : Blk w g 31 #[.slice DC m dc, .slice none 0 0, .slice none 0 0]) (hy : Blk w g7 31 c7) (hb : Below w0.heap.size w0 w) (h5 : Below w5.heap.size w5 w) (low : base ≤ w.heap.size) :
    DuI base w0 w5 m 0 g g7 DC none none dc 0 0 (fun _ => none) (fun _ => 0) A B C c7 w := by
  refine ⟨⟨fun l hl => ?_, hx, hy, hb, h5, low⟩, OwnC.nil _ _ _ _, OR.nil _ _ _, fun l hl => ?_⟩
  · have h0 : l = 0 := by omega
    subst h0
    exact hO
  · have h0 : l = 0 := by omega
    subst h0
    show apB none (.slice DC m dc)
    by_cases h0 : (Value.slice DC m dc).ownBlock = none
    · exact .inl h0
    · exact .inr h0
theorem dRv_put {A8 : Option Addr} {c8 : Nat} {l : Nat} (hl : l < j + 1) : dRv DC dc m (put1 Dr j A8) (put1 dp j c8) l = dRv DC dc m Dr dp l := by
  cases l with
  | zero => rfl
  | succ l => simp only [dRv]; rw [put1_ne _ _ (by omega), put1_ne _ _ (by omega)]
theorem dRv_last {A8 : Option Addr} {c8 : Nat} : dRv DC dc m (put1 Dr j A8) (put1 dp j c8) (j + 1) = .slice A8 m c8 := by
  simp only [dRv]; rw [put1_at, put1_at]
/-- One row more. -/
theorem DuI.row (h : DuI base w0 w5 m j g g7 DC DA DB dc da db Dr dp A B C c7 w) {b8 c8 : Nat} {A8 : Option Addr} (h8 : OR w b8 (.slice A8 m c8) m (PN w 2 (fun i => -(A i j)))) (hb8 : base ≤ b8) :
    DuX base w.heap.size w0 w5 m (j + 2) g g7 (dRv DC dc m (put1 Dr j A8) (put1 dp j c8)) (dRf B A) #[.slice DC m dc, .slice DA j da, .slice DB j db] c7 w :=
  ⟨fun l hl => by
    by_cases hlj : l < j + 1
    · rw [dRv_put hlj]; exact h.X.rr l hlj
    · obtain rfl : l = j + 1 := by omega
      rw [dRv_last]
      exact h8.lower hb8, h.X.x, h.X.y, h.X.hb, h.X.h5, Nat.le_refl _⟩
theorem DuI.apA (h : DuI base w0 w5 m j g g7 DC DA DB dc da db Dr dp A B C c7 w) {b8 c8 : Nat} {A8 : Option Addr} (h8 : OR w b8 (.slice A8 m c8) m (PN w 2 (fun i => -(A i j)))) :
    ∀ l, l < j + 2 → apB (Value.slice DA j da).ownBlock (dRv DC dc m (put1 Dr j A8) (put1 dp j c8) l) := by
  intro l hl
  by_cases hlj : l < j + 1
  · rw [dRv_put hlj]
    obtain ⟨ys, h1, _⟩ := h.X.rr l hlj
    exact own_own_ne h1.own h.al.own (by decide)
  · obtain rfl : l = j + 1 := by omega
    rw [dRv_last]
    obtain ⟨ys, h1, _⟩ := h8
    exact own_own_ne h1.own h.al.own (by decide)
theorem DuI.apAB (h : DuI base w0 w5 m j g g7 DC DA DB dc da db Dr dp A B C c7 w) : apB (Value.slice DA j da).ownBlock (.slice DB j db) := by
  obtain ⟨ys, h1, _⟩ := h.b
  exact own_own_ne h1.own h.al.own (by decide)
/-- The row that was made since w6 shares no block with d.B. -/
theorem DuI.apB_ (h : DuI base w0 w5 m j g g7 DC DA DB dc da db Dr dp A B C c7 w) {b8 c8 : Nat} {A8 : Option Addr} (h8 : OR w' b8 (.slice A8 m c8) m (PN w' 2 (fun i => -(A i j)))) (hb8 : w.heap.size ≤ b8) :
    ∀ l, l < j + 2 → apB (Value.slice DB j db).ownBlock (dRv DC dc m (put1 Dr j A8) (put1 dp j c8) l) := by
  intro l hl
  by_cases hlj : l < j + 1
  · rw [dRv_put hlj]; exact h.ap l hlj
  · obtain rfl : l = j + 1 := by omega
    rw [dRv_last]
    exact apB.of_ge (k := b8) (fun g hg => (h8.lt g hg).1) (fun g hg => by have := (h.b.lt g hg).2; omega)
/-- The two stores. -/
theorem DuX.next {S0 : Nat} {A8 A9 A20 : Option Addr} {c8 c9 c20 : Nat} (h : DuX base S0 w0 w5 m (j + 2) g g7 (dRv DC dc m (put1 Dr j A8) (put1 dp j c8)) (dRf B A) #[.slice DC m dc, .slice DA j da, .slice DB j db] c7 w) (hS : base ≤ S0) (hg7 : g7 ≠ g) (hlow : w0.heap.size ≤ g ∧ w5.heap.size ≤ g)
    (hA : OwnC w base 28 1 (.slice A9 (j + 1) c9) (j + 1) (rwL Dr (fun _ => m) dp j ++ [.slice A8 m c8])) (hB : OR w base (.slice A20 (j + 1) c20) (j + 1) (PN w 2 (fun l => -(C l)))) (hap : ∀ l, l < j + 2 → apB (Value.slice A20 (j + 1) c20).ownBlock (dRv DC dc m (put1 Dr j A8) (put1 dp j c8) l)) :
    DuI base w0 w5 m (j + 1) g g7 DC A9 A20 dc c9 c20 (put1 Dr j A8) (put1 dp j c8) A B C c7 ((w.setCell ⟨g, 1, none⟩ (.slice A9 (j + 1) c9)).setCell ⟨g, 2, none⟩ (.slice A20 (j + 1) c20)) := by
  have hx1 : Blk (w.setCell ⟨g, 1, none⟩ (.slice A9 (j + 1) c9)) g 31 #[.slice DC m dc, .slice A9 (j + 1) c9, .slice DB j db] := h.x.set_ 1 _
  have k1 := KeepsN.blk h.x (i := 1) (by show 1 < 3; omega) (by intro x; simp) (.slice A9 (j + 1) c9)
  have k2 := KeepsN.blk hx1 (i := 2) (by show 2 < 3; omega) (by intro x; simp) (.slice A20 (j + 1) c20)
  have g1 := only_setCell (World.grownBy.refl w (some g)) (p := ⟨g, 1, none⟩) (.inl rfl) (.slice A9 (j + 1) c9)
  have g2 := only_setCell (World.grownBy.refl (w.setCell ⟨g, 1, none⟩ (.slice A9 (j + 1) c9)) (some g)) (p := ⟨g, 2, none⟩) (.inl rfl) (.slice A20 (j + 1) c20)
  refine ⟨⟨fun l hl => ?_, hx1.set_ 2 _, (h.y.far (p := ⟨g, 1, none⟩) hg7 _).far (p := ⟨g, 2, none⟩) hg7 _, (h.hb.setCell (p := ⟨g, 1, none⟩) hlow.1 _).setCell (p := ⟨g, 2, none⟩) hlow.1 _, (h.h5.setCell (p := ⟨g, 1, none⟩) hlow.2 _).setCell (p := ⟨g, 2, none⟩) hlow.2 _, ?_⟩, ?_, ?_, hap⟩
  · exact ((h.rr l hl).blk h.x (by decide) g1 (Q := PN (w.setCell ⟨g, 1, none⟩ (.slice A9 (j + 1) c9)) 2 (dRf B A l)) (fun _ _ _ hv => PN.keep hv k1)).blk hx1 (by decide) g2 (fun _ _ _ hv => PN.keep hv k2)
  · rw [size_setCell, size_setCell]; exact Nat.le_trans hS h.low
  · have := (hA.blk h.x (by decide) g1).blk hx1 (by decide) g2
    rw [rwL_succ]
    exact this
  · exact (hB.blk h.x (by decide) g1 (Q := PN (w.setCell ⟨g, 1, none⟩ (.slice A9 (j + 1) c9)) 2 (fun l => -(C l))) (fun _ _ _ hv => PN.keep hv k1)).blk hx1 (by decide) g2 (fun _ _ _ hv => PN.keep hv k2)
theorem DuI.fin (h : DuI base w0 w5 m j g g7 DC DA DB dc da db Dr dp A B C c7 w) : PrW w 2 m j j DC DA DB Dr (fun _ => m) dp (fun l i => -(A i l)) (fun i => -(B i)) (fun l => -(C l)) :=
  ⟨(h.X.rr 0 (by omega)).rs.toW, Reads.of_own h.al.own, fun i hi => (h.X.rr (i + 1) (by omega)).rs.toW, h.b.rs.toW⟩
end
end Go.Proofs.Ytamcibmjpmibdaa
namespace Go.Proofs.Ytamcibmjpmibdaa
open Go.RowKit
set_option linter.unusedVariables false
set_option linter.unusedSimpArgs false

end Go.Proofs.Ytamcibmjpmibdaa
namespace Go.Proofs.Ytamcibmjpmibdaa
open Go.RowKit
set_option linter.unusedVariables false
set_option linter.unusedSimpArgs false

end Go.Proofs.Ytamcibmjpmibdaa
namespace Go.Proofs.Ytamcibmjpmibdaa
open Go.RowKit
set_option linter.unusedVariables false
set_option linter.unusedSimpArgs false

set_option maxRecDepth 100000 in
set_option maxHeartbeats 16000000 in
theorem duals_walk (n m k cC cA cB : Nat) (PC PA PB : Option Addr) (Pr : Nat → Option Addr) (ln cp : Nat → Nat) (NC NB : Nat → Int) (DC DB : Nat → Nat) (NA : Nat → Nat → Int) (DA : Nat → Nat → Nat) (w : World) (hP : PgL w n m k PC PA PB Pr ln cp NC NB DC DB NA DA)
    (A : Nat → Nat → Rat) (C B : Nat → Rat) (eC : C = fun i => smq (NC i) (DC i)) (eB : B = fun i => smq (NB i) (DB i)) (eA : A = fun i j => smq (NA i j) (DA i j)) :
    Calls Try.prog 6 #[.agg #[.slice PC n cC, .slice PA m cA, .slice PB k cB]] w (fun e w' => e = .returned (.bool true) ∧ Below w.heap.size w w') := by
  have EC := Lib.hid eC; have EB := Lib.hid eB; have EA := Lib.hid eA; clear eC eB eA
  have HPg := Lib.hid hP.p; have HLn := Lib.hid hP.l; clear hP
  go_enter Try.func6, Try.ntmps6
  go_upto_region 1 with (fail)
  have hbw := al w (.cells #[.slice PC n cC, .slice PA m cA, .slice PB k cB] 25)
  have T := Lib.hid (Blk.new w 25 #[.slice PC n cC, .slice PA m cA, .slice PB k cB])
  have HB := Lib.hid hbw
  replace HPg := Lib.hid (HPg.out.new hbw)
  clear hbw
  generalize w.alloc (.cells #[.slice PC n cC, .slice PA m cA, .slice PB k cB] 25) = w1 at *
  obtain ⟨g3, hg3⟩ : ∃ g3, g3 = w.heap.size := ⟨_, rfl⟩
  rw [← hg3] at T ⊢
  have HGg3 := Lib.hid (show w.heap.size ≤ g3 from by omega)
  clear hg3
  have c0 := Blk.at0 T.out (Below.refl _ _); have c1 := Blk.at1 T.out (Below.refl _ _); have c2 := Blk.at2 T.out (Below.refl _ _)
  go_wp2_with fail
  refine (great_any n m k cC cA cB PC PA PB w1).mono ?_
  rintro e w2 ⟨t, rfl, hb, ht⟩
  have HT := Lib.hid ht; clear ht c0 c1 c2
  replace HPg := Lib.hid (HPg.out.new hb)
  replace HB := Lib.hid (bthen HB.out hb HB.out.size)
  replace T := Lib.hid (T.out.keep hb)
  clear hb
  have c0 := Blk.at0 T.out (Below.refl _ _); have c1 := Blk.at1 T.out (Below.refl _ _); have c2 := Blk.at2 T.out (Below.refl _ _)
  by_cases htt : t = true
  · subst htt
    clear HT
    go_wp2_with fail
    refine (awake_any _).mono ?_
    rintro e w3 ⟨rfl, hb⟩
    go_wp2_with fail
    go_ret
    exact ⟨rfl, bthen HB.out hb HB.out.size⟩
  obtain rfl : t = false := by simpa using htt
  clear htt
  obtain ⟨hn5, hm5, hk6⟩ := HT.out.1 rfl
  clear HT
  go_wp2_with fail
  refine (of_any n m k cC cA cB PC PA PB Pr ln cp NC NB DC DB NA DA w2 HPg.out (by omega) (by omega) (by omega) HLn.out A C B EC.out EB.out EA.out smq_small).mono ?_
  rintro e w3 ⟨YC, YA, YB, QC, QA, QB, Yr, Qr, yp, qp, yc, ya, yb, qc, qa, qb, rfl, hpr, hrq, hb⟩
  clear c0 c1 c2
  replace HPg := Lib.hid (HPg.out.new hb)
  replace HB := Lib.hid (bthen HB.out hb HB.out.size)
  replace T := Lib.hid (T.out.keep hb)
  clear hb
  have HP := Lib.hid hpr; have HQ := Lib.hid hrq; clear hpr hrq
  go_upto_region 4 with (fail)
  have hbw := bthen (al w3 (.cells #[.slice YC n yc, .slice YA m ya, .slice YB k yb] 31)) (al _ (.cells #[.slice QC n qc, .slice QA m qa, .slice QB k qb] 35)) (by simp)
  have HY := Lib.hid ((Blk.new w3 31 #[.slice YC n yc, .slice YA m ya, .slice YB k yb]).keep (al _ (.cells #[.slice QC n qc, .slice QA m qa, .slice QB k qb] 35)))
  have HR := Lib.hid (Blk.new (w3.alloc (.cells #[.slice YC n yc, .slice YA m ya, .slice YB k yb] 31)) 35 #[.slice QC n qc, .slice QA m qa, .slice QB k qb])
  rw [show (w3.alloc (.cells #[.slice YC n yc, .slice YA m ya, .slice YB k yb] 31)).heap.size = w3.heap.size + 1 from by simp] at HR
  replace HPg := Lib.hid (HPg.out.new hbw)
  replace HB := Lib.hid (bthen HB.out hbw HB.out.size)
  replace T := Lib.hid (T.out.keep hbw)
  replace HP := Lib.hid (HP.out.new hbw)
  replace HQ := Lib.hid (HQ.out.new hbw)
  clear hbw
  generalize (w3.alloc (.cells #[.slice YC n yc, .slice YA m ya, .slice YB k yb] 31)).alloc (.cells #[.slice QC n qc, .slice QA m qa, .slice QB k qb] 35) = w4 at *
  obtain ⟨g7, hg7⟩ : ∃ g7, g7 = w3.heap.size := ⟨_, rfl⟩
  obtain ⟨g8, hg8⟩ : ∃ g8, g8 = w3.heap.size + 1 := ⟨_, rfl⟩
  rw [← hg8] at HR ⊢
  rw [← hg7] at HY ⊢
  have HGg7 := Lib.hid (show w3.heap.size ≤ g7 ∧ w3.heap.size ≤ g8 from by omega)
  clear hg7 hg8
  have q0 := Blk.at0 HR.out (Below.refl _ _); have q1 := Blk.at1 HR.out (Below.refl _ _); have q2 := Blk.at2 HR.out (Below.refl _ _)
  go_wp2_with fail
  refine (rvalid_any n m k qc qa qb QC QA QB Qr ln qp A C B w4 HQ.out (by omega)).mono ?_
  rintro e w5 ⟨t, rfl, hb, ht⟩
  clear q0 q1 q2
  have HT := Lib.hid ht; clear ht
  replace HPg := Lib.hid (HPg.out.new hb)
  replace HB := Lib.hid (bthen HB.out hb HB.out.size)
  replace T := Lib.hid (T.out.keep hb)
  replace HP := Lib.hid (HP.out.new hb)
  replace HQ := Lib.hid (HQ.out.new hb)
  replace HY := Lib.hid (HY.out.keep hb)
  replace HR := Lib.hid (HR.out.keep hb)
  clear hb
  by_cases htt : t = false
  · subst htt
    go_wp2_with fail
    refine (awake_any _).mono ?_
    rintro e w6 ⟨rfl, hb⟩
    go_wp2_with fail
    go_ret
    exact ⟨rfl, bthen HB.out hb HB.out.size⟩
  obtain rfl : t = true := by simpa using htt
  clear htt
  obtain ⟨hmk, hl⟩ := HT.out.1 rfl
  clear HT
  subst hmk
  have HL := Lib.hid hl; clear hl
  have HGv := Lib.hid HB.out.size
  have HP0 := Lib.hid (HP.out.flat HL.out)
  have HN79 := Lib.hid (show g7 < w5.heap.size from HY.out.lt)
  have HB5 := Lib.hid (Below.refl w5.heap.size w5)
  clear HP HQ HR T HL HPg HLn
  have HF := Lib.hid (frac_smq (n := n) (m := m) EC.out EB.out EA.out)
  have HF2 := Lib.hid (frac_law (n := m) (m := n) (A := fun l i => -(A i l)) (B := fun l => -(C l)) (C := fun i => -(B i)) (fun l hl i hi => (HF.out.A i hi l hl).neg) (fun l hl => (HF.out.C l hl).neg) (fun i hi => (HF.out.B i hi).neg))
  clear EC EB EA
  go_upto_region 7 with (fail)
  have hbw := al w5 (.cells #[.slice none 0 0, .slice none 0 0, .slice none 0 0] 31)
  have HD := Lib.hid (Blk.new w5 31 #[.slice none 0 0, .slice none 0 0, .slice none 0 0])
  replace HB := Lib.hid (bthen HB.out hbw HB.out.size)
  replace HY := Lib.hid (HY.out.keep hbw)
  replace HB5 := Lib.hid (bthen HB5.out hbw HB5.out.size)
  clear hbw
  generalize w5.alloc (.cells #[.slice none 0 0, .slice none 0 0, .slice none 0 0] 31) = w6 at *
  obtain ⟨g9, hg9⟩ : ∃ g9, g9 = w5.heap.size := ⟨_, rfl⟩
  rw [← hg9] at HD ⊢
  have HGg9 := Lib.hid (show w5.heap.size ≤ g9 from by omega)
  clear hg9
  obtain ⟨bs, hbs⟩ : ∃ bs, bs = w6.heap.size := ⟨_, rfl⟩
  have HBs := Lib.hid (show w.heap.size ≤ bs ∧ w5.heap.size ≤ bs ∧ g9 < bs ∧ g7 < bs ∧ bs ≤ w6.heap.size ∧ g7 ≠ g9 ∧ w.heap.size ≤ g9 ∧ w5.heap.size ≤ g9 by have := HB.out.size; have := HB5.out.size; have := HD.out.lt; have := HY.out.lt; have := HN79.out; have := HGg9.out; have := HGv.out; omega)
  clear hbs
  go_wp2_with fail
  go_loopg [6] m (fun g iv wr => ∃ (i : Nat) (A1 : Option Addr) (c1 : Nat), iv = .int .i64 i ∧ i + g = m ∧ Hid (OR wr bs (.slice A1 i c1) i (PN wr 2 (fun l => -(B l))) ∧ Blk wr g9 31 #[.slice A1 i c1, .slice none 0 0, .slice none 0 0] ∧ Blk wr g7 31 #[.slice YC n yc, .slice YA m ya, .slice YB m yb] ∧ Below w.heap.size w wr ∧ Below w5.heap.size w5 wr ∧ bs ≤ wr.heap.size))
  case atStart => exact ⟨0, none, 0, rfl, by omega, Lib.hid ⟨OR.nil _ _ _, HD.out, HY.out, HB.out, HB5.out, HBs.out.2.2.2.2.1⟩⟩
  case round =>
    obtain ⟨i, A9, c9, rfl, him, HI⟩ := hrel
    clear HD HY HB HB5
    have HO := Lib.hid HI.out.1
    have HD := Lib.hid HI.out.2.1
    have HY := Lib.hid HI.out.2.2.1
    have HB := Lib.hid HI.out.2.2.2.1
    have HB5 := Lib.hid HI.out.2.2.2.2.1
    have HSz := Lib.hid HI.out.2.2.2.2.2
    clear HI
    by_cases hi : i < m
    · have i1 : ((i : Int) < (m : Int)) := by omega
      obtain ⟨ad, -, -, -, -, -, -, -, rfl, -⟩ := HP0.out.bb.at_ hi
      have y2 := Blk.at2 HY.out (Below.refl _ _)
      go_upto_region 10 with (fail)
      clear y2
      refine wp_region_join (kss := [[], [(0, 33)], [], [(2, 35)], [], [(3, 36), (4, 37)], [(5, 38)], [(6, 39)], [(7, 40)]]) [(5, .pointer (some ⟨g9, 0, none⟩)), (3, .pointer (some ⟨g7, 0, none⟩)), (6, .int .i64 ((i : Int)))] [fun zz _ => zz = .pointer (some ⟨g9, 0, none⟩), fun zz _ => zz = .slice A9 i c9, fun zz _ => zz = .pointer (some ⟨g7, 2, none⟩), fun zz _ => zz = .slice (some ad) m yb, fun zz _ => zz = .int .i64 ((i : Int)), fun zz _ => zz = .pointer (some (Addr.add ad (i * 3))), Rw (2) (B i), Rv (2) (-(B i)), OneN (2) (-(B i))] 9 [] (by kernel_rfl) (by kernel_rfl) ⟨rfl, rfl, rfl, trivial⟩ [false, false, false, false, false, false, false, false, false] ?_ ?_ ?_ ?_
      · exact fun i hi => absurd hi (by simp)
      · exact ⟨fun _ _ _ h _ => h, fun _ _ _ h _ => h, fun _ _ _ h _ => h, fun _ _ _ h _ => h, fun _ _ _ h _ => h, fun _ _ _ h _ => h, fun _ _ _ h hb => h.new hb, fun _ _ _ h hb => h.new hb, fun _ _ _ h hb => h.new hb, trivial⟩
      · refine ⟨?_, ?_, ?_, ?_, ?_, ?_, ?_, ?_, ?_, trivial⟩
        · exact fun aa ww hb he hd => ob_plain rfl (fld_prb rfl (by decide) he.1)
        · exact fun aa ww hb he hd => ob_plain rfl (load_c28 rfl hd.1 (Blk.at0 HD.out hb))
        · exact fun aa ww hb he hd => ob_plain rfl (fld_prb rfl (by decide) he.2.1)
        · exact fun aa ww hb he hd => ob_plain rfl (load_c28 rfl hd.1 (Blk.at2 HY.out hb))
        · exact fun aa ww hb he hd => ob_plain rfl (gives_move _ rfl ⟨he.2.2.1, Below.refl _ _⟩)
        · exact fun aa ww hb he hd => ob_plain rfl (idx_rs (by omega) rfl hd.1 hd.2.1)
        · exact fun aa ww hb he hd => ob_plain rfl (load_rw rfl hd.1 ((PrW.new HP0.out (bthen HB5.out hb HB5.out.size)).bb) (by omega))
        · exact fun aa ww hb he hd => ob_plain rfl (gives_call1 _ _ _ rfl (by kernel_rfl) (neg_v (hd.1) (by omega)))
        · exact fun aa ww hb he hd => ob_plain rfl (gives_one_n rfl hd.1)
      intro vs w12 hb hR _
      have r41 : OneN (2) (-(B i)) (vs 8) w12 := hR 8 (by decide)
      have e34 : vs 1 = .slice A9 i c9 := hR 1 (by decide)
      clear hR
      simp only [putsL, Nat.zero_add, Nat.reduceAdd, List.take_succ_cons, List.take_zero, Act.put, List.setIfInBounds_toArray, List.set_cons_zero, List.set_cons_succ]
      rw [e34]
      clear e34
      obtain ⟨A7, e41, hr1⟩ := r41
      rw [e41]
      clear e41
      have HO2 := HO.out.newN hb
      have hsz := hb.size
      replace HD := Lib.hid (HD.out.keep hb)
      replace HY := Lib.hid (HY.out.keep hb)
      replace HB := Lib.hid (bthen HB.out hb HB.out.size)
      replace HB5 := Lib.hid (bthen HB5.out hb HB5.out.size)
      clear hb
      show wpAny _ _ _ _ 3 _ _ _
      refine wpAny_next (i := 9) (by kernel_rfl) rfl rfl (wp_push_one _ _ rfl bs (.slice A9 i c9) i _ rfl HO2 w12.heap.size A7 1 _ rfl hr1 (by omega) (by have := HSz.out; omega) ?_)
      intro v' w13 ho hgr hor kp
      have hO := ho (PN w13 2 (fun l => -(B l))) (fun l u hl hv => PN.keep hv kp) (fun u hv => PN.keep (f := fun _ => -(B i)) (j := 0) hv kp)
      obtain ⟨A10, c10, rfl⟩ := hO.form
      show wpAny _ _ _ _ _ _ (Act.put _ (some 42) _) _
      simp only [Act.put, List.setIfInBounds_toArray, List.set_cons_zero, List.set_cons_succ]
      obtain ⟨xs0, how, -⟩ := HO2
      have hgs := hgr.size
      replace HD := Lib.hid (Blk.appended HD.out how.own hgr (by decide))
      replace HY := Lib.hid (Blk.appended HY.out how.own hgr (by decide))
      replace HB := Lib.hid (Below.appended HB.out how.own hgr HB.out.size (by have := HBs.out; omega))
      replace HB5 := Lib.hid (Below.appended HB5.out how.own hgr HB5.out.size (by have := HBs.out; omega))
      have HO3 := Lib.hid hO
      replace HSz := Lib.hid (show bs ≤ w13.heap.size by have := HSz.out; omega)
      clear ho hO how hgr hor kp hr1 hsz hgs
      refine wpAny_next (i := 10) (by kernel_rfl) rfl rfl (wp_of_gives (fld_prb_w rfl (by decide) rfl) ?_)
      rintro _ w14 ⟨rfl, rfl⟩
      show wpAny _ _ _ _ _ _ (Act.put _ (some 43) _) _
      simp only [Act.put, List.setIfInBounds_toArray, List.set_cons_zero, List.set_cons_succ]
      refine wpAny_next (i := 11) (by kernel_rfl) rfl rfl (store_c28 rfl rfl rfl rfl (Blk.at0 HD.out (Below.refl _ _)) (HD.out.frozen 0) ?_)
      have hkn := KeepsN.blk HD.out (i := 0) (by show 0 < 3; omega) (by intro x; simp) (.slice A10 (i + 1) c10)
      replace HO3 := Lib.hid (HO3.out.blk HD.out (by decide) (only_setCell (World.grownBy.refl w14 (some g9)) (p := ⟨g9, 0, none⟩) (.inl rfl) (.slice A10 (i + 1) c10)) (Q := PN (w14.setCell ⟨g9, 0, none⟩ (.slice A10 (i + 1) c10)) 2 (fun l => -(B l))) (fun _ _ _ hv => PN.keep hv hkn))
      replace HY := Lib.hid (HY.out.far (p := ⟨g9, 0, none⟩) (by have e9 : (Addr.mk g9 0 none).block = g9 := rfl; have := HBs.out; omega) (.slice A10 (i + 1) c10))
      replace HB := Lib.hid (HB.out.setCell (p := ⟨g9, 0, none⟩) (by have e9 : (Addr.mk g9 0 none).block = g9 := rfl; have := HBs.out; omega) (.slice A10 (i + 1) c10))
      replace HB5 := Lib.hid (HB5.out.setCell (p := ⟨g9, 0, none⟩) (by have e9 : (Addr.mk g9 0 none).block = g9 := rfl; have := HBs.out; omega) (.slice A10 (i + 1) c10))
      replace HD := Lib.hid (show Blk _ g9 31 #[.slice A10 (i + 1) c10, .slice none 0 0, .slice none 0 0] from HD.out.set_ 0 (.slice A10 (i + 1) c10))
      replace HSz := Lib.hid (show bs ≤ (w14.setCell ⟨g9, 0, none⟩ (.slice A10 (i + 1) c10)).heap.size by rw [size_setCell]; exact HSz.out)
      clear hkn
      refine wpAny_end (by kernel_rfl) (calm_normal ?_) _
      generalize w14.setCell ⟨g9, 0, none⟩ (.slice A10 (i + 1) c10) = w15 at *
      go_wp2_with fail
      go_roundg (gk - 1)
      case measure => omega
      case rel => exact ⟨i + 1, A10, c10, by go_num, by omega, Lib.hid ⟨HO3.out, HD.out, HY.out, HB.out, HB5.out, HSz.out⟩⟩
    · obtain rfl : m = i := by omega
      have y2 := Blk.at2 HY.out (Below.refl _ _)
      go_wp2_with fail
      clear y2
      have HI0 := Lib.hid (DuI.start (A := A) (C := C) (g := g9) (g7 := g7) HO.out HD.out HY.out HB.out HB5.out HSz.out)
      clear HO HD HY HB HB5 HSz
      go_loopg [7] n (fun g iv wr => ∃ (j : Nat) (DA DB : Option Addr) (da db : Nat) (Dr : Nat → Option Addr) (dp : Nat → Nat), iv = .int .i64 j ∧ j + g = n ∧ Hid (DuI bs w w5 m j g9 g7 A9 DA DB c9 da db Dr dp A B C #[.slice YC n yc, .slice YA m ya, .slice YB m yb] wr))
      case atStart => exact ⟨0, none, none, 0, 0, _, _, rfl, by omega, HI0⟩
      case round =>
        obtain ⟨j, DA, DB, da, db, Dr, dp, rfl, hjn, HD⟩ := hrel
        clear HI0
        obtain ⟨G, hG⟩ : ∃ G, G = gk := ⟨_, rfl⟩
        subst hG
        obtain ⟨w6, hw6⟩ : ∃ w6, w6 = wr := ⟨_, rfl⟩
        subst hw6
        by_cases hj : j < n
        · have j1 : ((j : Int) < (n : Int)) := by omega
          have y0 := Blk.at0 HD.out.X.y (Below.refl _ _)
          go_wp2_with fail
          clear y0
          obtain ⟨b8, hb8⟩ : ∃ b8, b8 = w6.heap.size := ⟨_, rfl⟩
          have HB8 := Lib.hid hb8; clear hb8
          go_loopg [9, 8] m (fun g iv ov wr => ∃ (i c1 : Nat) (A1 : Option Addr), iv = .int .i64 i ∧ ov = .slice A1 i c1 ∧ i + g = m ∧ Hid (OR wr b8 (.slice A1 i c1) i (PN wr 2 (fun l => -(A l j))) ∧ Below w6.heap.size w6 wr))
          case atStart => exact ⟨0, 0, none, rfl, rfl, by omega, Lib.hid ⟨OR.nil _ _ _, Below.refl _ _⟩⟩
          case round =>
            obtain ⟨i, c1, A1, rfl, rfl, him, HI⟩ := hrel
            have HO := Lib.hid HI.out.1
            have HB6 := Lib.hid HI.out.2
            clear HI
            have HDr := Lib.hid (HD.out.below HB6.out)
            by_cases hi : i < m
            · have i1 : ((i : Int) < (m : Int)) := by omega
              obtain ⟨adA, rfl, -, -⟩ := HP0.out.at_ hi
              obtain ⟨adr, -, -, -, -, -, -, -, hadr, -⟩ := (HP0.out.row i hi).at_ hj
              have y1 := Blk.at1 HDr.out.X.y (Below.refl _ _)
              go_upto_region 18 with (fail)
              clear y1
              refine wp_region_joins (kss := [[], [], [(1, 59)], [], [(2, 60), (3, 61)], [(4, 62)], [], [(5, 63), (6, 64)], [(7, 65)], [(8, 66)], [(9, 67)]]) [(8, .slice A1 i c1), (3, .pointer (some ⟨g7, 0, none⟩)), (9, .int .i64 ((i : Int))), (7, .int .i64 ((j : Int)))] [fun zz _ => zz = .slice A1 i c1, fun zz _ => zz = .pointer (some ⟨g7, 1, none⟩), fun zz _ => zz = .slice (some adA) m ya, fun zz _ => zz = .int .i64 ((i : Int)), fun zz _ => zz = .pointer (some (Addr.add adA i)), fun zz _ => zz = .slice (some adr) n (yp i), fun zz _ => zz = .int .i64 ((j : Int)), fun zz _ => zz = .pointer (some (Addr.add adr (j * 3))), Rw (2) ((A i) j), Rv (2) (-((A i) j)), OneN (2) (-((A i) j))] 11 (by kernel_rfl) ⟨rfl, rfl, rfl, rfl, trivial⟩ [false, false, false, false, false, false, false, false, false, false, false] ?_ ?_ ?_
              · exact ⟨fun _ _ _ h _ => h, fun _ _ _ h _ => h, fun _ _ _ h _ => h, fun _ _ _ h _ => h, fun _ _ _ h _ => h, fun _ _ _ h _ => h, fun _ _ _ h _ => h, fun _ _ _ h _ => h, fun _ _ _ h hb => h.new hb, fun _ _ _ h hb => h.new hb, fun _ _ _ h hb => h.new hb, trivial⟩
              · refine ⟨?_, ?_, ?_, ?_, ?_, ?_, ?_, ?_, ?_, ?_, ?_, trivial⟩
                · exact fun aa ww hb he hd => ob_plain rfl (gives_move _ rfl ⟨he.1, Below.refl _ _⟩)
                · exact fun aa ww hb he hd => ob_plain rfl (fld_prb rfl (by decide) he.2.1)
                · exact fun aa ww hb he hd => ob_plain rfl (load_c29 rfl hd.1 (Blk.at1 HDr.out.X.y hb))
                · exact fun aa ww hb he hd => ob_plain rfl (gives_move _ rfl ⟨he.2.2.1, Below.refl _ _⟩)
                · exact fun aa ww hb he hd => ob_plain rfl (idx_rws (by omega) rfl hd.1 hd.2.1)
                · exact fun aa ww hb he hd => ob_plain rfl (load_c28 rfl hd.1 (by have h := PrW.cell (PrW.new HP0.out (bthen HDr.out.X.h5 hb HDr.out.X.h5.size)) (i := i) (by omega); rw [hadr] at h; exact h))
                · exact fun aa ww hb he hd => ob_plain rfl (gives_move _ rfl ⟨he.2.2.2.1, Below.refl _ _⟩)
                · exact fun aa ww hb he hd => ob_plain rfl (idx_rs (by omega) rfl hd.1 hd.2.1)
                · exact fun aa ww hb he hd => ob_plain rfl (load_rw rfl hd.1 ((by have h := PrW.row (PrW.new HP0.out (bthen HDr.out.X.h5 hb HDr.out.X.h5.size)) i (by omega); rw [hadr] at h; exact h)) (by omega))
                · exact fun aa ww hb he hd => ob_plain rfl (gives_call1 _ _ _ rfl (by kernel_rfl) (neg_v (hd.1) (by omega)))
                · exact fun aa ww hb he hd => ob_plain rfl (gives_one_n rfl hd.1)
              intro vs w7 hb hR
              have r68 : OneN (2) (-((A i) j)) (vs 10) w7 := hR 10 (by decide)
              have e58 : vs 0 = .slice A1 i c1 := hR 0 (by decide)
              clear hR
              simp only [putsL, Nat.zero_add, Nat.reduceAdd, List.take_succ_cons, List.take_zero, Act.put, List.setIfInBounds_toArray, List.set_cons_zero, List.set_cons_succ]
              rw [e58]
              clear e58
              obtain ⟨A7, e68, hr1⟩ := r68
              rw [e68]
              clear e68 hadr
              have HO2 := HO.out.newN hb
              show wpOps _ _ _ [11, 12] _ _
              refine wpOps_next rfl rfl (wp_push_one _ _ rfl b8 (.slice A1 i c1) i _ rfl HO2 w7.heap.size A7 1 _ rfl hr1 (by omega) (by have := HB8.out; have := HB6.out.size; have := hb.size; omega) ?_)
              intro v' w8 ho hgr hor kp
              have hO := ho (PN w8 2 (fun l => -(A l j))) (fun l u hl hv => PN.keep hv kp) (fun u hv => PN.keep (f := fun _ => -(A i j)) (j := 0) hv kp)
              obtain ⟨A10, c10, rfl⟩ := hO.form
              show wpOps _ _ _ _ (Act.put _ (some 69) _) _
              simp only [Act.put, List.setIfInBounds_toArray, List.set_cons_zero, List.set_cons_succ]
              have hba : Below w6.heap.size w6 w8 := by obtain ⟨xs, h1, h2⟩ := HO2; exact Below.appended (bthen HB6.out hb HB6.out.size) h1.own hgr (by have := HB6.out.size; have := hb.size; omega) (by rw [HB8.out]; exact Nat.le_refl _)
              have HO3 := Lib.hid hO; have HB63 := Lib.hid hba
              clear ho hO hgr hor kp hr1 HO2 hb hba HO HB6 HDr
              refine wpOps_next rfl rfl (wp_assign 8 (.tmp 69) rfl rfl (.slice A10 (i + 1) c10) rfl ?_)
              simp only [Act.put, List.setIfInBounds_toArray, List.set_cons_zero, List.set_cons_succ]
              unfold wpOps
              go_wp2_with fail
              go_roundg (gk - 1)
              case measure => omega
              case rel => exact ⟨i + 1, c10, A10, by go_num, rfl, by omega, Lib.hid ⟨HO3.out, HB63.out⟩⟩
            · obtain rfl : m = i := by omega
              have y1 := Blk.at1 HDr.out.X.y (Below.refl _ _)
              go_upto_region 19 with (fail)
              clear y1
              obtain ⟨adC, -, -, -, -, -, -, -, rfl, -⟩ := HP0.out.c.at_ hj
              have HApA := Lib.hid (HDr.out.apA HO.out); have HApB := Lib.hid (HD.out.apB_ HO.out (by rw [HB8.out]; exact Nat.le_refl _)); have HApC := Lib.hid HDr.out.apAB
              have HXr := Lib.hid (HDr.out.row HO.out (by have := HB8.out; have := HD.out.X.low; omega))
              have HlA := Lib.hid HDr.out.al; have HlB := Lib.hid HDr.out.b
              have HBA := Lib.hid (own_base HlA.out.own); have HBB := Lib.hid (fun k hk => (HlB.out.lt k hk).1)
              have HltA := Lib.hid (fun k hk => (HlA.out.own.lt k hk).2); have HltB := Lib.hid (fun k hk => (HlB.out.lt k hk).2)
              have HSt := Lib.hid (show w.heap.size ≤ bs ∧ w5.heap.size ≤ bs ∧ g9 < bs ∧ g7 < bs by have := HBs.out; omega)
              obtain ⟨S0, hS0⟩ : ∃ S0, S0 = wr.heap.size := ⟨_, rfl⟩
              have HS0 := Lib.hid (show S0 = wr.heap.size ∧ bs ≤ S0 from ⟨hS0, by have := HDr.out.X.low; omega⟩)
              rw [← hS0] at HXr HltA HltB
              clear hS0
              refine wp_region_T (kss := [[], [(0, 70)], [], [(2, 72)], [(1, 71), (3, 73)], [], [(5, 75)], [], [(7, 77)], [], [(8, 78), (9, 79)], [(10, 80)], [(11, 81)], [(12, 82)], [(6, 76), (13, 83)], []]) (DuX bs S0 w w5 m (j + 2) g9 g7 (dRv A9 c9 m (put1 Dr j A1) (put1 dp j c1)) (dRf B A) #[.slice A9 m c9, .slice DA j da, .slice DB j db] #[.slice (some adC) n yc, .slice YA m ya, .slice YB m yb]) (fun e w => match e with | 0 => OwnC w bs 28 1 (.slice DA j da) j (rwL Dr (fun _ => m) dp j) | 1 => OR w bs (.slice DB j db) j (PN w 2 (fun l => -(C l))) | _ => True) [(5, .pointer (some ⟨g9, 0, none⟩)), (8, .slice A1 m c1), (3, .pointer (some ⟨g7, 0, none⟩)), (7, .int .i64 ((j : Int)))] [fun zz _ => zz = .pointer (some ⟨g9, 1, none⟩), fun zz _ => zz = .slice DA j da, fun zz _ => zz = .slice A1 m c1, fun v w' => ∃ g0 : Nat, v = .slice (some ⟨g0, 0, none⟩) 1 1 ∧ Blk w' g0 28 #[.slice A1 m c1], fun v w' => ∃ (A0 : Option Addr) (c0 : Nat), v = .slice A0 (j + 1) c0 ∧ OwnC w' bs 28 1 (.slice A0 (j + 1) c0) (j + 1) (rwL Dr (fun _ => m) dp j ++ [.slice A1 m c1]) ∧ apB (Value.slice DB j db).ownBlock (.slice A0 (j + 1) c0), fun zz _ => zz = .pointer (some ⟨g9, 2, none⟩), fun zz _ => zz = .slice DB j db, fun zz _ => zz = .pointer (some ⟨g7, 0, none⟩), fun zz _ => zz = .slice (some adC) n yc, fun zz _ => zz = .int .i64 ((j : Int)), fun zz _ => zz = .pointer (some (Addr.add adC (j * 3))), Rw (2) (C j), Rv (2) (-(C j)), OneN (2) (-(C j)), fun v w' => ∃ (A0 : Option Addr) (c0 : Nat), v = .slice A0 (j + 1) c0 ∧ OR w' bs (.slice A0 (j + 1) c0) (j + 1) (PN w' 2 (fun l => -(C l))) ∧ ∀ l, l < j + 2 → apB (Value.slice A0 (j + 1) c0).ownBlock (dRv A9 c9 m (put1 Dr j A1) (put1 dp j c1) l), fun zz _ => zz = .pointer (some ⟨g9, 1, none⟩)] 16 [(4, fun w w' => w.grownBy w' (Value.slice DA j da).ownBlock ∧ KeepsN w w'), (14, fun w w' => w.grownBy w' (Value.slice DB j db).ownBlock ∧ KeepsN w w')] [(4, 3), (14, 3), (14, 13), (4, 12), (4, 13), (4, 14)] [(4, 0), (14, 1)] (by kernel_rfl) (by kernel_rfl) (by kernel_rfl) ⟨rfl, rfl, rfl, rfl, trivial⟩ HXr.out ?_ (fun _ _ h hb => h.below hb) ?_ ?_ ?_ ?_ ?_
              · exact fun e => match e with | 0 => HlA.out | 1 => HlB.out | _ + 2 => trivial
              · exact fun e => match e with | 0 => fun _ _ h hb => h.below hb | 1 => fun _ _ h hb => h.newN hb | _ + 2 => fun _ _ _ _ => trivial
              · exact ⟨fun _ _ _ h _ => h, fun _ _ _ h _ => h, fun _ _ _ h _ => h, fun _ _ _ ⟨g0, h1, h2⟩ hb => ⟨g0, h1, h2.keep hb⟩, fun _ _ _ ⟨A0, c0, h1, h2, h3⟩ hb => ⟨A0, c0, h1, h2.below hb, h3⟩, fun _ _ _ h _ => h, fun _ _ _ h _ => h, fun _ _ _ h _ => h, fun _ _ _ h _ => h, fun _ _ _ h _ => h, fun _ _ _ h _ => h, fun _ _ _ h hb => h.new hb, fun _ _ _ h hb => h.new hb, fun _ _ _ h hb => h.new hb, fun _ _ _ ⟨A0, c0, h1, h2, h3⟩ hb => ⟨A0, c0, h1, h2.newN hb, h3⟩, fun _ _ _ h _ => h, trivial⟩
              · exact ⟨⟨fun _ _ h ht => h.grown ht.1 ht.2 HBA.out HSt.out HApA.out, fun e => match e with | 0 => (fun _ _ h => absurd h (by decide)) | 1 => (fun _ _ _ _ h ht => h.kept ht.1 HApC.out fun _ _ _ hv => PN.keep hv ht.2) | _ + 2 => fun _ _ _ _ _ _ => trivial, ⟨.inr (fun _ _ _ _ h _ => h), .inr (fun _ _ _ _ h _ => h), .inr (fun _ _ _ _ h _ => h), .inl rfl, .inl rfl, .inr (fun _ _ _ _ h _ => h), .inr (fun _ _ _ _ h _ => h), .inr (fun _ _ _ _ h _ => h), .inr (fun _ _ _ _ h _ => h), .inr (fun _ _ _ _ h _ => h), .inr (fun _ _ _ _ h _ => h), .inr (fun _ _ _ _ h ht => h.keepN ht.2), .inl rfl, .inl rfl, .inl rfl, .inr (fun _ _ _ _ h _ => h), trivial⟩⟩, ⟨fun _ _ h ht => h.grown ht.1 ht.2 HBB.out HSt.out HApB.out, fun e => match e with | 0 => (fun _ _ _ _ h ht => h.kept ht.1 (apB.symm HApC.out)) | 1 => (fun _ _ h => absurd h (by decide)) | _ + 2 => fun _ _ _ _ _ _ => trivial, ⟨.inr (fun _ _ _ _ h _ => h), .inr (fun _ _ _ _ h _ => h), .inr (fun _ _ _ _ h _ => h), .inl rfl, .inr (fun _ _ _ _ ⟨A0, c0, h1, h2, h3⟩ ht => ⟨A0, c0, h1, h2.kept ht.1 h3, h3⟩), .inr (fun _ _ _ _ h _ => h), .inr (fun _ _ _ _ h _ => h), .inr (fun _ _ _ _ h _ => h), .inr (fun _ _ _ _ h _ => h), .inr (fun _ _ _ _ h _ => h), .inr (fun _ _ _ _ h _ => h), .inr (fun _ _ _ _ h ht => h.keepN ht.2), .inr (fun _ _ _ _ h ht => h.keepN ht.2), .inl rfl, .inl rfl, .inr (fun _ _ _ _ h _ => h), trivial⟩⟩, trivial⟩
              · refine ⟨?_, ?_, ?_, ?_, ?_, ?_, ?_, ?_, ?_, ?_, ?_, ?_, ?_, ?_, ?_, ?_, trivial⟩
                · exact obT_plain rfl (fun aa ww hI hE he hd => have hb := Below.refl ww.heap.size ww; ob_plain rfl (fld_prb rfl (by decide) he.1))
                · exact obT_plain rfl (fun aa ww hI hE he hd => have hb := Below.refl ww.heap.size ww; ob_plain rfl (load_c29 rfl hd.1 (Blk.at1 hI.x hb)))
                · exact obT_plain rfl (fun aa ww hI hE he hd => have hb := Below.refl ww.heap.size ww; ob_plain rfl (gives_move _ rfl ⟨he.2.1, Below.refl _ _⟩))
                · exact obT_plain rfl (fun aa ww hI hE he hd => have hb := Below.refl ww.heap.size ww; ob_plain rfl (gives_mono (gives_bs_rows rfl hd.1) (fun v w' ⟨⟨g0, h3, h4⟩, h5⟩ => ⟨⟨g0, h3, h4⟩, h5⟩)))
                · exact obT_spec rfl rfl (fun aa ww hI hE he hd => (by obtain ⟨g0, h1, h2⟩ := hd.2.1; exact gives_mono (gives_app_rows (s := .tmp 71) (x := .tmp 73) rfl bs (.slice DA j da) j _ hd.1 (hE 0 (by kernel_rfl)) g0 A1 m c1 h1 h2 (by omega) (Nat.le_trans HS0.out.2 hI.low)) (fun v w' ⟨q1, q2, q3, q4⟩ => by obtain ⟨A0, c0, rfl⟩ := own_form q1.own; exact ⟨⟨A0, c0, rfl, q1, app_apart q3 (apB.symm HApC.out) HltB.out hI.low⟩, q2, q4⟩)))
                · exact obT_plain rfl (fun aa ww hI hE he hd => have hb := Below.refl ww.heap.size ww; ob_plain rfl (fld_prb rfl (by decide) he.1))
                · exact obT_plain rfl (fun aa ww hI hE he hd => have hb := Below.refl ww.heap.size ww; ob_plain rfl (load_c28 rfl hd.1 (Blk.at2 hI.x hb)))
                · exact obT_plain rfl (fun aa ww hI hE he hd => have hb := Below.refl ww.heap.size ww; ob_plain rfl (fld_prb rfl (by decide) he.2.2.1))
                · exact obT_plain rfl (fun aa ww hI hE he hd => have hb := Below.refl ww.heap.size ww; ob_plain rfl (load_c28 rfl hd.1 (Blk.at0 hI.y hb)))
                · exact obT_plain rfl (fun aa ww hI hE he hd => have hb := Below.refl ww.heap.size ww; ob_plain rfl (gives_move _ rfl ⟨he.2.2.2.1, Below.refl _ _⟩))
                · exact obT_plain rfl (fun aa ww hI hE he hd => have hb := Below.refl ww.heap.size ww; ob_plain rfl (idx_rs (by omega) rfl hd.1 hd.2.1))
                · exact obT_plain rfl (fun aa ww hI hE he hd => have hb := Below.refl ww.heap.size ww; ob_plain rfl (load_rw rfl hd.1 ((PrW.new HP0.out hI.h5).c) (by omega)))
                · exact obT_plain rfl (fun aa ww hI hE he hd => have hb := Below.refl ww.heap.size ww; ob_plain rfl (gives_call1 _ _ _ rfl (by kernel_rfl) (neg_v (hd.1) (by omega))))
                · exact obT_plain rfl (fun aa ww hI hE he hd => have hb := Below.refl ww.heap.size ww; ob_plain rfl (gives_one_n rfl hd.1))
                · exact obT_spec rfl rfl (fun aa ww hI hE he hd => (by obtain ⟨A7, h1, h2⟩ := hd.2.1; exact gives_mono (gives_push_one (s := .tmp 76) (x := .tmp 83) rfl bs (.slice DB j db) j _ hd.1 (hE 1 (by kernel_rfl)) ww.heap.size A7 1 _ h1 h2 (by omega) (Nat.le_trans HS0.out.2 hI.low)) (fun v w' ⟨q1, q2, q3, q4⟩ => by have hO := q1 (PN w' 2 (fun l => -(C l))) (fun l u hl hv => PN.keep hv q4) (fun u hv => PN.keep (f := fun _ => -(C j)) (j := 0) hv q4); obtain ⟨A0, c0, rfl⟩ := hO.form; exact ⟨⟨A0, c0, rfl, hO, fun l hl => app_apart2 q3 (HApB.out l hl) (fun k hk => ((hI.rr l hl).lt k hk).2)⟩, q2, q4⟩)))
                · exact obT_plain rfl (fun aa ww hI hE he hd => have hb := Below.refl ww.heap.size ww; ob_plain rfl (fld_prb rfl (by decide) he.1))
              intro vs w10 hX hR
              obtain ⟨A19, c19, e74, o74, -⟩ := hR 4 (by decide) (by kernel_rfl)
              obtain ⟨A20, c20, e84, o84, p84⟩ := hR 14 (by decide) (by kernel_rfl)
              have e85 : vs 15 = .pointer (some ⟨g9, 1, none⟩) := hR 15 (by decide) (by kernel_rfl)
              clear hR
              simp only [putsL, Nat.zero_add, Nat.reduceAdd, List.take_succ_cons, List.take_zero, Act.put, List.setIfInBounds_toArray, List.set_cons_zero, List.set_cons_succ]
              rw [e74, e84, e85]
              clear e74 e84 e85
              have hnx := hX.next HS0.out.2 HBs.out.2.2.2.2.2.1 HBs.out.2.2.2.2.2.2 o74 o84 p84
              have hx1 : Blk (w10.setCell ⟨g9, 1, none⟩ (.slice A19 (j + 1) c19)) g9 31 #[.slice A9 m c9, .slice A19 (j + 1) c19, .slice DB j db] := hX.x.set_ 1 _
              show wpAny _ _ _ _ 3 _ _ _
              refine wpAny_next (i := 16) (by kernel_rfl) rfl rfl (wp_store_c29 rfl rfl rfl rfl (Blk.at1 hX.x (Below.refl _ _)) (hX.x.frozen 1) ?_)
              refine wpAny_next (i := 17) (by kernel_rfl) rfl rfl (wp_of_gives (fld_prb_w rfl (by decide) rfl) ?_)
              rintro _ w11 ⟨rfl, rfl⟩
              show wpAny _ _ _ _ _ _ (Act.put _ (some 86) _) _
              simp only [Act.put, List.setIfInBounds_toArray, List.set_cons_zero, List.set_cons_succ]
              refine wpAny_next (i := 18) (by kernel_rfl) rfl rfl (store_c28 rfl rfl rfl rfl (Blk.at2 hx1 (Below.refl _ _)) (hx1.frozen 2) ?_)
              refine wpAny_end (by kernel_rfl) (calm_normal ?_) _
              have HDn := Lib.hid hnx
              clear hX o74 o84 p84 hnx hx1 HXr HlA HlB HBA HBB HltA HltB HApA HApB HApC HSt HS0 HO HB6 HDr HD HB8
              generalize (w10.setCell ⟨g9, 1, none⟩ (.slice A19 (j + 1) c19)).setCell ⟨g9, 2, none⟩ (.slice A20 (j + 1) c20) = w12 at *
              go_wp2_with fail
              go_roundg (G - 1)
              case measure => omega
              case rel => exact ⟨j + 1, A19, A20, c19, c20, _, _, by go_num, by omega, HDn⟩
        · obtain rfl : n = j := by omega
          have HPd := Lib.hid HD.out.fin
          have HPy := Lib.hid (PrW.new HP0.out HD.out.X.h5)
          have HY := Lib.hid HD.out.X.y; have HU := Lib.hid HD.out.X.x; have HB := Lib.hid HD.out.X.hb
          clear HD HBs
          have y0 := Blk.at0 HY.out (Below.refl _ _); have y1 := Blk.at1 HY.out (Below.refl _ _); have y2 := Blk.at2 HY.out (Below.refl _ _)
          go_upto_region 20 with (fail)
          go_wp2_with fail
          refine (solve_any n m 2 yc ya yb YC YA YB Yr (fun _ => n) yp A C B w6 HPy.out (fun _ _ => rfl) (by omega) (by omega) (by omega) HF.out).mono ?_
          rintro e w21 ⟨AX, kX, cX, AY, kY, cY, AR, kR, cR, s, A0, k0, c0, B0, m0, d0, q, rfl, hs, hln, hX, hY, hR, hV, hb⟩
          replace HPd := Lib.hid (HPd.out.new hb)
          replace HPy := Lib.hid (HPy.out.new hb)
          replace HY := Lib.hid (HY.out.keep hb)
          replace HU := Lib.hid (HU.out.keep hb)
          replace HB := Lib.hid (bthen HB.out hb HB.out.size)
          clear hb
          have HS := Lib.hid hs; have HV := Lib.hid hV; clear hs hV
          clear hX hY hR hln
          go_upto_region 21 with (fail)
          have hbw := al w21 (.cells #[.int .i64 (q.out : Int), .slice AX kX cX, .slice AY kY cY, .slice AR kR cR, .bool s, .slice A0 k0 c0, .slice B0 m0 d0] 43)
          have HZ := Lib.hid (Blk.new w21 43 #[.int .i64 (q.out : Int), .slice AX kX cX, .slice AY kY cY, .slice AR kR cR, .bool s, .slice A0 k0 c0, .slice B0 m0 d0])
          replace HPd := Lib.hid (HPd.out.new hbw)
          replace HPy := Lib.hid (HPy.out.new hbw)
          replace HY := Lib.hid (HY.out.keep hbw)
          replace HU := Lib.hid (HU.out.keep hbw)
          replace HB := Lib.hid (bthen HB.out hbw HB.out.size)
          replace HV := Lib.hid (HV.out.new hbw)
          clear hbw
          generalize w21.alloc (.cells #[.int .i64 (q.out : Int), .slice AX kX cX, .slice AY kY cY, .slice AR kR cR, .bool s, .slice A0 k0 c0, .slice B0 m0 d0] 43) = w22 at *
          obtain ⟨g10, hg10⟩ : ∃ g10, g10 = w21.heap.size := ⟨_, rfl⟩
          rw [← hg10] at HZ ⊢
          have HGg10 := Lib.hid (show w21.heap.size ≤ g10 from by omega)
          clear hg10
          clear y0 y1 y2
          have u0 := Blk.at0 HU.out (Below.refl _ _); have u1 := Blk.at1 HU.out (Below.refl _ _); have u2 := Blk.at2 HU.out (Below.refl _ _)
          go_wp2_with fail
          refine (solve_any m n 2 c9 da db A9 DA DB Dr (fun _ => m) dp (fun l i => -(A i l)) (fun i => -(B i)) (fun l => -(C l)) w22 HPd.out (fun _ _ => rfl) (by omega) (by omega) (by omega) HF2.out).mono ?_
          rintro e w23 ⟨AXq, kXq, cXq, AYq, kYq, cYq, ARq, kRq, cRq, sq, A0q, k0q, c0q, B0q, m0q, d0q, qq, rfl, hs, hln, hX, hY, hR, hV, hb⟩
          replace HPd := Lib.hid (HPd.out.new hb)
          replace HPy := Lib.hid (HPy.out.new hb)
          replace HY := Lib.hid (HY.out.keep hb)
          replace HU := Lib.hid (HU.out.keep hb)
          replace HB := Lib.hid (bthen HB.out hb HB.out.size)
          replace HV := Lib.hid (HV.out.new hb)
          replace HZ := Lib.hid (HZ.out.keep hb)
          clear hb
          have HSq := Lib.hid hs; have HVq := Lib.hid hV; clear hs hV
          clear hX hY hR hln
          go_upto_region 22 with (fail)
          have hbw := al w23 (.cells #[.int .i64 (qq.out : Int), .slice AXq kXq cXq, .slice AYq kYq cYq, .slice ARq kRq cRq, .bool sq, .slice A0q k0q c0q, .slice B0q m0q d0q] 43)
          have HW := Lib.hid (Blk.new w23 43 #[.int .i64 (qq.out : Int), .slice AXq kXq cXq, .slice AYq kYq cYq, .slice ARq kRq cRq, .bool sq, .slice A0q k0q c0q, .slice B0q m0q d0q])
          replace HPd := Lib.hid (HPd.out.new hbw)
          replace HPy := Lib.hid (HPy.out.new hbw)
          replace HY := Lib.hid (HY.out.keep hbw)
          replace HU := Lib.hid (HU.out.keep hbw)
          replace HB := Lib.hid (bthen HB.out hbw HB.out.size)
          replace HV := Lib.hid (HV.out.new hbw)
          replace HZ := Lib.hid (HZ.out.keep hbw)
          replace HVq := Lib.hid (HVq.out.new hbw)
          clear hbw
          generalize w23.alloc (.cells #[.int .i64 (qq.out : Int), .slice AXq kXq cXq, .slice AYq kYq cYq, .slice ARq kRq cRq, .bool sq, .slice A0q k0q c0q, .slice B0q m0q d0q] 43) = w24 at *
          obtain ⟨g12, hg12⟩ : ∃ g12, g12 = w23.heap.size := ⟨_, rfl⟩
          rw [← hg12] at HW ⊢
          have HGg12 := Lib.hid (show w23.heap.size ≤ g12 from by omega)
          clear hg12
          clear u0 u1 u2
          have hc := HS.out.cert.duals HSq.out.cert
          rcases HS.out.cert.outs with ho | ho | ho
          · have HO := Lib.hid ho
            have z0 : w24.cell? ⟨g10, 0, none⟩ = some (.int .i64 0) := by have hh := Blk.at0 HZ.out (Below.refl _ _); rw [ho] at hh; exact hh
            have HO2 := Lib.hid (hc.1 ho).1; have HV2 := Lib.hid (hc.1 ho).2
            clear hc ho
            go_upto_region 26 with (fail)
            clear z0
            refine wp_region_each (kss := [[], [(0, 107)], [(1, 108)], [(2, 109)], [(3, 110)], [(3, 110), (4, 111)], [(3, 110)], [(3, 110), (6, 113)], [(3, 110), (7, 114)], [(3, 110), (5, 112), (8, 115)], [(3, 110), (9, 116)], [(3, 110), (10, 117)], [(11, 118)], [(12, 119)], [(12, 119), (13, 120)], [(14, 121)]]) [(12, .pointer (some ⟨g12, 0, none⟩)), (10, .pointer (some ⟨g10, 0, none⟩))] [fun zz _ => zz = .pointer (some ⟨g12, 0, none⟩), fun zz _ => zz = .int .i64 ((qq.out : Int)), fun zz _ => zz = .bool true, fun zz _ => zz = .bool true, fun zz _ => zz = .pointer (some ⟨g12, 4, none⟩), Rw (140) (qq.v), fun zz _ => zz = .pointer (some ⟨g10, 4, none⟩), Rw (140) (q.v), Rv (140) (-(q.v)), fun zz _ => zz = .int .i64 (rcq (qq.v) (-(q.v))), fun zz _ => zz = .bool true, fun zz _ => zz = .bool true, fun zz _ => zz = .bool true, fun zz _ => zz = .bool true, fun zz _ => zz = .bool true, fun zz _ => zz = .bool true] (by kernel_rfl) (by kernel_rfl) ⟨rfl, rfl, trivial⟩ ?_ ?_ ?_
            · exact ⟨fun _ _ _ h _ => h, fun _ _ _ h _ => h, fun _ _ _ h _ => h, fun _ _ _ h _ => h, fun _ _ _ h _ => h, fun _ _ _ h hb => h.new hb, fun _ _ _ h _ => h, fun _ _ _ h hb => h.new hb, fun _ _ _ h hb => h.new hb, fun _ _ _ h _ => h, fun _ _ _ h _ => h, fun _ _ _ h _ => h, fun _ _ _ h _ => h, fun _ _ _ h _ => h, fun _ _ _ h _ => h, fun _ _ _ h _ => h, trivial⟩
            · refine ⟨?_, ?_, ?_, ?_, ?_, ?_, ?_, ?_, ?_, ?_, ?_, ?_, ?_, ?_, ?_, ?_, trivial⟩
              · exact fun aa ww hb he hd => ob_plain rfl (fld_sol rfl (by decide) he.1)
              · exact fun aa ww hb he hd => ob_plain rfl (load_c3 rfl hd.1 (Blk.at0 HW.out hb))
              · exact fun aa ww hb he hd => ob_plain rfl (gives_eq_int ((qq.out : Int)) 0 .i64 _ _ _ _ rfl hd.1 rfl ⟨congrArg Value.bool (by rw [HO2.out]; rfl), Below.refl _ _⟩)
              · exact fun aa ww hb he hd => ob_plain rfl (gives_move _ rfl ⟨hd.1, Below.refl _ _⟩)
              · exact fun aa ww hb he hd => ob_on 110 rfl (by kernel_rfl) hd.1 (fld_sol rfl (by decide) he.1)
              · exact fun aa ww hb he hd => ob_on 110 rfl (by kernel_rfl) hd.1 (load_sv rfl hd.2.1 (Blk.keep HW.out hb) (Rw.new HVq.out hb))
              · exact fun aa ww hb he hd => ob_on 110 rfl (by kernel_rfl) hd.1 (fld_sol rfl (by decide) he.2.1)
              · exact fun aa ww hb he hd => ob_on 110 rfl (by kernel_rfl) hd.1 (load_sv rfl hd.2.1 (Blk.keep HZ.out hb) (Rw.new HV.out hb))
              · exact fun aa ww hb he hd => ob_on 110 rfl (by kernel_rfl) hd.1 (gives_call1 _ _ _ rfl (by kernel_rfl) (neg_v (hd.2.1) (by omega)))
              · exact fun aa ww hb he hd => ob_on 110 rfl (by kernel_rfl) hd.1 (gives_call2 _ _ _ _ rfl (by kernel_rfl) (cmp_v (hd.2.1) (hd.2.2.1.rw) (by omega)))
              · exact fun aa ww hb he hd => ob_on 110 rfl (by kernel_rfl) hd.1 (gives_eq_int (rcq (qq.v) (-(q.v))) 0 .i64 _ _ _ _ rfl hd.2.1 rfl ⟨congrArg Value.bool (rcq_eqd HV2.out), Below.refl _ _⟩)
              · exact fun aa ww hb he hd => ob_plain rfl (gives_pick true _ _ _ rfl hd.1 ⟨hd.2.1, Below.refl _ _⟩)
              · exact fun aa ww hb he hd => ob_plain rfl (gives_move _ rfl ⟨hd.1, Below.refl _ _⟩)
              · exact fun aa ww hb he hd => ob_on 119 rfl (by kernel_rfl) hd.1 (gives_call0 _ _ rfl (by kernel_rfl) (rv_one (awake_any _)))
              · exact fun aa ww hb he hd => ob_plain rfl (gives_pick true _ _ _ rfl hd.1 ⟨hd.2.1, Below.refl _ _⟩)
              · exact fun aa ww hb he hd => ob_plain rfl (gives_assign _ rfl ⟨hd.1, Below.refl _ _⟩)
            intro vs w25 hb hR
            have e2 : vs 15 = .bool true := hR 15 (by decide)
            clear hR
            simp only [putsL, Nat.zero_add, Nat.reduceAdd, List.take_succ_cons, List.take_zero, Act.put, List.setIfInBounds_toArray, List.set_cons_zero, List.set_cons_succ]
            rw [e2]
            clear e2
            go_wp2_with fail
            go_ret
            exact ⟨rfl, bthen HB.out hb HB.out.size⟩
          · have HO := Lib.hid ho
            have z0 : w24.cell? ⟨g10, 0, none⟩ = some (.int .i64 1) := by have hh := Blk.at0 HZ.out (Below.refl _ _); rw [ho] at hh; exact hh
            have HO2 := Lib.hid (hc.2.2 ho)
            clear hc ho
            go_upto_region 29 with (fail)
            clear z0
            refine wp_region_seq (kss := [[], [(0, 130)], [(1, 131)], [(2, 132)], [(3, 133)], [(3, 133), (4, 134)], [(5, 135)]]) [(12, .pointer (some ⟨g12, 0, none⟩))] [fun zz _ => zz = .pointer (some ⟨g12, 0, none⟩), fun zz _ => zz = .int .i64 ((qq.out : Int)), fun zz _ => zz = .bool true, fun zz _ => zz = .bool true, fun zz _ => zz = .bool true, fun zz _ => zz = .bool true, fun zz _ => zz = .bool true] (by kernel_rfl) ⟨rfl, trivial⟩ ?_ ?_ ?_
            · exact ⟨fun _ _ _ h _ => h, fun _ _ _ h _ => h, fun _ _ _ h _ => h, fun _ _ _ h _ => h, fun _ _ _ h _ => h, fun _ _ _ h _ => h, fun _ _ _ h _ => h, trivial⟩
            · refine ⟨?_, ?_, ?_, ?_, ?_, ?_, ?_, trivial⟩
              · exact fun aa ww hb he hd => ob_plain rfl (fld_sol rfl (by decide) he.1)
              · exact fun aa ww hb he hd => ob_plain rfl (load_c3 rfl hd.1 (Blk.at0 HW.out hb))
              · exact fun aa ww hb he hd => ob_plain rfl (gives_ne_int ((qq.out : Int)) 0 .i64 _ _ _ _ rfl hd.1 rfl ⟨congrArg Value.bool (by have := HO2.out; simp; omega), Below.refl _ _⟩)
              · exact fun aa ww hb he hd => ob_plain rfl (gives_move _ rfl ⟨hd.1, Below.refl _ _⟩)
              · exact fun aa ww hb he hd => ob_on 133 rfl (by kernel_rfl) hd.1 (gives_call0 _ _ rfl (by kernel_rfl) (rv_one (awake_any _)))
              · exact fun aa ww hb he hd => ob_plain rfl (gives_pick true _ _ _ rfl hd.1 ⟨hd.2.1, Below.refl _ _⟩)
              · exact fun aa ww hb he hd => ob_plain rfl (gives_assign _ rfl ⟨hd.1, Below.refl _ _⟩)
            intro vs w25 hb hR
            have e2 : vs 6 = .bool true := hR 6 (by decide)
            clear hR
            simp only [putsL, Nat.zero_add, Nat.reduceAdd, List.take_succ_cons, List.take_zero, Act.put, List.setIfInBounds_toArray, List.set_cons_zero, List.set_cons_succ]
            rw [e2]
            clear e2
            go_wp2_with fail
            go_ret
            exact ⟨rfl, bthen HB.out hb HB.out.size⟩
          · have HO := Lib.hid ho
            have z0 : w24.cell? ⟨g10, 0, none⟩ = some (.int .i64 2) := by have hh := Blk.at0 HZ.out (Below.refl _ _); rw [ho] at hh; exact hh
            have HO2 := Lib.hid (hc.2.1 ho)
            clear hc ho
            go_upto_region 28 with (fail)
            clear z0
            refine wp_region_seq (kss := [[], [(0, 124)], [(1, 125)], [(2, 126)], [(3, 127)], [(3, 127), (4, 128)], [(5, 129)]]) [(12, .pointer (some ⟨g12, 0, none⟩))] [fun zz _ => zz = .pointer (some ⟨g12, 0, none⟩), fun zz _ => zz = .int .i64 ((qq.out : Int)), fun zz _ => zz = .bool true, fun zz _ => zz = .bool true, fun zz _ => zz = .bool true, fun zz _ => zz = .bool true, fun zz _ => zz = .bool true] (by kernel_rfl) ⟨rfl, trivial⟩ ?_ ?_ ?_
            · exact ⟨fun _ _ _ h _ => h, fun _ _ _ h _ => h, fun _ _ _ h _ => h, fun _ _ _ h _ => h, fun _ _ _ h _ => h, fun _ _ _ h _ => h, fun _ _ _ h _ => h, trivial⟩
            · refine ⟨?_, ?_, ?_, ?_, ?_, ?_, ?_, trivial⟩
              · exact fun aa ww hb he hd => ob_plain rfl (fld_sol rfl (by decide) he.1)
              · exact fun aa ww hb he hd => ob_plain rfl (load_c3 rfl hd.1 (Blk.at0 HW.out hb))
              · exact fun aa ww hb he hd => ob_plain rfl (gives_eq_int ((qq.out : Int)) 1 .i64 _ _ _ _ rfl hd.1 rfl ⟨congrArg Value.bool (by rw [HO2.out]; rfl), Below.refl _ _⟩)
              · exact fun aa ww hb he hd => ob_plain rfl (gives_move _ rfl ⟨hd.1, Below.refl _ _⟩)
              · exact fun aa ww hb he hd => ob_on 127 rfl (by kernel_rfl) hd.1 (gives_call0 _ _ rfl (by kernel_rfl) (rv_one (awake_any _)))
              · exact fun aa ww hb he hd => ob_plain rfl (gives_pick true _ _ _ rfl hd.1 ⟨hd.2.1, Below.refl _ _⟩)
              · exact fun aa ww hb he hd => ob_plain rfl (gives_assign _ rfl ⟨hd.1, Below.refl _ _⟩)
            intro vs w25 hb hR
            have e2 : vs 6 = .bool true := hR 6 (by decide)
            clear hR
            simp only [putsL, Nat.zero_add, Nat.reduceAdd, List.take_succ_cons, List.take_zero, Act.put, List.setIfInBounds_toArray, List.set_cons_zero, List.set_cons_succ]
            rw [e2]
            clear e2
            go_wp2_with fail
            go_ret
            exact ⟨rfl, bthen HB.out hb HB.out.size⟩
end Go.Proofs.Ytamcibmjpmibdaa
