/-
Operations of regions that draw their order: what each kind yields.
rat.Text.
Small functions of the laws of layer 5: normal, same, great.
normal of the number 0.
same, great of the laws of layer 5.
rats and great of the laws of layer 5: arguments copied into a Rat.
awake of layer 5 returns true.
The reference of layer 5: gcd, abs, Low; is of the laws.
Operations of regions, met one by one: more kinds (tuples, lengths, bits, fields of boxed graphs).
-/
import Derived.Test.YtamcibmjpmibdaaK1
import Derived.OrdersHeld
import Derived.Test.YtamcibmjpmibdaaK4
namespace Go.Proofs.Ytamcibmjpmibdaa
open Go.RowKit

/-- What an operation yields, as a value and a world. -/
def gives (P : Program) (o : Oper) (ρ : Operand → Value) (w : World) (K : Value → World → Prop) : Prop :=
  match (execOp ρ o).run P w with
  | .ok (.value v) w' => K v w'
  | .ok .skip w' => K undef w'
  | .ok (.enter f args) w' => Calls P f args w' (fun e w'' => ∃ v, e = .returned v ∧ K v w'')
  | _ => False
theorem wp_of_gives {P : Program} {o : Oper} {a : Act} {w : World} {K : Value → World → Prop} {K' : Act → World → Prop} {Q : Exit → Act → World → Prop} (h : gives P o a.eval w K) (hk : ∀ v w', K v w' → K' (a.put o.dst v) w') : o.wp P a w K' Q := by
  unfold gives at h
  unfold Oper.wp
  generalize (execOp a.eval o).run P w = r at *
  cases r with
  | ok x w' =>
    cases x <;> simp only at h <;> simp only [Oper.upon]
    case value v => exact hk _ _ h
    case skip => exact hk _ _ h
    case enter f args =>
      refine h.mono ?_
      rintro e w'' ⟨v, rfl, hv⟩
      exact hk _ _ hv
  | halt x w' => exact absurd h (by simp)

def dstOf (ops : Array Oper) (i : Nat) : Option Tmp := (ops[i]?).bind (·.dst)
/-- The value of a slot. -/
def tv (a : Act) (t : Tmp) : Value := a.tmps.getD t undef
theorem eval_tmp (a : Act) (t : Tmp) : a.eval (.tmp t) = tv a t := rfl
/-- The slots that operation i looks at, and which operations of the region fill. -/
def looksDeps (ops : Array Oper) (m i : Nat) : List (Nat × Tmp) :=
  match ops[i]? with
  | none => []
  | some o => (List.range m).filterMap fun k => match dstOf ops k with | some t => if (o.looksAt ops).contains t then some (k, t) else none | none => none
/-- What operation i waits for. -/
def waitsFor (ops : Array Oper) (i : Nat) : List Nat := match ops[i]? with | some o => (o.after.toList.filter (Region.binds .any)).map (·.on) | none => []
/-- .. at once or through others. -/
def ancs (ops : Array Oper) (j : Nat) : List Nat := (List.range ops.size).reverse.foldl (fun S k => if S.contains k then S ++ waitsFor ops k else S) (waitsFor ops j)
theorem ancs_all {ops : Array Oper} {j : Nat} (L : Nat → Prop) (hj : ∀ k ∈ waitsFor ops j, L k) (hc : ∀ k, L k → ∀ i ∈ waitsFor ops k, L i) : ∀ k ∈ ancs ops j, L k := by
  unfold ancs
  generalize waitsFor ops j = S at hj
  generalize (List.range ops.size).reverse = q
  induction q generalizing S with
  | nil => exact hj
  | cons x q ih =>
    rw [List.foldl_cons]
    refine ih _ ?_
    split
    · rename_i hx
      intro k hk
      rcases List.mem_append.1 hk with h | h
      · exact hj k h
      · exact hc x (hj x (by simpa using hx)) k h
    · exact hj
theorem waits_of {ops : Array Oper} {i : Nat} {o : Oper} (ho : ops[i]? = some o) {L : Nat → Prop} (h : ∀ e ∈ o.after, Region.binds .any e = true → L e.on) : ∀ k ∈ waitsFor ops i, L k := by
  intro k hk
  simp only [waitsFor, ho, List.mem_map, List.mem_filter] at hk
  obtain ⟨e, ⟨he, hb⟩, rfl⟩ := hk
  exact h e (by simpa using he) hb
/-- An operation that no other disturbs. -/
def freeB (ops : Array Oper) (i : Nat) : Bool :=
  match ops[i]? with
  | none => false
  | some oi => (List.range ops.size).all fun j => j == i || (ancs ops i).contains j || match ops[j]? with
      | some oj => oj.after.any (fun e => Region.binds .any e && e.on == i) || oi.apart ops oj
      | none => true
theorem freeB_spec {ops : Array Oper} {i : Nat} {oi : Oper} (hi : ops[i]? = some oi) (h : freeB ops i = true) (j : Nat) (oj : Oper) (hj : ops[j]? = some oj) (hne : j ≠ i) (hna : j ∉ ancs ops i) (hno : ∀ e ∈ oj.after, Region.binds .any e = true → e.on ≠ i) : oi.apart ops oj = true := by
  simp only [freeB, hi, List.all_eq_true, List.mem_range] at h
  have h1 := h j (Array.getElem?_eq_some_iff.1 hj).1
  simp only [hj, Bool.or_eq_true, beq_iff_eq, hne, false_or, List.contains_iff_mem, hna] at h1
  rcases h1 with h1 | h1
  · obtain ⟨e, he, hb⟩ := Array.any_eq_true'.1 h1
    simp only [Bool.and_eq_true, beq_iff_eq] at hb
    exact absurd hb.2 (hno e he hb.1)
  · exact h1
/-- The check of a region's first m operations. -/
def joinB (ops : Array Oper) (m sz : Nat) (kss : List (List (Nat × Tmp))) (ts : List Tmp) (lq : List Nat) : Bool :=
  decide (m ≤ ops.size) && Region.noSelect ops &&
  ((List.range m).all fun i => match dstOf ops i with | some t => decide (t < sz) && !ts.contains t | none => true) &&
  ((List.range m).all fun i => (List.range m).all fun j => i == j || dstOf ops i == none || dstOf ops i != dstOf ops j) &&
  ((List.range m).all fun i => match ops[i]? with | some o => (o.after.all fun e => !Region.binds .any e || decide (e.on < i)) && (looksDeps ops m i).all fun k => o.after.any fun e => Region.binds .any e && e.on == k.1 | none => false) &&
  ((List.range m).map (looksDeps ops m) == kss) &&
  ((List.range (ops.size - m)).all fun j => (List.range m).all fun i => lq.contains i || (ancs ops (m + j)).contains i) &&
  (lq.all fun i => freeB ops i)

def factAt (R : List (Value → World → Prop)) (k : Nat) : Value → World → Prop := R.getD k (fun _ _ => True)
/-- The facts of the slots that an operation looks at. -/
def depFacts (R : List (Value → World → Prop)) (a : Act) (w : World) : List (Nat × Tmp) → Prop
  | [] => True
  | (k, t) :: r => factAt R k (tv a t) w ∧ depFacts R a w r
theorem depFacts_all {R : List (Value → World → Prop)} {a : Act} {w : World} : ∀ (ks : List (Nat × Tmp)), (∀ k ∈ ks, factAt R k.1 (tv a k.2) w) → depFacts R a w ks
  | [], _ => trivial
  | (k, t) :: r, h => ⟨h (k, t) (by simp), depFacts_all r (fun k' hk => h k' (by simp [hk]))⟩
/-- The slots from outside that the region reads. -/
def envFacts (a : Act) : List (Tmp × Value) → Prop
  | [] => True
  | (t, v) :: r => tv a t = v ∧ envFacts a r
theorem envFacts_keep {a a' : Act} : ∀ {env : List (Tmp × Value)}, (∀ t ∈ env.map (·.1), tv a' t = tv a t) → envFacts a env → envFacts a' env
  | [], _, _ => trivial
  | (t, v) :: r, h, ⟨h1, h2⟩ => ⟨(h t (by simp)).trans h1, envFacts_keep (fun t' ht => h t' (by simp at ht ⊢; exact .inr ht)) h2⟩

/-- A pointer to a new block. -/
def Fresh (v : Value) (w w' : World) : Prop := ∃ g, v = .pointer (some ⟨g, 0, none⟩) ∧ w.heap.size ≤ g ∧ g < w'.heap.size
/-- What has to be shown of one operation. -/
def Ob (P : Program) (ops : Array Oper) (w0 : World) (env : List (Tmp × Value)) (R : List (Value → World → Prop)) (o : Oper) (ks : List (Nat × Tmp)) (Ri : Value → World → Prop) (f : Bool) : Prop :=
  ∀ (a : Act) (w : World), Below w0.heap.size w0 w → envFacts a env → depFacts R a w ks →
    match f with
    | false => if Region.wanted o (yielded ops a.tmps) = true then gives P o a.eval w (fun v w' => Ri v w' ∧ Below w.heap.size w w') else Ri undef w
    | true => Region.wanted o (yielded ops a.tmps) = true ∧ gives P o a.eval w (fun v w' => (Ri v w' ∧ Below w.heap.size w w') ∧ Fresh v w w')
/-- .. of each operation; 'fl' marks those that make new blocks. -/
def Obs (P : Program) (ops : Array Oper) (w0 : World) (env : List (Tmp × Value)) (R : List (Value → World → Prop)) : List Oper → List (List (Nat × Tmp)) → List (Value → World → Prop) → List Bool → Prop
  | o :: l, ks :: r, Ri :: q, f :: fl => Ob P ops w0 env R o ks Ri f ∧ Obs P ops w0 env R l r q fl
  | _, [], [], [] => True
  | _, _, _, _ => False
theorem obs_get {P : Program} {ops : Array Oper} {w0 : World} {env : List (Tmp × Value)} {R : List (Value → World → Prop)} : ∀ (l : List Oper) (kss : List (List (Nat × Tmp))) (q : List (Value → World → Prop)) (fl : List Bool), Obs P ops w0 env R l kss q fl →
    ∀ i o ks, l[i]? = some o → kss[i]? = some ks → Ob P ops w0 env R o ks (q.getD i (fun _ _ => True)) (fl.getD i false)
  | o :: l, ks :: r, Ri :: q, f :: fl, ⟨h1, h2⟩, 0, o', ks', ho, hk => by simp at ho hk; subst ho; subst hk; exact h1
  | o :: l, ks :: r, Ri :: q, f :: fl, ⟨h1, h2⟩, i + 1, o', ks', ho, hk => by simpa using obs_get l r q fl h2 i o' ks' (by simpa using ho) (by simpa using hk)
  | _, [], _, _, _, i, o', ks', _, hk => by simp at hk
  | [], _ :: _, _, _, h, _, _, _, ho, _ => by simp at ho
  | _ :: _, _ :: _, [], _, h, _, _, _, _, _ => by simp [Obs] at h
  | _ :: _, _ :: _, _ :: _, [], h, _, _, _, _, _ => by simp [Obs] at h

section
variable {P : Program} {ops : Array Oper} {w0 : World} {env : List (Tmp × Value)} {R : List (Value → World → Prop)} {m : Nat}

theorem put_size (a : Act) (d : Option Tmp) (v : Value) : (a.put d v).tmps.size = a.tmps.size := by cases d <;> simp [Act.put]
theorem tv_put (a : Act) (d : Option Tmp) (v : Value) (t : Tmp) (h : d ≠ some t) : tv (a.put d v) t = tv a t := by
  cases d with
  | none => rfl
  | some d =>
    have hne : d ≠ t := fun e => h (by rw [e])
    simp [tv, Act.put, Array.getElem?_setIfInBounds_ne hne]
theorem tv_put_self (a : Act) (v : Value) (t : Tmp) (h : t < a.tmps.size) : tv (a.put (some t) v) t = v := by
  simp [tv, Act.put, h]

/-- The slots as they stand: those of the operations that have come up hold what they yielded. -/
def stOf (ops : Array Oper) (a0 : Act) (vs : Nat → Value) (L : Nat → Bool) : Nat → Act
  | 0 => a0
  | m + 1 => if L m = true then (stOf ops a0 vs L m).put (dstOf ops m) (vs m) else stOf ops a0 vs L m
def upd {α : Type} (f : Nat → α) (i : Nat) (x : α) : Nat → α := fun j => if j = i then x else f j
theorem upd_self {α : Type} (f : Nat → α) (i : Nat) (x : α) : upd f i x i = x := by simp [upd]
theorem upd_ne {α : Type} (f : Nat → α) {i j : Nat} (x : α) (h : j ≠ i) : upd f i x j = f j := by simp [upd, h]
theorem st_congr (a0 : Act) {vs vs' : Nat → Value} {L L' : Nat → Bool} : ∀ m, (∀ i, i < m → L i = L' i ∧ (L i = true → vs i = vs' i)) → stOf ops a0 vs L m = stOf ops a0 vs' L' m
  | 0, _ => rfl
  | m + 1, h => by
    obtain ⟨h1, h2⟩ := h m (by omega)
    rw [stOf, stOf, st_congr a0 m (fun i hi => h i (by omega)), ← h1]
    by_cases hl : L m = true
    · rw [if_pos hl, if_pos hl, h2 hl]
    · rw [if_neg hl, if_neg hl]
theorem st_put (a0 : Act) {vs : Nat → Value} {L : Nat → Bool} {i : Nat} (v : Value) : ∀ m, i < m → L i = false → (∀ j, j < m → j ≠ i → dstOf ops i = none ∨ dstOf ops i ≠ dstOf ops j) →
    stOf ops a0 (upd vs i v) (upd L i true) m = (stOf ops a0 vs L m).put (dstOf ops i) v
  | 0, h, _, _ => absurd h (by omega)
  | m + 1, h, hl, hd => by
    rw [stOf, stOf]
    by_cases hm : m = i
    · subst hm
      rw [if_pos (by rw [upd_self]), upd_self, if_neg (by rw [hl]; simp)]
      congr 1
      exact st_congr a0 m (fun j hj => ⟨upd_ne _ _ (by omega), fun _ => upd_ne _ _ (by omega)⟩)
    · rw [upd_ne _ _ hm, upd_ne _ _ hm, st_put a0 v m (by omega) hl (fun j hj hji => hd j (by omega) hji)]
      by_cases hlm : L m = true
      · rw [if_pos hlm, if_pos hlm]
        rcases hd m (by omega) hm with h0 | h0
        · rw [h0]; rfl
        · exact Act.put_comm _ _ _ (fun d h1 h2 => h0 (by rw [h1, h2]))
      · rw [if_neg hlm, if_neg hlm]
theorem st_size (a0 : Act) {vs : Nat → Value} {L : Nat → Bool} : ∀ m, (stOf ops a0 vs L m).tmps.size = a0.tmps.size
  | 0 => rfl
  | m + 1 => by
    rw [stOf]
    split
    · rw [put_size, st_size a0 m]
    · exact st_size a0 m
theorem st_out (a0 : Act) {vs : Nat → Value} {L : Nat → Bool} {t : Tmp} : ∀ m, (∀ i, i < m → dstOf ops i ≠ some t) → tv (stOf ops a0 vs L m) t = tv a0 t
  | 0, _ => rfl
  | m + 1, h => by
    rw [stOf]
    split
    · rw [tv_put _ _ _ _ (h m (by omega)), st_out a0 m (fun i hi => h i (by omega))]
    · exact st_out a0 m (fun i hi => h i (by omega))
theorem st_in (a0 : Act) {vs : Nat → Value} {L : Nat → Bool} {t : Tmp} {k : Nat} : ∀ m, k < m → dstOf ops k = some t → L k = true → t < a0.tmps.size → (∀ j, j < m → j ≠ k → dstOf ops j ≠ some t) → tv (stOf ops a0 vs L m) t = vs k
  | 0, h, _, _, _, _ => absurd h (by omega)
  | m + 1, h, hk, hl, ht, hd => by
    rw [stOf]
    by_cases hm : m = k
    · subst hm
      rw [if_pos hl, hk, tv_put_self _ _ _ (by rw [st_size]; exact ht)]
    · have ih := st_in (vs := vs) a0 m (by omega) hk hl ht (fun j hj hjk => hd j (by omega) hjk)
      split
      · rw [tv_put _ _ _ _ (hd m (by omega) hm), ih]
      · exact ih

/-- All that the operations yielded, in their slots. -/
def putsL (vs : Nat → Value) : Nat → List Oper → Act → Act
  | _, [], a => a
  | i, o :: r, a => putsL vs (i + 1) r (a.put o.dst (vs i))
theorem putsL_snoc (vs : Nat → Value) (o : Oper) : ∀ (l : List Oper) (i : Nat) (a : Act), putsL vs i (l ++ [o]) a = (putsL vs i l a).put o.dst (vs (i + l.length))
  | [], i, a => rfl
  | x :: l, i, a => by rw [List.cons_append, putsL, putsL, putsL_snoc vs o l]; congr 2; simp; omega
theorem st_all (l : List Oper) (a0 : Act) (vs : Nat → Value) : ∀ m, m ≤ l.length → stOf l.toArray a0 vs (fun _ => true) m = putsL vs 0 (l.take m) a0
  | 0, _ => by simp [stOf, putsL]
  | m + 1, h => by
    rw [stOf, if_pos rfl, st_all l a0 vs m (by omega), List.take_succ_eq_append_getElem (by omega), putsL_snoc]
    congr 1
    · simp [dstOf, show m < l.length by omega]
    · congr 1; simp; omega

theorem listed_upd (listed : Array Bool) (i : Nat) (hi : i < listed.size) : (fun j => (listed.setIfInBounds i true).getD j false) = upd (fun j => listed.getD j false) i true := by
  funext j
  simp only [upd]
  by_cases h : j = i
  · subst h; simp [hi]
  · simp [h, Array.getElem?_setIfInBounds_ne (Ne.symm h)]

/-- How many of the first m have not come up. -/
def left (L : Nat → Bool) : Nat → Nat
  | 0 => 0
  | m + 1 => left L m + if L m = true then 0 else 1
theorem left_congr {L L' : Nat → Bool} : ∀ m, (∀ i, i < m → L i = L' i) → left L m = left L' m
  | 0, _ => rfl
  | m + 1, h => by rw [left, left, left_congr m (fun i hi => h i (by omega)), h m (by omega)]
theorem left_upd {L : Nat → Bool} {i : Nat} : ∀ m, i < m → L i = false → left L m = left (upd L i true) m + 1
  | 0, h, _ => absurd h (by omega)
  | m + 1, h, hl => by
    rw [left, left]
    by_cases hm : m = i
    · subst hm
      rw [upd_self, hl, left_congr m (fun j hj => (upd_ne L true (by omega : j ≠ m)).symm)]
      simp
    · rw [upd_ne _ _ hm, left_upd m (by omega) hl]; omega
theorem left_zero {L : Nat → Bool} : ∀ m, left L m = 0 → ∀ i, i < m → L i = true
  | 0, _, i, hi => absurd hi (by omega)
  | m + 1, h, i, hi => by
    rw [left] at h
    by_cases hm : i = m
    · subst hm
      by_cases hl : L i = true
      · exact hl
      · rw [if_neg hl] at h; omega
    · exact left_zero m (by omega) i (by omega)
theorem left_pos {L : Nat → Bool} : ∀ m, left L m ≠ 0 → ∃ i, i < m ∧ L i = false ∧ ∀ j, j < i → L j = true
  | 0, h => absurd rfl h
  | m + 1, h => by
    by_cases h0 : left L m = 0
    · have hall := left_zero m h0
      rw [left, h0] at h
      refine ⟨m, by omega, ?_, hall⟩
      by_cases hl : L m = true
      · rw [if_pos hl] at h; omega
      · simpa using hl
    · obtain ⟨i, hi, h1, h2⟩ := left_pos m h0
      exact ⟨i, by omega, h1, h2⟩

def listM (n m : Nat) : Array Bool := (List.replicate m true ++ List.replicate (n - m) false).toArray
theorem listM_get (n m i : Nat) (b : Bool) (h : m ≤ n) : (listM n m).getD i b = if i < m then true else if i < n then false else b := by
  simp only [listM, Array.getD_eq_getD_getElem?, List.getElem?_toArray, List.getElem?_append, List.length_replicate, List.getElem?_replicate]
  by_cases h1 : i < m
  · simp [h1]
  · rw [if_neg h1, if_neg h1]
    by_cases h2 : i < n
    · rw [if_pos (by omega), if_pos h2]; rfl
    · rw [if_neg (by omega), if_neg h2]; rfl
/-- What has to be shown of an operation that may be late: it yields its value in whatever world. -/
def LOb (P : Program) (ops : Array Oper) (w0 : World) (env : List (Tmp × Value)) (R : List (Value → World → Prop)) (S : World → Prop) (o : Oper) (ks : List (Nat × Tmp)) (Ri : Value → World → Prop) : Prop :=
  ∀ (a : Act) (w : World), Below w0.heap.size w0 w → envFacts a env → depFacts R a w ks → Region.wanted o (yielded ops a.tmps) = true ∧ ∃ v, (∀ w', S w' → (execOp a.eval o).run P w' = .ok (.value v) w') ∧ Ri v w
/-- Each fact is kept. -/
def Stab : List (Value → World → Prop) → Prop
  | [] => True
  | Ri :: q => (∀ v w w', Ri v w → Below w.heap.size w w' → Ri v w') ∧ Stab q
theorem stab_get : ∀ {R : List (Value → World → Prop)}, Stab R → ∀ i v w w', factAt R i v w → Below w.heap.size w w' → factAt R i v w'
  | [], _, i, v, w, w', _, _ => by simp [factAt]
  | Ri :: q, ⟨h1, h2⟩, 0, v, w, w', h, hb => by simpa [factAt] using h1 v w w' (by simpa [factAt] using h) hb
  | Ri :: q, ⟨h1, h2⟩, i + 1, v, w, w', h, hb => by
    have := stab_get h2 i v w w' (by simpa [factAt] using h) hb
    simpa [factAt] using this

/-- Any order, nothing asked of the worlds. -/
theorem anyH_of_any {l : List Oper} {Q : Exit → Act → World → Prop} : ∀ (fuel : Nat) (listed : Array Bool) (a : Act) (w : World), wpAny P .any l.toArray Q fuel listed a w → wpAnyH P .any l.toArray Q (fun _ => True) fuel listed a w
  | 0, _, _, _, h => h
  | fuel + 1, _, _, _, h => ⟨h.1, fun i hi => wpOp_mono (fun a' w' h' => ⟨trivial, anyH_of_any fuel _ a' w' h'⟩) (h.2 i hi)⟩
theorem join_go {l : List Oper} {Q : Exit → Act → World → Prop} {a0 : Act} {sz : Nat} {kss : List (List (Nat × Tmp))} {lq : List Nat} {S : World → Prop} (hS : ∀ w', Below w0.heap.size w0 w' → S w') (hB : joinB l.toArray m sz kss (env.map (·.1)) lq = true) (hsz : a0.tmps.size = sz) (henv : envFacts a0 env)
    (fl : List Bool) (hlq : ∀ i ∈ lq, fl.getD i false = false ∧ (∀ o ks, l[i]? = some o → kss[i]? = some ks → LOb P l.toArray w0 env R S o ks (factAt R i)) ∧ ∀ d v c a w, Q (.panic c) (Act.put a d v) w → Q (.panic c) a w) (hst : Stab R) (hob : Obs P l.toArray w0 env R l kss R fl)
    (fin : ∀ vs w, Below w0.heap.size w0 w → (∀ i, i < m → factAt R i (vs i) w) → (∀ i j, i < m → j < m → i ≠ j → fl.getD i false = true → fl.getD j false = true → vs i ≠ vs j) → wpAnyH P .any l.toArray Q S (l.length - m) (listM l.length m) (putsL vs 0 (l.take m) a0) w) :
    ∀ (fuel : Nat) (listed : Array Bool) (vs : Nat → Value) (w : World), listed.size = l.length → (∀ j, m ≤ j → listed.getD j false = false) → (∀ k, listed.getD k false = true → ∀ i ∈ waitsFor l.toArray k, listed.getD i false = true) → fuel = l.length - m + left (fun i => listed.getD i false) m → Below w0.heap.size w0 w →
      (∀ i, i < m → listed.getD i false = true → factAt R i (vs i) w) → (∀ i, i < m → listed.getD i false = true → fl.getD i false = true → ∃ g, vs i = .pointer (some ⟨g, 0, none⟩) ∧ g < w.heap.size) → (∀ i j, i < m → j < m → i ≠ j → listed.getD i false = true → listed.getD j false = true → fl.getD i false = true → fl.getD j false = true → vs i ≠ vs j) → wpAnyH P .any l.toArray Q S fuel listed (stOf l.toArray a0 vs (fun i => listed.getD i false) m) w := by
  simp only [joinB, Bool.and_eq_true, decide_eq_true_eq, List.all_eq_true, List.mem_range, List.size_toArray] at hB
  obtain ⟨⟨⟨⟨⟨⟨⟨hm, hns⟩, hts⟩, hdis⟩, hdep⟩, hkss⟩, hrest⟩, hfree⟩ := hB
  have hkss : (List.range m).map (looksDeps l.toArray m) = kss := by simpa using hkss
  have hdist : ∀ i j, i < m → j < m → j ≠ i → dstOf l.toArray i = none ∨ dstOf l.toArray i ≠ dstOf l.toArray j := by
    intro i j hi hj hji
    have := hdis i hi j hj
    simp only [Bool.or_eq_true, beq_iff_eq, bne_iff_ne] at this
    rcases this with (h | h) | h
    · exact absurd h.symm hji
    · exact .inl h
    · exact .inr h
  intro fuel
  induction fuel with
  | zero =>
    intro listed vs w hls hj hcl hf hb hR hP hN
    have h0 : left (fun i => listed.getD i false) m = 0 := by omega
    have hall := left_zero m h0
    have e1 : listed = listM l.length m := by
      apply Array.ext
      · simp [hls, listM]; omega
      · intro i h1 h2
        have h3 := listM_get l.length m i false hm
        have h4 : listed.getD i false = listed[i] := by simp [h1]
        have h5 : (listM l.length m).getD i false = (listM l.length m)[i] := by simp [h2]
        rw [← h4, ← h5, h3]
        by_cases hi : i < m
        · rw [if_pos hi]; exact hall i hi
        · rw [if_neg hi, hj i (by omega)]; split <;> rfl
    have := fin vs w hb (fun i hi => hR i hi (hall i hi)) (fun i j hi hj' hij h1 h2 => hN i j hi hj' hij (hall i hi) (hall j hj') h1 h2)
    rw [show l.length - m = 0 by omega] at this
    rw [e1]
    rw [st_congr (vs' := vs) (L' := fun _ => true) a0 m (fun i hi => ⟨by rw [← e1]; exact hall i hi, fun _ => rfl⟩), st_all l a0 vs m hm]
    exact this
  | succ fuel ih =>
    intro listed vs w hls hj hcl hf hb hR hP hN
    by_cases h0 : left (fun i => listed.getD i false) m = 0
    · have hall := left_zero m h0
      have e1 : listed = listM l.length m := by
        apply Array.ext
        · simp [hls, listM]; omega
        · intro i h1 h2
          have h3 := listM_get l.length m i false hm
          have h4 : listed.getD i false = listed[i] := by simp [h1]
          have h5 : (listM l.length m).getD i false = (listM l.length m)[i] := by simp [h2]
          rw [← h4, ← h5, h3]
          by_cases hi : i < m
          · rw [if_pos hi]; exact hall i hi
          · rw [if_neg hi, hj i (by omega)]; split <;> rfl
      have := fin vs w hb (fun i hi => hR i hi (hall i hi)) (fun i j hi hj' hij h1 h2 => hN i j hi hj' hij (hall i hi) (hall j hj') h1 h2)
      rw [show l.length - m = fuel + 1 by omega] at this
      rw [e1]
      rw [st_congr (vs' := vs) (L' := fun _ => true) a0 m (fun i hi => ⟨by rw [← e1]; exact hall i hi, fun _ => rfl⟩), st_all l a0 vs m hm]
      exact this
    · obtain ⟨q, hq, hql, hqb⟩ := left_pos m h0
      have hqget : l.toArray[q]? = some l[q] := by simp [show q < l.length by omega]
      have hqr : q ∈ Region.ready .any l.toArray listed := by
        refine mem_ready.2 ⟨?_, l[q], hqget, fun e he hbe => ?_⟩
        · have : listed.getD q false = listed.getD q true := by simp [show q < listed.size by omega]
          rw [← this]; exact hql
        · have h1 := hdep q hq
          rw [hqget] at h1
          simp only [Bool.and_eq_true, Array.all_eq_true_iff_forall_mem, Bool.or_eq_true, Bool.not_eq_true', decide_eq_true_eq] at h1
          rcases h1.1 e he with h2 | h2
          · rw [hbe] at h2; cases h2
          · exact hqb _ h2
      have step : ∀ i o, i < m → i < listed.size → listed.getD i false = false → l.toArray[i]? = some o → (∀ e ∈ o.after, Region.binds .any e = true → listed.getD e.on false = true) →
          (envFacts (stOf l.toArray a0 vs (fun i => listed.getD i false) m) env ∧ depFacts R (stOf l.toArray a0 vs (fun i => listed.getD i false) m) w (looksDeps l.toArray m i)) ∧
          ∀ v w', factAt R i v w' → Below w.heap.size w w' → (fl.getD i false = true → Fresh v w w') → wpAnyH P .any l.toArray Q S fuel (listed.setIfInBounds i true) ((stOf l.toArray a0 vs (fun i => listed.getD i false) m).put o.dst v) w' := by
        intro i o him hil hun' ho hall
        have hdo : dstOf l.toArray i = o.dst := by simp only [dstOf, ho]; rfl
        have hmem : ∀ k ∈ looksDeps l.toArray m i, k.1 < m ∧ dstOf l.toArray k.1 = some k.2 ∧ listed.getD k.1 false = true := by
          intro k hk
          have h1 := hdep i him
          rw [ho] at h1
          simp only [Bool.and_eq_true, List.all_eq_true] at h1
          have h2 := h1.2 k hk
          rw [Array.any_eq_true'] at h2
          obtain ⟨e, he, h3⟩ := h2
          simp only [Bool.and_eq_true, beq_iff_eq] at h3
          have h4 := hall e he h3.1
          rw [h3.2] at h4
          simp only [looksDeps, ho, List.mem_filterMap, List.mem_range] at hk
          obtain ⟨x, hx, hx2⟩ := hk
          cases hd : dstOf l.toArray x with
          | none => rw [hd] at hx2; cases hx2
          | some t =>
            rw [hd] at hx2
            simp only at hx2
            split at hx2
            · injection hx2 with hx2; subst hx2; exact ⟨hx, hd, h4⟩
            · cases hx2
        refine ⟨⟨(envFacts_keep (fun t ht => st_out a0 m (fun j hj' hd => by
            have := hts j hj'
            rw [hd] at this
            simp only [Bool.and_eq_true, Bool.not_eq_true', ← Bool.not_eq_true, List.contains_iff_mem] at this
            exact this.2 ht)) henv), (depFacts_all _ (fun k hk => by
            obtain ⟨h1, h2, h3⟩ := hmem k hk
            have ht := hts k.1 h1
            rw [h2] at ht
            simp only [Bool.and_eq_true, decide_eq_true_eq] at ht
            rw [st_in (vs := vs) a0 m h1 h2 h3 (by rw [hsz]; exact ht.1) (fun j hj' hjk hd => by
              rcases hdist k.1 j h1 hj' hjk with h | h
              · rw [h2] at h; cases h
              · exact h (by rw [h2, hd]))]
            exact hR _ h1 h3))⟩, ?_⟩
        intro v w' hv hb' hfr
        have hsame : ∀ j, j ≠ i → (listed.setIfInBounds i true).getD j false = listed.getD j false := by
          intro j hji
          simp only [Array.getD_eq_getD_getElem?]; rw [Array.getElem?_setIfInBounds_ne (Ne.symm hji)]
        have h1 := ih (listed.setIfInBounds i true) (upd vs i v) w' (by simp [hls]) (fun j hj' => by
          have : (listed.setIfInBounds i true).getD j false = listed.getD j false := by simp only [Array.getD_eq_getD_getElem?]; rw [Array.getElem?_setIfInBounds_ne (by omega)]
          rw [this]; exact hj j hj') (fun k hk => by
            by_cases hki : k = i
            · subst hki
              intro x hx
              have hx' := waits_of ho (L := fun x => listed.getD x false = true) hall x hx
              by_cases hxi : x = k
              · subst hxi; rw [hun'] at hx'; cases hx'
              · rw [hsame x hxi]; exact hx'
            · intro x hx
              have hx' := hcl k (by rw [← hsame k hki]; exact hk) x hx
              by_cases hxi : x = i
              · subst hxi; rw [hun'] at hx'; cases hx'
              · rw [hsame x hxi]; exact hx') (by rw [listed_upd _ _ hil]; have := left_upd (L := fun i => listed.getD i false) m him hun'; omega) (bthen hb hb' hb.size) (fun j hj' hjl => by
            by_cases hji : j = i
            · subst hji; rw [upd_self]; exact hv
            · rw [upd_ne _ _ hji]
              refine stab_get hst j _ w w' (hR j hj' ?_) hb'
              have : (listed.setIfInBounds i true).getD j false = listed.getD j false := by simp only [Array.getD_eq_getD_getElem?]; rw [Array.getElem?_setIfInBounds_ne (Ne.symm hji)]
              rw [← this]; exact hjl)
          (fun j hj' hjl hjf => by
            by_cases hji : j = i
            · subst hji; rw [upd_self]; obtain ⟨g, h1, _, h3⟩ := hfr hjf; exact ⟨g, h1, h3⟩
            · rw [upd_ne _ _ hji]
              obtain ⟨g, h1, h2⟩ := hP j hj' (by rw [← hsame j hji]; exact hjl) hjf
              exact ⟨g, h1, Nat.lt_of_lt_of_le h2 hb'.size⟩)
          (fun j k hj' hk' hjk hjl hkl hjf hkf => by
            by_cases hji : j = i
            · subst hji
              rw [upd_self, upd_ne _ _ (Ne.symm hjk)]
              obtain ⟨g, h1, h2, _⟩ := hfr hjf
              obtain ⟨g', h4, h5⟩ := hP k hk' (by rw [← hsame k (Ne.symm hjk)]; exact hkl) hkf
              rw [h1, h4]; intro he; injection he with he; injection he with he; injection he with he; omega
            · by_cases hki : k = i
              · subst hki
                rw [upd_self, upd_ne _ _ hji]
                obtain ⟨g, h1, h2, _⟩ := hfr hkf
                obtain ⟨g', h4, h5⟩ := hP j hj' (by rw [← hsame j hji]; exact hjl) hjf
                rw [h1, h4]; intro he; injection he with he; injection he with he; injection he with he; omega
              · rw [upd_ne _ _ hji, upd_ne _ _ hki]
                exact hN j k hj' hk' hjk (by rw [← hsame j hji]; exact hjl) (by rw [← hsame k hki]; exact hkl) hjf hkf)
        rw [listed_upd _ _ hil, st_put a0 v m him hun' (fun j hj' hji => hdist i j him hj' hji), hdo] at h1
        exact h1
      by_cases hex : ∃ p, p < m ∧ listed.getD p false = false ∧ p ∉ lq
      · obtain ⟨p, hp, hpl, hplq⟩ := hex
        refine ⟨fun hnil => (by rw [hnil] at hqr; cases hqr), fun i hi => ?_⟩
        obtain ⟨hun, o, ho, hall⟩ := mem_ready.1 hi
        have hil : i < listed.size := by
          rcases Nat.lt_or_ge i listed.size with h | h
          · exact h
          · simp [h] at hun
        have hun' : listed.getD i false = false := by simpa [hil] using hun
        have him : i < m := by
          rcases Nat.lt_or_ge i m with h | h
          · exact h
          · exfalso
            have h1 := hrest (i - m) (by omega) p hp
            simp only [Bool.or_eq_true, List.contains_iff_mem] at h1
            rw [show m + (i - m) = i by omega] at h1
            have h1 := h1.resolve_left hplq
            have h2 := ancs_all (fun k => listed.getD k false = true) (waits_of ho hall) hcl p h1
            rw [hpl] at h2
            cases h2
        obtain ⟨⟨hE, hD⟩, next⟩ := step i o him hil hun' ho hall
        have hOb := obs_get l kss R fl hob i o (looksDeps l.toArray m i) (by simpa using ho) (by rw [← hkss]; simp [him]) (stOf l.toArray a0 vs (fun i => listed.getD i false) m) w hb hE hD
        unfold wpOp
        simp only [ho]
        cases hfl : fl.getD i false with
        | false =>
          rw [hfl] at hOb next
          simp only at hOb
          by_cases hw : Region.wanted o (yielded l.toArray (stOf l.toArray a0 vs (fun i => listed.getD i false) m).tmps) = true
          · rw [if_pos hw] at hOb ⊢
            exact .inl (wp_of_gives hOb (fun v w' ⟨h1, h2⟩ => ⟨hS _ (bthen hb h2 hb.size), next v w' h1 h2 (fun h => by cases h)⟩))
          · rw [if_neg hw] at hOb ⊢
            exact ⟨hS _ hb, next _ _ hOb (Below.refl _ _) (fun h => by cases h)⟩
        | true =>
          rw [hfl] at hOb next
          simp only at hOb
          rw [if_pos hOb.1]
          exact .inl (wp_of_gives hOb.2 (fun v w' ⟨⟨h1, h2⟩, h3⟩ => ⟨hS _ (bthen hb h2 hb.size), next v w' h1 h2 (fun _ => h3)⟩))
      · have hqlq : q ∈ lq := Classical.byContradiction fun h => hex ⟨q, hq, hql, h⟩
        have hall := (mem_ready.1 hqr).2
        obtain ⟨o, ho, hall⟩ := hall
        obtain ⟨⟨hE, hD⟩, next⟩ := step q o hq (by omega) hql ho hall
        obtain ⟨hfl, hL, hQ⟩ := hlq q hqlq
        obtain ⟨hw, v, hv, hRv⟩ := hL o (looksDeps l.toArray m q) (by simpa using ho) (by rw [← hkss]; simp [hq]) _ w hb hE hD
        refine wpAnyH_first ho (Region.noSelect_spec hns) (hQ _ _) fuel listed _ w ?_ hqr (.inl ⟨hw, hv⟩) (hS _ hb) (next v w hRv (Below.refl _ _) (fun h => by rw [hfl] at h; cases h))
        intro j oj hj' hne hunj hno
        refine freeB_spec ho (hfree q hqlq) j oj hj' hne (fun hja => ?_) hno
        have h2 := ancs_all (fun k => listed.getD k false = true) (waits_of ho hall) hcl j hja
        have : j < listed.size := by
          rcases Nat.lt_or_ge j listed.size with h | h
          · exact h
          · simp [h] at h2
        have h3 : listed.getD j true = listed.getD j false := by simp [this]
        rw [h3, h2] at hunj
        cases hunj

/-- A region whose first m operations are met one by one; what follows them goes on in any order. -/
theorem wp_region_join' {id : Nat} {l : List Oper} {Q : Exit → Act → World → Prop} {a0 : Act} {w : World} {kss : List (List (Nat × Tmp))} (env : List (Tmp × Value)) (R : List (Value → World → Prop)) (m : Nat) (lq : List Nat) (S : World → Prop) (hS : ∀ w', Below w.heap.size w w' → S w') (hm : P.follows .mixedOrders = true) (hB : joinB l.toArray m a0.tmps.size kss (env.map (·.1)) lq = true) (henv : envFacts a0 env)
    (fl : List Bool) (hlq : ∀ i ∈ lq, fl.getD i false = false ∧ (∀ o ks, l[i]? = some o → kss[i]? = some ks → LOb P l.toArray w env R S o ks (factAt R i)) ∧ ∀ d v c a w, Q (.panic c) (Act.put a d v) w → Q (.panic c) a w) (hst : Stab R) (hob : Obs P l.toArray w env R l kss R fl)
    (fin : ∀ vs w', Below w.heap.size w w' → (∀ i, i < m → factAt R i (vs i) w') → (∀ i j, i < m → j < m → i ≠ j → fl.getD i false = true → fl.getD j false = true → vs i ≠ vs j) → wpAnyH P .any l.toArray Q S (l.length - m) (listM l.length m) (putsL vs 0 (l.take m) a0) w') : (Code.region id l.toArray true).wp P Q a0 w := by
  refine wp_region_held (S := S) hm ?_
  have hml : m ≤ l.length := by
    simp only [joinB, Bool.and_eq_true, decide_eq_true_eq, List.size_toArray] at hB
    exact hB.1.1.1.1.1.1.1
  have h0 : ∀ j b, (Array.replicate l.toArray.size false).getD j b = if j < l.length then false else b := by
    intro j b
    simp only [Array.getD_eq_getD_getElem?, Array.getElem?_replicate, List.size_toArray]
    split <;> rfl
  have hl0 : (fun i => (Array.replicate l.toArray.size false).getD i false) = fun _ => false := by funext j; rw [h0]; split <;> rfl
  have hst0 : ∀ m, stOf l.toArray a0 (fun _ => undef) (fun _ => false) m = a0 := by
    intro m
    induction m with
    | zero => rfl
    | succ m ih => rw [stOf, if_neg (by simp)]; exact ih
  have hlf : ∀ m, left (fun _ => false) m = m := by
    intro m
    induction m with
    | zero => rfl
    | succ m ih => rw [left, ih]; rfl
  have := join_go (P := P) (w0 := w) (Q := Q) hS hB rfl henv fl hlq hst hob fin l.toArray.size (Array.replicate l.toArray.size false) (fun _ => undef) { w with drawn := w.drawn + 1 } (by simp) (fun j _ => by rw [h0]; split <;> rfl) (fun k hk => by rw [h0] at hk; split at hk <;> cases hk)
    (by rw [hl0, hlf]; simp; omega) (Below.drew (Below.refl _ _)) (fun i _ h => by rw [h0] at h; split at h <;> cases h) (fun i _ h => by rw [h0] at h; split at h <;> cases h) (fun i _ _ _ _ h => by rw [h0] at h; split at h <;> cases h)
  rw [hl0, hst0] at this
  exact this
/-- The post without panics. -/
def calm (Q : Exit → Act → World → Prop) : Exit → Act → World → Prop
  | .normal, a, w => Q .normal a w
  | _, _, _ => False
theorem calm_normal {Q : Exit → Act → World → Prop} {a : Act} {w : World} (h : Q .normal a w) : calm Q .normal a w := h
theorem wp_region_join {id : Nat} {l : List Oper} {Q : Exit → Act → World → Prop} {a0 : Act} {w : World} {kss : List (List (Nat × Tmp))} (env : List (Tmp × Value)) (R : List (Value → World → Prop)) (m : Nat) (lq : List Nat) (hm : P.follows .mixedOrders = true) (hB : joinB l.toArray m a0.tmps.size kss (env.map (·.1)) lq = true) (henv : envFacts a0 env)
    (fl : List Bool) (hlq : ∀ i ∈ lq, fl.getD i false = false ∧ (∀ o ks, l[i]? = some o → kss[i]? = some ks → LOb P l.toArray w env R (fun _ => True) o ks (factAt R i))) (hst : Stab R) (hob : Obs P l.toArray w env R l kss R fl)
    (fin : ∀ vs w', Below w.heap.size w w' → (∀ i, i < m → factAt R i (vs i) w') → (∀ i j, i < m → j < m → i ≠ j → fl.getD i false = true → fl.getD j false = true → vs i ≠ vs j) → wpAny P .any l.toArray (calm Q) (l.length - m) (listM l.length m) (putsL vs 0 (l.take m) a0) w') : (Code.region id l.toArray true).wp P Q a0 w :=
  Code.wp_mono (Q := calm Q) (fun e a w h => by cases e <;> first | exact h | exact h.elim)
    (wp_region_join' env R m lq (fun _ => True) (fun _ _ => trivial) hm hB henv fl (fun i hi => ⟨(hlq i hi).1, (hlq i hi).2, fun _ _ _ _ _ h => h⟩) hst hob (fun vs w' h1 h2 h3 => anyH_of_any _ _ _ _ (fin vs w' h1 h2 h3)))
/-- .. all of its operations. -/
theorem wp_region_each {id : Nat} {l : List Oper} {Q : Exit → Act → World → Prop} {a0 : Act} {w : World} {kss : List (List (Nat × Tmp))} (env : List (Tmp × Value)) (R : List (Value → World → Prop)) (hm : P.follows .mixedOrders = true) (hB : joinB l.toArray l.length a0.tmps.size kss (env.map (·.1)) [] = true) (henv : envFacts a0 env)
    (hst : Stab R) (hob : Obs P l.toArray w env R l kss R (List.replicate R.length false))
    (fin : ∀ vs w', Below w.heap.size w w' → (∀ i, i < l.length → factAt R i (vs i) w') → Q .normal (putsL vs 0 l a0) w') : (Code.region id l.toArray true).wp P Q a0 w := by
  refine wp_region_join' env R l.length [] (fun _ => True) (fun _ _ => trivial) hm hB henv _ (by simp) hst hob (fun vs w' hb hR _ => anyH_of_any _ _ _ _ ?_)
  rw [Nat.sub_self]
  have h1 := fin vs w' hb hR
  rw [List.take_length]
  refine ⟨?_, h1⟩
  rw [List.eq_nil_iff_forall_not_mem]
  intro j hj
  obtain ⟨h2, o, ho, -⟩ := mem_ready.1 hj
  have hjl : j < l.length := by
    rcases Nat.lt_or_ge j l.length with h | h
    · exact h
    · simp [h] at ho
  rw [listM_get _ _ _ _ (Nat.le_refl _), if_pos hjl] at h2
  cases h2

/-- Every order: also the written one. -/
theorem wpOps_of_any {l : List Oper} {Q : Exit → Act → World → Prop} (hr : ∀ k, k < l.length → k ∈ Region.ready .any l.toArray (listM l.length k)) : ∀ (j k : Nat), k + j = l.length → ∀ (a : Act) (w : World),
    wpAny P .any l.toArray Q j (listM l.length k) a w → wpOps P l.toArray Q (List.range' k j) a w
  | 0, k, _, a, w, h => h.2
  | j + 1, k, hk, a, w, h => by
    rw [List.range'_succ, wpOps_cons]
    refine wpOp_mono (fun a' w' h' => ?_) (h.2 k (hr k (by omega)))
    refine wpOps_of_any hr j (k + 1) (by omega) a' w' ?_
    have : (listM l.length k).setIfInBounds k true = listM l.length (k + 1) := by
      apply Array.ext
      · simp [listM]; omega
      · intro i h1 h2
        have h3 := listM_get l.length k i false (by omega)
        have h4 := listM_get l.length (k + 1) i false (by omega)
        have h5 : (listM l.length (k + 1)).getD i false = (listM l.length (k + 1))[i] := by simp [h2]
        rw [← h5, h4]
        by_cases hik : k = i
        · subst hik; rw [Array.getElem_setIfInBounds_self, if_pos (by omega)]
        · have h1' : i < (listM l.length k).size := by simpa using h1
          rw [Array.getElem_setIfInBounds_ne h1' hik]
          have h6 : (listM l.length k).getD i false = (listM l.length k)[i] := by simp [h1']
          rw [← h6, h3]
          by_cases h7 : i < k
          · rw [if_pos h7, if_pos (by omega)]
          · rw [if_neg h7]; simp [show ¬ i < k + 1 by omega]
    rw [← this]; exact h'
/-- .. a region in its written order. -/
theorem wp_region_seq {id : Nat} {l : List Oper} {Q : Exit → Act → World → Prop} {a0 : Act} {w : World} {kss : List (List (Nat × Tmp))} (env : List (Tmp × Value)) (R : List (Value → World → Prop)) (hB : joinB l.toArray l.length a0.tmps.size kss (env.map (·.1)) [] = true) (henv : envFacts a0 env)
    (hst : Stab R) (hob : Obs P l.toArray w env R l kss R (List.replicate R.length false))
    (fin : ∀ vs w', Below w.heap.size w w' → (∀ i, i < l.length → factAt R i (vs i) w') → Q .normal (putsL vs 0 l a0) w') : (Code.region id l.toArray false).wp P Q a0 w := by
  refine wp_region ?_
  have hdep : ∀ k, k < l.length → k ∈ Region.ready .any l.toArray (listM l.length k) := by
    intro k hk
    have hB' := hB
    simp only [joinB, Bool.and_eq_true, decide_eq_true_eq, List.all_eq_true, List.mem_range, List.size_toArray] at hB'
    obtain ⟨⟨⟨⟨_, hdep⟩, _⟩, _⟩, _⟩ := hB'
    have hget : l.toArray[k]? = some l[k] := by simp [hk]
    refine mem_ready.2 ⟨?_, l[k], hget, fun e he hbe => ?_⟩
    · rw [listM_get _ _ _ _ (by omega), if_neg (by omega), if_pos hk]
    · have h1 := hdep k hk
      rw [hget] at h1
      simp only [Bool.and_eq_true, Array.all_eq_true_iff_forall_mem, Bool.or_eq_true, Bool.not_eq_true', decide_eq_true_eq] at h1
      rcases h1.1 e he with h2 | h2
      · rw [hbe] at h2; cases h2
      · rw [listM_get _ _ _ _ (by omega), if_pos h2]
  have h0 : ∀ j b, (listM l.length 0).getD j b = if j < l.length then false else b := by
    intro j b; rw [listM_get _ _ _ _ (by omega), if_neg (by omega)]
  have hl0 : (fun i => (listM l.length 0).getD i false) = fun _ => false := by funext j; rw [h0]; split <;> rfl
  have hst0 : ∀ m, stOf l.toArray a0 (fun _ => undef) (fun _ => false) m = a0 := by
    intro m
    induction m with
    | zero => rfl
    | succ m ih => rw [stOf, if_neg (by simp)]; exact ih
  have hlf : ∀ m, left (fun _ => false) m = m := by
    intro m
    induction m with
    | zero => rfl
    | succ m ih => rw [left, ih]; rfl
  have := join_go (P := P) (w0 := w) (Q := Q) (S := fun _ => True) (fun _ _ => trivial) hB rfl henv _ (by simp) hst hob (fun vs w' hb hR _ => by
      apply anyH_of_any
      rw [Nat.sub_self]
      have h1 := fin vs w' hb hR
      rw [List.take_length]
      refine ⟨?_, h1⟩
      rw [List.eq_nil_iff_forall_not_mem]
      intro j hj
      obtain ⟨h2, o, ho, -⟩ := mem_ready.1 hj
      have hjl : j < l.length := by
        rcases Nat.lt_or_ge j l.length with h | h
        · exact h
        · simp [h] at ho
      rw [listM_get _ _ _ _ (Nat.le_refl _), if_pos hjl] at h2
      cases h2) l.length (listM l.length 0) (fun _ => undef) w (by simp [listM]) (fun j _ => by rw [h0]; split <;> rfl) (fun k hk => by rw [h0] at hk; split at hk <;> cases hk)
    (by rw [hl0, hlf]; omega) (Below.refl _ _) (fun i _ h => by rw [h0] at h; split at h <;> cases h) (fun i _ h => by rw [h0] at h; split at h <;> cases h) (fun i _ _ _ _ h => by rw [h0] at h; split at h <;> cases h)
  rw [hl0, hst0] at this
  have h2 := wpOps_of_any hdep l.length 0 (by omega) a0 w (wpAny_of_held _ _ _ _ this)
  rw [List.size_toArray, List.range_eq_range']
  exact h2

/-- The check of the first m operations of a region in its written order. -/
def seqB (ops : Array Oper) (m sz : Nat) (kss : List (List (Nat × Tmp))) (ts : List Tmp) : Bool :=
  decide (m ≤ ops.size) &&
  ((List.range m).all fun i => match dstOf ops i with | some t => decide (t < sz) && !ts.contains t | none => true) &&
  ((List.range m).all fun i => (List.range m).all fun j => i == j || dstOf ops i == none || dstOf ops i != dstOf ops j) &&
  ((List.range m).all fun i => (looksDeps ops m i).all fun k => decide (k.1 < i)) &&
  ((List.range m).map (looksDeps ops m) == kss)
/-- A region in its written order, its first m operations met one by one. -/
theorem wp_region_joins {id : Nat} {l : List Oper} {Q : Exit → Act → World → Prop} {a0 : Act} {w : World} {kss : List (List (Nat × Tmp))} (env : List (Tmp × Value)) (R : List (Value → World → Prop)) (m : Nat) (hB : seqB l.toArray m a0.tmps.size kss (env.map (·.1)) = true) (henv : envFacts a0 env)
    (fl : List Bool) (hst : Stab R) (hob : Obs P l.toArray w env R l kss R fl)
    (fin : ∀ vs w', Below w.heap.size w w' → (∀ i, i < m → factAt R i (vs i) w') → wpOps P l.toArray Q (List.range' m (l.length - m)) (putsL vs 0 (l.take m) a0) w') : (Code.region id l.toArray false).wp P Q a0 w := by
  refine wp_region ?_
  simp only [seqB, Bool.and_eq_true, decide_eq_true_eq, List.all_eq_true, List.mem_range, List.size_toArray] at hB
  obtain ⟨⟨⟨⟨hm, hts⟩, hdis⟩, hdep⟩, hkss⟩ := hB
  have hkss : (List.range m).map (looksDeps l.toArray m) = kss := by simpa using hkss
  have hdist : ∀ i j, i < m → j < m → j ≠ i → dstOf l.toArray i = none ∨ dstOf l.toArray i ≠ dstOf l.toArray j := by
    intro i j hi hj hji
    have := hdis i hi j hj
    simp only [Bool.or_eq_true, beq_iff_eq, bne_iff_ne] at this
    rcases this with (h | h) | h
    · exact absurd h.symm hji
    · exact .inl h
    · exact .inr h
  have main : ∀ (j k : Nat), k + j = m → ∀ (vs : Nat → Value) (w' : World), Below w.heap.size w w' → (∀ i, i < k → factAt R i (vs i) w') →
      wpOps P l.toArray Q (List.range' k (l.length - k)) (stOf l.toArray a0 vs (fun i => decide (i < k)) m) w' := by
    intro j
    induction j with
    | zero =>
      intro k hk vs w' hb hR
      obtain rfl : k = m := by omega
      have := fin vs w' hb hR
      rw [st_congr (vs' := vs) (L' := fun _ => true) a0 k (fun i hi => ⟨by simp [hi], fun _ => rfl⟩), st_all l a0 vs k hm]
      exact this
    | succ j ih =>
      intro k hk vs w' hb hR
      have hkl : k < l.length := by omega
      have ho : l.toArray[k]? = some l[k] := by simp [hkl]
      have hdo : dstOf l.toArray k = l[k].dst := by simp only [dstOf, ho]; rfl
      have hmem : ∀ x ∈ looksDeps l.toArray m k, x.1 < k ∧ dstOf l.toArray x.1 = some x.2 := by
        intro x hx
        refine ⟨hdep k (by omega) x hx, ?_⟩
        simp only [looksDeps, ho, List.mem_filterMap, List.mem_range] at hx
        obtain ⟨y, hy, hy2⟩ := hx
        cases hd : dstOf l.toArray y with
        | none => rw [hd] at hy2; cases hy2
        | some t =>
          rw [hd] at hy2
          simp only at hy2
          split at hy2
          · injection hy2 with hy2; subst hy2; exact hd
          · cases hy2
      have hOb := obs_get l kss R fl hob k l[k] (looksDeps l.toArray m k) (by simp [hkl]) (by rw [← hkss]; simp [show k < m by omega]) (stOf l.toArray a0 vs (fun i => decide (i < k)) m) w' hb
        (envFacts_keep (fun t ht => st_out a0 m (fun j hj' hd => by
          have := hts j hj'
          rw [hd] at this
          simp only [Bool.and_eq_true, Bool.not_eq_true', ← Bool.not_eq_true, List.contains_iff_mem] at this
          exact this.2 ht)) henv)
        (depFacts_all _ (fun x hx => by
          obtain ⟨h1, h2⟩ := hmem x hx
          have ht := hts x.1 (by omega)
          rw [h2] at ht
          simp only [Bool.and_eq_true, decide_eq_true_eq] at ht
          rw [st_in (vs := vs) a0 m (show x.1 < m by omega) h2 (by simp [h1]) ht.1 (fun j hj' hjk hd => by
            rcases hdist x.1 j (by omega) hj' hjk with h | h
            · rw [h2] at h; cases h
            · exact h (by rw [h2, hd]))]
          exact hR _ h1))
      have next : ∀ v w2, factAt R k v w2 → Below w'.heap.size w' w2 → wpOps P l.toArray Q (List.range' (k + 1) (l.length - (k + 1))) ((stOf l.toArray a0 vs (fun i => decide (i < k)) m).put l[k].dst v) w2 := by
        intro v w2 hv hb2
        have h1 := ih (k + 1) (by omega) (upd vs k v) w2 (bthen hb hb2 hb.size) (fun i hi => by
          by_cases hik : i = k
          · subst hik; rw [upd_self]; exact hv
          · rw [upd_ne _ _ hik]; exact stab_get hst i _ w' w2 (hR i (by omega)) hb2)
        have h2 : (fun i => decide (i < k + 1)) = upd (fun i => decide (i < k)) k true := by
          funext i
          simp only [upd]
          by_cases hik : i = k
          · subst hik; simp
          · simp only [hik, if_false, decide_eq_decide]; omega
        rw [h2, st_put a0 v m (by omega) (by simp) (fun j hj' hji => hdist k j (by omega) hj' hji), hdo] at h1
        exact h1
      rw [show l.length - k = (l.length - (k + 1)) + 1 by omega, List.range'_succ, wpOps_cons]
      unfold wpOp
      simp only [ho]
      cases hfl : fl.getD k false with
      | false =>
        rw [hfl] at hOb
        simp only at hOb
        by_cases hw : Region.wanted l[k] (yielded l.toArray (stOf l.toArray a0 vs (fun i => decide (i < k)) m).tmps) = true
        · rw [if_pos hw] at hOb ⊢
          exact .inl (wp_of_gives hOb (fun v w2 ⟨h1, h2⟩ => next v w2 h1 h2))
        · rw [if_neg hw] at hOb ⊢
          exact next _ _ hOb (Below.refl _ _)
      | true =>
        rw [hfl] at hOb
        simp only at hOb
        rw [if_pos hOb.1]
        exact .inl (wp_of_gives hOb.2 (fun v w2 ⟨⟨h1, h2⟩, _⟩ => next v w2 h1 h2))
  have hst0 : ∀ m, stOf l.toArray a0 (fun _ => undef) (fun i => decide (i < 0)) m = a0 := by
    intro m
    induction m with
    | zero => rfl
    | succ m ih => rw [stOf, if_neg (by simp)]; exact ih
  have h2 := main m 0 (by omega) (fun _ => undef) w (Below.refl _ _) (fun i hi => absurd hi (by omega))
  rw [hst0] at h2
  rw [List.size_toArray, List.range_eq_range']
  exact h2
end
end Go.Proofs.Ytamcibmjpmibdaa
namespace Go.Proofs.Ytamcibmjpmibdaa
open Go.RowKit

section
variable {P : Program} {ops : Array Oper} {o : Oper} {a : Act} {w : World} {K : Value → World → Prop} {E : Prop}

theorem ob_plain {G : Prop} (hg : o.guard = none) (h : G) : if Region.wanted o (yielded ops a.tmps) = true then G else E := by
  rw [if_pos (by simp [Region.wanted, hg])]; exact h
theorem yielded_tv {g : Nat} {t : Tmp} {b : Bool} (ht : dstOf ops g = some t) (hv : tv a t = .bool b) : yielded ops a.tmps g = some b := by
  unfold yielded
  simp only [dstOf] at ht
  rw [ht]
  simp only [tv, Array.getD_eq_getD_getElem?] at hv
  cases h : a.tmps[t]? with
  | none => rw [h] at hv; simp [undef] at hv
  | some x => rw [h] at hv; simp at hv; subst hv; simp [h]
theorem ob_on {G : Prop} {g : Nat} {want : Bool} (t : Tmp) (hg : o.guard = some (g, want)) (ht : dstOf ops g = some t) (hv : tv a t = .bool want) (h : G) : if Region.wanted o (yielded ops a.tmps) = true then G else E := by
  rw [if_pos (by simp [Region.wanted, hg, yielded_tv ht hv])]; exact h
theorem ob_off {G : Prop} {g : Nat} {want : Bool} (t : Tmp) (hg : o.guard = some (g, want)) (ht : dstOf ops g = some t) (hv : tv a t = .bool (!want)) (h : E) : if Region.wanted o (yielded ops a.tmps) = true then G else E := by
  rw [if_neg (by simp [Region.wanted, hg, yielded_tv ht hv])]; exact h

theorem gives_val {ρ : Operand → Value} (v : Value) (h : (execOp ρ o).run P w = .ok (.value v) w) (hK : K v w) : gives P o ρ w K := by
  unfold gives; rw [h]; exact hK
theorem gives_move (x : Operand) (ho : o.op = .move x) (hK : K (a.eval x) w) : gives P o a.eval w K :=
  gives_val _ (by unfold execOp; rw [ho]; rfl) hK
theorem gives_assign (x : Operand) (ho : o.op = .assign x) (hK : K (a.eval x) w) : gives P o a.eval w K :=
  gives_val _ (by unfold execOp; rw [ho]; rfl) hK
theorem gives_pick (b : Bool) (c x y : Operand) (ho : o.op = .pick c x y) (hc : a.eval c = .bool b) (hK : K (if b then a.eval x else a.eval y) w) : gives P o a.eval w K :=
  gives_val _ (by unfold execOp; rw [ho]; simp [hc, asBool]) hK
theorem gives_not (b : Bool) (t : TypeId) (x : Operand) (ho : o.op = .unOp .not t x) (hc : a.eval x = .bool b) (hK : K (.bool (!b)) w) : gives P o a.eval w K :=
  gives_val _ (by unfold execOp; rw [ho]; simp [hc, Op.unary]) hK
theorem gives_eq_int (i j : Int) (k : IntKind) (t t2 : TypeId) (x y : Operand) (ho : o.op = .binOp .eql t x y t2) (hx : a.eval x = .int k i) (hy : a.eval y = .int k j) (hK : K (.bool (i == j)) w) : gives P o a.eval w K := by
  refine gives_val _ ?_ hK
  unfold execOp
  rw [ho]
  simp only [hx, hy]
  go_simp
theorem gives_ne_int (i j : Int) (k : IntKind) (t t2 : TypeId) (x y : Operand) (ho : o.op = .binOp .neq t x y t2) (hx : a.eval x = .int k i) (hy : a.eval y = .int k j) (hK : K (.bool (i != j)) w) : gives P o a.eval w K := by
  refine gives_val _ ?_ hK
  unfold execOp
  rw [ho]
  simp only [hx, hy]
  go_simp
theorem gives_lt_int (i j : Int) (k : IntKind) (t t2 : TypeId) (x y : Operand) (ho : o.op = .binOp .lss t x y t2) (hx : a.eval x = .int k i) (hy : a.eval y = .int k j) (hK : K (.bool (decide (i < j))) w) : gives P o a.eval w K := by
  refine gives_val _ ?_ hK
  unfold execOp
  rw [ho]
  simp only [hx, hy]
  go_simp
theorem gives_le_int (i j : Int) (k : IntKind) (t t2 : TypeId) (x y : Operand) (ho : o.op = .binOp .leq t x y t2) (hx : a.eval x = .int k i) (hy : a.eval y = .int k j) (hK : K (.bool (decide (i ≤ j))) w) : gives P o a.eval w K := by
  refine gives_val _ ?_ hK
  unfold execOp
  rw [ho]
  simp only [hx, hy]
  go_simp
theorem gives_gt_int (i j : Int) (k : IntKind) (t t2 : TypeId) (x y : Operand) (ho : o.op = .binOp .gtr t x y t2) (hx : a.eval x = .int k i) (hy : a.eval y = .int k j) (hK : K (.bool (decide (i > j))) w) : gives P o a.eval w K := by
  refine gives_val _ ?_ hK
  unfold execOp
  rw [ho]
  simp only [hx, hy]
  go_simp
theorem gives_ge_int (i j : Int) (k : IntKind) (t t2 : TypeId) (x y : Operand) (ho : o.op = .binOp .geq t x y t2) (hx : a.eval x = .int k i) (hy : a.eval y = .int k j) (hK : K (.bool (decide (i ≥ j))) w) : gives P o a.eval w K := by
  refine gives_val _ ?_ hK
  unfold execOp
  rw [ho]
  simp only [hx, hy]
  go_simp
theorem gives_eq_bool (i j : Bool) (t t2 : TypeId) (x y : Operand) (ho : o.op = .binOp .eql t x y t2) (hu : P.underlying t = some .bool) (hx : a.eval x = .bool i) (hy : a.eval y = .bool j) (hK : K (.bool (i == j)) w) : gives P o a.eval w K := by
  refine gives_val _ ?_ hK
  unfold execOp
  rw [ho]
  simp only [hx, hy]
  have hr : (Op.equal t (.bool i) (.bool j)).run P w = .ok (i == j) w := by
    show (Op.equalIn (Op.maxDepth - 1 + 1) t (.bool i) (.bool j)).run P w = _
    rw [Op.equalIn, Sem.run_bind, run_underlying hu]
    rfl
  simp [eqGuard, binOp, hr]
/-- A function with a body is entered. -/
def callsB (P : Program) (f : FuncId) : Bool := match P.funcs[f]? with | some fn => fn.name != "runtime.NumGoroutine" && fn.body.isSome | none => false
theorem run_callFunc {f : FuncId} (h : callsB P f = true) (args : Array Value) : (callFunc f args).run P w = .ok (.enter f args) w := by
  unfold callsB at h
  unfold callFunc
  cases hf : P.funcs[f]? with
  | none => rw [hf] at h; cases h
  | some fn =>
    rw [hf] at h
    simp only [Bool.and_eq_true, bne_iff_ne, ne_eq] at h
    have h2 : fn.body.isNone = false := by cases hb : fn.body <;> simp_all
    simp only [Sem.run_bind, run_program, Result.andThen_ok, hf, h2]
    simp [h.1]
theorem gives_call (f : FuncId) (xs : Array Operand) (ts : Array TypeId) (ho : o.op = .call { callee := .value (.func f), args := xs, argTypes := ts }) (hf : callsB P f = true)
    (h : Calls P f (xs.map a.eval) w (fun e w'' => ∃ v, e = .returned v ∧ K v w'')) : gives P o a.eval w K := by
  have hr : (execOp a.eval o).run P w = .ok (.enter f (xs.map a.eval)) w := by
    unfold execOp
    rw [ho]
    simp [resolve, Deferred.ofValue, invoke, Act.eval, run_callFunc hf]
  unfold gives; rw [hr]; exact h
theorem gives_call0 (f : FuncId) (ts : Array TypeId) (ho : o.op = .call { callee := .value (.func f), args := #[], argTypes := ts }) (hf : callsB P f = true)
    (h : Calls P f #[] w (fun e w'' => ∃ v, e = .returned v ∧ K v w'')) : gives P o a.eval w K :=
  gives_call f #[] ts ho hf (by simpa using h)
theorem gives_call1 (f : FuncId) (x : Operand) (ts : Array TypeId) (ho : o.op = .call { callee := .value (.func f), args := #[x], argTypes := ts }) (hf : callsB P f = true)
    (h : Calls P f #[a.eval x] w (fun e w'' => ∃ v, e = .returned v ∧ K v w'')) : gives P o a.eval w K :=
  gives_call f #[x] ts ho hf (by simpa using h)
theorem gives_call2 (f : FuncId) (x y : Operand) (ts : Array TypeId) (ho : o.op = .call { callee := .value (.func f), args := #[x, y], argTypes := ts }) (hf : callsB P f = true)
    (h : Calls P f #[a.eval x, a.eval y] w (fun e w'' => ∃ v, e = .returned v ∧ K v w'')) : gives P o a.eval w K :=
  gives_call f #[x, y] ts ho hf (by simpa using h)
/-- Short forms for printed regions. -/
abbrev EV (x : Value) : Value → World → Prop := fun zz _ => zz = x
theorem eI {x : Value} : ∀ (v : Value) (w w' : World), EV x v w → Below w.heap.size w w' → EV x v w' := fun _ _ _ h _ => h
theorem ob_mv {P : Program} {ops : Array Oper} {o : Oper} {a : Act} {w : World} {E : Prop} {x : Operand} {K : Value → World → Prop} (hg : o.guard = none) (ho : o.op = .move x) (h : K (a.eval x) w) : if Region.wanted o (yielded ops a.tmps) = true then gives P o a.eval w (fun u w' => K u w' ∧ Below w.heap.size w w') else E :=
  ob_plain hg (gives_move _ ho ⟨h, Below.refl _ _⟩)
theorem gives_call3 (f : FuncId) (x y z : Operand) (ts : Array TypeId) (ho : o.op = .call { callee := .value (.func f), args := #[x, y, z], argTypes := ts }) (hf : callsB P f = true)
    (h : Calls P f #[a.eval x, a.eval y, a.eval z] w (fun e w'' => ∃ v, e = .returned v ∧ K v w'')) : gives P o a.eval w K :=
  gives_call f #[x, y, z] ts ho hf (by simpa using h)
/-- What a call answers: a value with a fact, all that stood kept. -/
def RV (w : World) (K : Value → World → Prop) (e : Ending) (w' : World) : Prop := ∃ v, e = .returned v ∧ K v w' ∧ Below w.heap.size w w'
theorem rv_one {P : Program} {f : FuncId} {args : Array Value} {w : World} {v : Value} (h : Calls P f args w fun e w' => e = .returned v ∧ Below w.heap.size w w') : Calls P f args w (RV w (fun u _ => u = v)) :=
  h.mono fun _ _ ⟨he, hb⟩ => ⟨v, he, rfl, hb⟩
/-- A load of a block known whole. -/
theorem gives_load_blk (t : TypeId) (x : Operand) (ho : o.op = .load t x) (g : Nat) (t' : TypeId) (cs : Array Value) (d : TypeDesc) (hx : a.eval x = .pointer (some ⟨g, 0, none⟩)) (hg : Blk w g t' cs)
    (hu : P.underlying t = some d) (hd : (match d with | .struct _ | .array _ _ => true | _ => false) = true) (hi : (P.info? t).map (·.size) = some cs.size) (hK : K (.agg cs) w) : gives P o a.eval w K := by
  have h : (execOp a.eval o).run P w = .ok (.value (.agg cs)) w := by
    unfold execOp
    rw [ho]
    simp only [hx, Instr.loadAt, Instr.sureAddr, Sem.run_bind, Sem.run_pure, Result.andThen_ok, run_loadVar_row w g t' t cs (0, 0) d hg hu hd hi]
  exact gives_val _ h hK
end
end Go.Proofs.Ytamcibmjpmibdaa
namespace Go.Proofs.Ytamcibmjpmibdaa
open Go.RowKit

/-- The decimal digits, least significant first. -/
def dg (n : Nat) : List Nat := if h : n = 0 then [] else n % 10 :: dg (n / 10)
theorem dg_nrm (n : Nat) : Nrm 10 (dg n) n := by
  induction n using Nat.strongRecOn with
  | ind n ih =>
    rw [dg]
    by_cases h : n = 0
    · rw [dif_pos h]; subst h; exact Nrm.nil _
    · rw [dif_neg h]
      obtain ⟨h1, h2, h3⟩ := ih (n / 10) (by omega)
      refine ⟨by rw [valB, h1]; omega, fun d hd => ?_, .inr ?_⟩
      · rcases List.mem_cons.1 hd with e | e
        · omega
        · exact h2 d e
      · rcases h3 with e | e
        · rw [e] at h1 ⊢
          have : n / 10 = 0 := h1.symm
          simp [nth]; omega
        · have hne : dg (n / 10) ≠ [] := by
            intro h0; rw [h0] at e; exact e (by simp [nth])
          have hl : 0 < (dg (n / 10)).length := List.length_pos_iff.2 hne
          rw [List.length_cons, Nat.add_sub_cancel]
          have : nth (n % 10 :: dg (n / 10)) (dg (n / 10)).length = nth (dg (n / 10)) ((dg (n / 10)).length - 1) := by
            simp only [nth, List.getD]
            rw [List.getElem?_cons, if_neg (by omega)]
          rw [this]; exact e
def decT (n : Nat) : ByteArray := textOf (dg n)
theorem decT_of {D : List Nat} {n : Nat} (h : Nrm 10 D n) : textOf D = decT n := by rw [decT, h.unique (dg_nrm n) (by omega)]
theorem decT_size {n b : Nat} (h : n < PB b) (hb : 1 ≤ b) : (decT n).size ≤ 10 * b := by
  have h1 : n < 10 ^ (10 * b) := by
    have : PB b ≤ 10 ^ (10 * b) := by rw [PB, Nat.pow_mul]; exact Nat.pow_le_pow_left (by omega) b
    omega
  exact text_size ((dg_nrm n).small_lt h1) (by omega)
theorem text_t {w : World} {A : Option Addr} {n c a N : Nat} (h : Num w A n c a N) : Calls Try.prog 68 #[.slice A n c] w fun e w' => e = .returned (.string (decT N)) ∧ Below w.heap.size w w' :=
  (text_n h).mono fun _ _ ⟨_, h1, h2, h3⟩ => ⟨by rw [h2, decT_of h1], h3⟩
def sgT (s : Bool) : ByteArray := if s then ⟨#[45]⟩ else ⟨#[]⟩
/-- The text form. -/
def txt (x : Rat) : ByteArray := sgT (decide (x.num < 0)) ++ (if x.den = 1 then decT x.num.natAbs else strs2 (decT x.num.natAbs) (decT x.den))
theorem strs2_size (a b : ByteArray) : (strs2 a b).size = a.size + b.size + 1 := by
  simp only [strs2, ByteArray.size]; simp; omega

theorem call_ntext : callsB Try.prog 68 = true := by kernel_rfl
theorem call_qjoin : callsB Try.prog 67 = true := by kernel_rfl
theorem build_str2 {o : Oper} {a : Act} {w : World} {x y : Operand} {S T : ByteArray} (ho : o.op = .buildSlice 132 2 #[(0, x), (1, y)]) (hx : a.eval x = .string S) (hy : a.eval y = .string T) :
    gives Try.prog o a.eval w (fun v w' => (∃ g, v = .slice (some ⟨g, 0, none⟩) 2 2 ∧ Blk w' g 9 #[.string S, .string T]) ∧ Below w.heap.size w w') := by
  have hr : (execOp a.eval o).run Try.prog w = .ok (.value (.slice (some ⟨w.heap.size, 0, none⟩) 2 2)) (w.alloc (.cells #[.string S, .string T] 9)) := by
    unfold execOp
    rw [ho]
    simp only [List.map_toArray, List.map_cons, List.map_nil, hx, hy]
    go_simp
  unfold gives
  rw [hr]
  exact ⟨⟨_, rfl, Blk.new _ _ _⟩, al _ _⟩
theorem field_q1 {o : Oper} {a : Act} {w : World} {t : Tmp} {g : Nat} (ho : o.op = .fieldAddr 41 (.tmp t) 1) (hx : tv a t = .pointer (some ⟨g, 0, none⟩)) : gives Try.prog o a.eval w (fun v w' => v = .pointer (some ⟨g, 1, none⟩) ∧ Below w.heap.size w w') := by
  refine gives_val (.pointer (some ⟨g, 1, none⟩)) ?_ ⟨rfl, Below.refl _ _⟩
  unfold execOp
  rw [ho]
  simp only [eval_tmp, hx]
  go_simp
theorem field_q2 {o : Oper} {a : Act} {w : World} {t : Tmp} {g : Nat} (ho : o.op = .fieldAddr 41 (.tmp t) 2) (hx : tv a t = .pointer (some ⟨g, 0, none⟩)) : gives Try.prog o a.eval w (fun v w' => v = .pointer (some ⟨g, 2, none⟩) ∧ Below w.heap.size w w') := by
  refine gives_val (.pointer (some ⟨g, 2, none⟩)) ?_ ⟨rfl, Below.refl _ _⟩
  unfold execOp
  rw [ho]
  simp only [eval_tmp, hx]
  go_simp
theorem load_nat {o : Oper} {a : Act} {w : World} {t : Tmp} {p : Addr} {v : Value} (ho : o.op = .load 39 (.tmp t)) (hx : tv a t = .pointer (some p)) (hc : w.cell? p = some v) : gives Try.prog o a.eval w (fun u w' => u = v ∧ Below w.heap.size w w') := by
  refine gives_val v ?_ ⟨rfl, Below.refl _ _⟩
  unfold execOp
  rw [ho]
  simp only [eval_tmp, hx]
  go_simp
theorem cat_str {o : Oper} {a : Act} {w : World} {x y : Operand} {t t2 : TypeId} {S T : ByteArray} (ho : o.op = .binOp .add t x y t2) (hx : a.eval x = .string S) (hy : a.eval y = .string T) (hz : S.size + T.size ≤ 1000000000) : gives Try.prog o a.eval w (fun u w' => u = .string (S ++ T) ∧ Below w.heap.size w w') := by
  refine gives_val (.string (S ++ T)) ?_ ⟨rfl, Below.refl _ _⟩
  unfold execOp
  rw [ho]
  simp only [hx, hy]
  have hz2 : S.size + T.size ≤ 9223372036854775807 := by omega
  go_simp

set_option maxRecDepth 100000 in
set_option maxHeartbeats 4000000 in
theorem qtext_any {w : World} {s : Bool} {A B : Option Addr} {n c m d b : Nat} {x : Rat} (h : Ra w s A n c B m d b x) (hb5 : b ≤ 5000) :
    Calls Try.prog 29 #[.agg #[.bool s, .slice A n c, .slice B m d]] w fun e w' => e = .returned (.string (txt x)) ∧ Below w.heap.size w w' := by
  have HA := Lib.hid h; clear h
  have hT := TB.made w 41 (.bool s) (.slice A n c) (.slice B m d)
  have a0 := hT.c0; have a1 := hT.c1; have a2 := hT.c2
  have T := Lib.hid hT; clear hT
  go_enter Try.func29, Try.ntmps29
  go_wp2_with fail
  refine (qnorm_any (HA.out.new (al w _)) hb5).mono ?_
  rintro e w5 ⟨s5, A5, n5, c5, B5, m5, d5, rfl, h5, hb⟩
  have t3 := T.out.new hb
  have e0 := t3.c0; have e1 := t3.c1; have e2 := t3.c2; have g0 := t3.f0; have g1 := t3.f1; have g2 := t3.f2
  have H5 := Lib.hid (h5.store3 t3 (.bool s5) (.slice A5 n5 c5) (.slice B5 m5 d5))
  have U3 : Hid (TB _ _ _ _ _ _) := Lib.hid (t3.set3 (.bool s5) (.slice A5 n5 c5) (.slice B5 m5 d5))
  have HW := Lib.hid (below_store3 (bthen (al w _) hb (al w _).size) (Nat.le_refl _) (.bool s5) (.slice A5 n5 c5) (.slice B5 m5 d5))
  clear h5 hb t3 HA T a0 a1 a2
  go_upto_region 2 with (fail)
  generalize ((w5.setCell ⟨w.heap.size, 0, none⟩ (.bool s5)).setCell ⟨w.heap.size, 1, none⟩ (.slice A5 n5 c5)).setCell ⟨w.heap.size, 2, none⟩ (.slice B5 m5 d5) = w6 at H5 U3 HW ⊢
  clear e0 e1 e2 g0 g1 g2
  have b0 := U3.out.c0; have b1 := U3.out.c1; have b2 := U3.out.c2
  have hlt := U3.out.lt
  have HS := Lib.hid (show txt x = sgT s5 ++ (if x.den = 1 then decT x.num.natAbs else strs2 (decT x.num.natAbs) (decT x.den)) by rw [txt, H5.out.1])
  have hz1 := decT_size H5.out.2.1.1.2.2.2.1 H5.out.2.1.1.2.1
  have hz2 := decT_size H5.out.2.2.1.2.2.2.1 H5.out.2.2.1.2.1
  by_cases hd : x.den = 1
  · have HT := Lib.hid (show txt x = sgT s5 ++ decT x.num.natAbs by rw [HS.out, if_pos hd])
    have HD := Lib.hid hd; clear hd hz2
    obtain ⟨T1, hT1⟩ : ∃ T, T = decT x.num.natAbs := ⟨_, rfl⟩
    have ht1 := text_t H5.out.2.1.1
    rw [← hT1] at hz1 HT ht1
    have TT := Lib.hid ht1; clear ht1 hT1 HS
    cases s5
    all_goals
      go_wp2_with fail
      refine (bits_n H5.out.2.2.1).mono ?_
      rintro e w7 ⟨bb, rfl, hbits, hbb, rfl⟩
      rw [HD.out] at hbits
      obtain rfl := hbits.one'
      clear hbits
      go_wp2_with fail
      refine TT.out.mono ?_
      rintro e w8 ⟨rfl, hb⟩
      have HW8 := Lib.hid (bthen HW.out hb HW.out.size); clear hb
      clear b0 b1 b2
      go_wp2_with fail
      refine (qjoin1_any w8.heap.size T1 _ (Blk.new w8 9 _)).mono ?_
      rintro e w9 ⟨rfl, rfl⟩
      go_wp2_with fail
      go_ret
      exact ⟨by rw [HT.out]; simp [sgT], HW8.out.alloc HW8.out.size _⟩
  · have HT := Lib.hid (show txt x = sgT s5 ++ strs2 (decT x.num.natAbs) (decT x.den) by rw [HS.out, if_neg hd])
    obtain ⟨T1, hT1⟩ : ∃ T, T = decT x.num.natAbs := ⟨_, rfl⟩
    obtain ⟨T2, hT2⟩ : ∃ T, T = decT x.den := ⟨_, rfl⟩
    have hn := H5.out.2.1.1
    have hm := H5.out.2.2.1
    have ht1 : ∀ W, Below w6.heap.size w6 W → Calls Try.prog 68 #[.slice A5 n5 c5] W fun e w' => e = .returned (.string T1) ∧ Below W.heap.size W w' := fun W hW => by rw [hT1]; exact text_t (hn.new hW)
    have ht2 : ∀ W, Below w6.heap.size w6 W → Calls Try.prog 68 #[.slice B5 m5 d5] W fun e w' => e = .returned (.string T2) ∧ Below W.heap.size W w' := fun W hW => by rw [hT2]; exact text_t (hm.new hW)
    rw [← hT1] at hz1 HT
    rw [← hT2] at hz2 HT
    have hss := strs2_size T1 T2
    have TT1 := Lib.hid ht1; have TT2 := Lib.hid ht2; clear ht1 ht2 hT1 hT2 HS hn hm
    have hden := x.den_nz
    cases s5
    · go_wp2_with fail
      refine (bits_n H5.out.2.2.1).mono ?_
      rintro e w7 ⟨bb, rfl, hbits, hbb, rfl⟩
      have tb : ((bb : Int) == 1) = false := by have := hbits.many (by omega); simp; omega
      clear hbits
      go_wp2_with fail
      refine wp_region_each (kss := [[], [], [(1, 20)], [(2, 21)], [], [(4, 23)], [(5, 24)], [(3, 22), (6, 25)], [(7, 26)], [(0, 19), (8, 27)], [(9, 28)]]) [(3, .string (sgT false)), (1, .pointer (some ⟨w.heap.size, 0, none⟩))]
        [fun u _ => u = .string (sgT false), fun u _ => u = .pointer (some ⟨w.heap.size, 1, none⟩), fun u _ => u = .slice A5 n5 c5, fun u _ => u = .string T1, fun u _ => u = .pointer (some ⟨w.heap.size, 2, none⟩), fun u _ => u = .slice B5 m5 d5, fun u _ => u = .string T2,
         fun u W => ∃ g, u = .slice (some ⟨g, 0, none⟩) 2 2 ∧ Blk W g 9 #[.string T1, .string T2], fun u _ => u = .string (strs2 T1 T2), fun u _ => u = .string (sgT false ++ strs2 T1 T2), fun u _ => u = .string (sgT false ++ strs2 T1 T2)] (by kernel_rfl) (by kernel_rfl) ⟨rfl, rfl, trivial⟩ ?_ ?_ ?_
      · exact ⟨eI, eI, eI, eI, eI, eI, eI, fun _ _ _ h hb => by obtain ⟨g, h1, h2⟩ := h; exact ⟨g, h1, h2.below hb h2.lt⟩, eI, eI, eI, trivial⟩
      · refine ⟨?_, ?_, ?_, ?_, ?_, ?_, ?_, ?_, ?_, ?_, ?_, trivial⟩
        · exact fun a w hb he hd => ob_plain rfl (gives_move _ rfl ⟨he.1, Below.refl _ _⟩)
        · exact fun a w hb he hd => ob_plain rfl (field_q1 rfl he.2.1)
        · exact fun a w hb he hd => ob_plain rfl (load_nat rfl hd.1 (U3.out.new hb).c1)
        · exact fun a w hb he hd => ob_plain rfl (gives_call1 _ _ _ rfl call_ntext (by rw [show a.eval (.tmp 21) = .slice A5 n5 c5 from hd.1]; exact rv_one (TT1.out _ hb)))
        · exact fun a w hb he hd => ob_plain rfl (field_q2 rfl he.2.1)
        · exact fun a w hb he hd => ob_plain rfl (load_nat rfl hd.1 (U3.out.new hb).c2)
        · exact fun a w hb he hd => ob_plain rfl (gives_call1 _ _ _ rfl call_ntext (by rw [show a.eval (.tmp 24) = .slice B5 m5 d5 from hd.1]; exact rv_one (TT2.out _ hb)))
        · exact fun a w hb he hd => ob_plain rfl (build_str2 rfl hd.1 hd.2.1)
        · exact fun a w hb he hd => ob_plain rfl (gives_call1 _ _ _ rfl call_qjoin (by obtain ⟨g, h1, h2⟩ := hd.1; rw [show a.eval (.tmp 26) = .slice (some ⟨g, 0, none⟩) 2 2 from h1]; exact rv_one (qjoin2_any g T1 T2 _ h2 (by omega) (by omega))))
        · exact fun a w hb he hd => ob_plain rfl (cat_str rfl hd.1 hd.2.1 (by rw [show (sgT false).size = 0 from rfl]; omega))
        · exact fun a w hb he hd => ob_plain rfl (gives_assign _ rfl ⟨hd.1, Below.refl _ _⟩)
      intro vs w9 hb hR
      have e2 : vs 10 = .string (sgT false ++ strs2 T1 T2) := hR 10 (by decide)
      clear hR
      simp only [putsL, Nat.zero_add, Nat.reduceAdd, Act.put, List.setIfInBounds_toArray, List.set_cons_zero, List.set_cons_succ]
      rw [e2]
      clear e2
      have HB10 := Lib.hid hb; clear hb
      go_wp2_with fail
      go_ret
      exact ⟨by rw [HT.out]; rfl, bthen HW.out HB10.out HW.out.size⟩
    · go_wp2_with fail
      refine (bits_n H5.out.2.2.1).mono ?_
      rintro e w7 ⟨bb, rfl, hbits, hbb, rfl⟩
      have tb : ((bb : Int) == 1) = false := by have := hbits.many (by omega); simp; omega
      clear hbits
      go_wp2_with fail
      refine wp_region_each (kss := [[], [], [(1, 20)], [(2, 21)], [], [(4, 23)], [(5, 24)], [(3, 22), (6, 25)], [(7, 26)], [(0, 19), (8, 27)], [(9, 28)]]) [(3, .string (sgT true)), (1, .pointer (some ⟨w.heap.size, 0, none⟩))]
        [fun u _ => u = .string (sgT true), fun u _ => u = .pointer (some ⟨w.heap.size, 1, none⟩), fun u _ => u = .slice A5 n5 c5, fun u _ => u = .string T1, fun u _ => u = .pointer (some ⟨w.heap.size, 2, none⟩), fun u _ => u = .slice B5 m5 d5, fun u _ => u = .string T2,
         fun u W => ∃ g, u = .slice (some ⟨g, 0, none⟩) 2 2 ∧ Blk W g 9 #[.string T1, .string T2], fun u _ => u = .string (strs2 T1 T2), fun u _ => u = .string (sgT true ++ strs2 T1 T2), fun u _ => u = .string (sgT true ++ strs2 T1 T2)] (by kernel_rfl) (by kernel_rfl) ⟨rfl, rfl, trivial⟩ ?_ ?_ ?_
      · exact ⟨eI, eI, eI, eI, eI, eI, eI, fun _ _ _ h hb => by obtain ⟨g, h1, h2⟩ := h; exact ⟨g, h1, h2.below hb h2.lt⟩, eI, eI, eI, trivial⟩
      · refine ⟨?_, ?_, ?_, ?_, ?_, ?_, ?_, ?_, ?_, ?_, ?_, trivial⟩
        · exact fun a w hb he hd => ob_plain rfl (gives_move _ rfl ⟨he.1, Below.refl _ _⟩)
        · exact fun a w hb he hd => ob_plain rfl (field_q1 rfl he.2.1)
        · exact fun a w hb he hd => ob_plain rfl (load_nat rfl hd.1 (U3.out.new hb).c1)
        · exact fun a w hb he hd => ob_plain rfl (gives_call1 _ _ _ rfl call_ntext (by rw [show a.eval (.tmp 21) = .slice A5 n5 c5 from hd.1]; exact rv_one (TT1.out _ hb)))
        · exact fun a w hb he hd => ob_plain rfl (field_q2 rfl he.2.1)
        · exact fun a w hb he hd => ob_plain rfl (load_nat rfl hd.1 (U3.out.new hb).c2)
        · exact fun a w hb he hd => ob_plain rfl (gives_call1 _ _ _ rfl call_ntext (by rw [show a.eval (.tmp 24) = .slice B5 m5 d5 from hd.1]; exact rv_one (TT2.out _ hb)))
        · exact fun a w hb he hd => ob_plain rfl (build_str2 rfl hd.1 hd.2.1)
        · exact fun a w hb he hd => ob_plain rfl (gives_call1 _ _ _ rfl call_qjoin (by obtain ⟨g, h1, h2⟩ := hd.1; rw [show a.eval (.tmp 26) = .slice (some ⟨g, 0, none⟩) 2 2 from h1]; exact rv_one (qjoin2_any g T1 T2 _ h2 (by omega) (by omega))))
        · exact fun a w hb he hd => ob_plain rfl (cat_str rfl hd.1 hd.2.1 (by rw [show (sgT true).size = 1 from rfl]; omega))
        · exact fun a w hb he hd => ob_plain rfl (gives_assign _ rfl ⟨hd.1, Below.refl _ _⟩)
      intro vs w9 hb hR
      have e2 : vs 10 = .string (sgT true ++ strs2 T1 T2) := hR 10 (by decide)
      clear hR
      simp only [putsL, Nat.zero_add, Nat.reduceAdd, Act.put, List.setIfInBounds_toArray, List.set_cons_zero, List.set_cons_succ]
      rw [e2]
      clear e2
      have HB10 := Lib.hid hb; clear hb
      go_wp2_with fail
      go_ret
      exact ⟨by rw [HT.out]; rfl, bthen HW.out HB10.out HW.out.size⟩
end Go.Proofs.Ytamcibmjpmibdaa
namespace Go.Proofs.Ytamcibmjpmibdaa
open Go.RowKit

section
variable {w : World} {s : Bool} {A B : Option Addr} {n c m d b : Nat} {x : Rat}
end
end Go.Proofs.Ytamcibmjpmibdaa
namespace Go.Proofs.Ytamcibmjpmibdaa
open Go.RowKit
section
variable {w : World} {s : Bool} {A B : Option Addr} {n c m d b : Nat} {x : Rat}

end
end Go.Proofs.Ytamcibmjpmibdaa
namespace Go.Proofs.Ytamcibmjpmibdaa
open Go.RowKit

end Go.Proofs.Ytamcibmjpmibdaa
namespace Go.Proofs.Ytamcibmjpmibdaa
open Go.RowKit

section
variable {P : Program} (w : World)
end

section
variable {w : World} {s : Bool} {A B : Option Addr} {n c m d : Nat}
end
end Go.Proofs.Ytamcibmjpmibdaa
namespace Go.Proofs.Ytamcibmjpmibdaa
open Go.RowKit

theorem dg_small {n : Nat} (h0 : n ≠ 0) (h : n < 10) : dg n = [n] := by
  rw [dg, dif_neg h0, show n / 10 = 0 by omega, dg, dif_pos rfl, Nat.mod_eq_of_lt h]
end Go.Proofs.Ytamcibmjpmibdaa
namespace Go.Proofs.Ytamcibmjpmibdaa
open Go.RowKit

set_option maxHeartbeats 2000000 in
theorem rabs_any (z : Int) (h1 : -9223372036854775807 ≤ z) (h2 : z ≤ 9223372036854775807) (w : World) : Calls Try.prog 70 #[.int .i64 z] w fun e w' => e = .returned (.int .i64 (z.natAbs : Int)) ∧ w = w' := by
  by_cases hz : z < 0
  · have tz : decide (z < 0) = true := by simp [hz]
    have e1 : -z = ((z.natAbs : Nat) : Int) := by omega
    go_enter Try.func70, Try.ntmps70
    go_wp2_with fail
    go_ret
    exact ⟨by first | rfl | (rw [e1]; rfl), rfl⟩
  · have tz : decide (z < 0) = false := by simp; omega
    have e1 : z = ((z.natAbs : Nat) : Int) := by omega
    generalize z.natAbs = k at *
    subst e1
    go_enter Try.func70, Try.ntmps70
    go_wp2_with fail
    go_ret
    exact ⟨rfl, rfl⟩

theorem tmod_nat (x y : Nat) : Int.tmod (x : Int) (y : Int) = ((x % y : Nat) : Int) := by rw [Int.tmod_eq_emod_of_nonneg (by omega)]; omega
set_option maxHeartbeats 2000000 in
theorem rgcd_any (a b : Nat) (h1 : a ≤ 9223372036854775807) (h2 : b ≤ 9223372036854775807) (w : World) : Calls Try.prog 82 #[.int .i64 a, .int .i64 b] w fun e w' => e = .returned (.int .i64 (Nat.gcd a b : Int)) ∧ Below w.heap.size w w' := by
  go_enter Try.func82, Try.ntmps82
  go_wp2_with fail
  go_loopw [0, 1] (fun xv yv wr => ∃ x y : Nat, xv = .int .i64 x ∧ yv = .int .i64 y ∧ x ≤ 9223372036854775807 ∧ y ≤ 9223372036854775807 ∧ Hid (Nat.gcd x y = Nat.gcd a b ∧ Below w.heap.size w wr)) (fun _ yv _ => (intOf yv).toNat)
  case atStart => exact ⟨a, b, rfl, rfl, h1, h2, Lib.hid ⟨rfl, Below.refl _ _⟩⟩
  case round =>
    obtain ⟨x, y, rfl, rfl, hx, hy, HJ⟩ := hrel
    by_cases hy0 : y = 0
    · have ty : ((y : Int) != 0) = false := by simp [hy0]
      have HY := Lib.hid hy0; clear hy0
      go_wp2_with fail
      go_ret
      have e1 := HJ.out.1
      rw [HY.out, Nat.gcd_zero_right] at e1
      exact ⟨by rw [← e1]; rfl, HJ.out.2⟩
    · have ty : ((y : Int) != 0) = true := by simp; omega
      have hyp : 0 < y := by omega
      have hml : x % y < y := Nat.mod_lt _ hyp
      have e3 := tmod_nat x y
      go_wp2_with fail
      go_quiet (fail)
      go_wp2_with fail
      refine ⟨⟨y, x % y, by simp, by simp, hy, by omega, Lib.hid ⟨by rw [gcd_next]; exact HJ.out.1, below_drewN HJ.out.2 _⟩⟩, ?_⟩
      simp [intOf]; omega

theorem low_vals (n : Int) (d : Nat) (hd : d ≠ 0) : ((n : Rat) / ((d : Int) : Rat)).num = Int.tdiv n ((Nat.gcd n.natAbs d : Nat) : Int) ∧ (((n : Rat) / ((d : Int) : Rat)).den : Int) = (d : Int) / ((Nat.gcd n.natAbs d : Nat) : Int) := by
  have e : (n : Rat) / ((d : Int) : Rat) = mkRat n d := by rw [Rat.mkRat_eq_div]; rfl
  have hg : (((Nat.gcd n.natAbs d : Nat) : Int)) ∣ n := Int.ofNat_dvd_left.2 (Nat.gcd_dvd_left _ _)
  rw [e, Rat.num_mkRat, Rat.den_mkRat, if_neg hd, if_neg hd, Nat.gcd_comm d]
  refine ⟨(Int.tdiv_eq_ediv_of_dvd hg).symm, ?_⟩
  simp

section
variable {w : World}
set_option maxRecDepth 100000 in
set_option maxHeartbeats 4000000 in
theorem rlow_pos (n : Int) (d : Nat) (h1 : -9223372036854775807 ≤ n) (h2 : n ≤ 9223372036854775807) (h4 : d ≤ 9223372036854775807) (hd : d ≠ 0) : Calls Try.prog 53 #[.int .i64 n, .int .i64 d] w fun e w' => e = .returned (.agg #[.int .i64 ((n : Rat) / ((d : Int) : Rat)).num, .int .i64 (((n : Rat) / ((d : Int) : Rat)).den : Int)]) ∧ Below w.heap.size w w' := by
  have hv := low_vals n d hd
  have td : decide ((d : Int) < 0) = false := by simp
  have hT := GB.made w 58 (.int .i64 0) (.int .i64 0)
  by_cases hn : n = 0
  · have tn : (n == 0) = true := by simp [hn]
    have HV := Lib.hid (show ((n : Rat) / ((d : Int) : Rat)).num = 0 ∧ (((n : Rat) / ((d : Int) : Rat)).den : Int) = 1 by
      rw [hn]
      have : ((0 : Int) : Rat) / ((d : Int) : Rat) = 0 := by rw [Rat.intCast_zero]; grind
      rw [this]; exact ⟨rfl, rfl⟩)
    clear hv
    have r0 := hT.c0; have r1 := hT.c1; have f0 := hT.f0; have f1 := hT.f1
    have T := Lib.hid hT; clear hT hn
    go_enter Try.func53, Try.ntmps53
    go_wp2_with fail
    rw [HV.out.1, HV.out.2]
    refine bodyPost_ret (v := .agg #[.int .i64 0, .int .i64 1]) ?_ rfl ⟨rfl, ?_⟩
    · first | exact results_cell_row Try.results53 _ _ _ _ _ (0, 0) _ rfl (Blk.new w _ _) Try.underlying58 rfl rfl | exact results_cell_row Try.results53 _ _ _ _ _ (0, 0) _ rfl ((T.out.blk.set_ 0 _).set_ 1 _) Try.underlying58 rfl rfl
    · first | exact al w _ | exact ((al w _).setCell (Nat.le_refl _) _).setCell (Nat.le_refl _) _
  · have tn : (n == 0) = false := by simp [hn]
    have HV := Lib.hid hv; clear hv
    have hna : n.natAbs ≤ 9223372036854775807 := by omega
    have HG0 := Lib.hid (show Nat.gcd n.natAbs d ≠ 0 by intro h; exact hn (by have := Nat.eq_zero_of_gcd_eq_zero_left h; omega))
    go_enter Try.func53, Try.ntmps53
    go_wp2_with fail
    have hW := al w (.cells #[.int .i64 0, .int .i64 0] 58)
    generalize w.alloc (.cells #[.int .i64 0, .int .i64 0] 58) = w0 at hT hW ⊢
    have T := Lib.hid hT; have HW := Lib.hid hW; clear hT hW
    refine (rabs_any n h1 h2 _).mono ?_
    rintro e w1 ⟨rfl, rfl⟩
    go_wp2_with fail
    refine (rgcd_any n.natAbs d hna h4 _).mono ?_
    rintro e w2 ⟨rfl, hb⟩
    replace T := Lib.hid (T.out.new hb); replace HW := Lib.hid (bthen HW.out hb HW.out.size)
    clear hb
    have tg : (((Nat.gcd n.natAbs d : Nat) : Int) == 0) = false := by have := HG0.out; simp; omega
    have hgz : ((Nat.gcd n.natAbs d : Nat) : Int) ≠ 0 := by have := HG0.out; omega
    have hg1 : (0 : Int) < ((Nat.gcd n.natAbs d : Nat) : Int) := by omega
    obtain ⟨e1, e2⟩ := HV.out
    generalize ((Nat.gcd n.natAbs d : Nat) : Int) = g at *
    have r0 := T.out.c0; have r1 := T.out.c1; have f0 := T.out.f0; have f1 := T.out.f1
    have b1 : (n.tdiv g).natAbs ≤ n.natAbs := by rw [Int.natAbs_tdiv]; exact Nat.div_le_self _ _
    have b2 : 0 ≤ (d : Int) / g := Int.ediv_nonneg (by omega) (by omega)
    have b3 : (d : Int) / g ≤ d := Int.ediv_le_self _ (by omega)
    have e5 : (d : Int).tdiv g = (d : Int) / g := Int.tdiv_eq_ediv_of_nonneg (by omega)
    have E1 := Lib.hid e1; have E2 := Lib.hid e2
    have i1 : IntKind.i64.wrap (n.tdiv g) = n.tdiv g := IntWalk.i64_in _ (by omega)
    have i2 : IntKind.i64.wrap ((d : Int) / g) = (d : Int) / g := IntWalk.i64_in _ (by omega)
    generalize hq : (d : Int) / g = q at *
    have HQ := Lib.hid hq; clear hq
    clear e1 e2 HV b1 HG0 hna hn
    go_wp2_with fail
    go_region
    all_goals
      go_wp2_with fail
      refine bodyPost_ret (v := .agg #[.int .i64 (n.tdiv g), .int .i64 q]) ?_ rfl ⟨by rw [E1.out, E2.out], ((HW.out.drew).setCell (p := ⟨w.heap.size, 0, none⟩) (Nat.le_refl _) _).setCell (p := ⟨w.heap.size, 1, none⟩) (Nat.le_refl _) _⟩
      exact results_cell_row Try.results53 _ _ _ _ _ (0, 0) _ rfl ((T.out.blk.set_ 0 _).set_ 1 _) Try.underlying58 rfl rfl
set_option maxRecDepth 100000 in
set_option maxHeartbeats 4000000 in
theorem rlow_neg (n : Int) (d : Nat) (h1 : -9223372036854775807 ≤ n) (h2 : n ≤ 9223372036854775807) (h4 : d ≤ 9223372036854775807) (hd : d ≠ 0) : Calls Try.prog 53 #[.int .i64 (-n), .int .i64 (-(d : Int))] w fun e w' => e = .returned (.agg #[.int .i64 ((n : Rat) / ((d : Int) : Rat)).num, .int .i64 (((n : Rat) / ((d : Int) : Rat)).den : Int)]) ∧ Below w.heap.size w w' := by
  have hv := low_vals n d hd
  have td : decide (-(d : Int) < 0) = true := by simp; omega
  have k1 : -(-n) = n := by omega
  have k2 : -(-(d : Int)) = (d : Int) := by omega
  have hT := GB.made w 58 (.int .i64 0) (.int .i64 0)
  by_cases hn : n = 0
  · have tn : (n == 0) = true := by simp [hn]
    have HV := Lib.hid (show ((n : Rat) / ((d : Int) : Rat)).num = 0 ∧ (((n : Rat) / ((d : Int) : Rat)).den : Int) = 1 by
      rw [hn]
      have : ((0 : Int) : Rat) / ((d : Int) : Rat) = 0 := by rw [Rat.intCast_zero]; grind
      rw [this]; exact ⟨rfl, rfl⟩)
    clear hv
    have r0 := hT.c0; have r1 := hT.c1; have f0 := hT.f0; have f1 := hT.f1
    have T := Lib.hid hT; clear hT hn
    go_enter Try.func53, Try.ntmps53
    go_wp2_with fail
    rw [HV.out.1, HV.out.2]
    refine bodyPost_ret (v := .agg #[.int .i64 0, .int .i64 1]) ?_ rfl ⟨rfl, ?_⟩
    · first | exact results_cell_row Try.results53 _ _ _ _ _ (0, 0) _ rfl (Blk.new w _ _) Try.underlying58 rfl rfl | exact results_cell_row Try.results53 _ _ _ _ _ (0, 0) _ rfl ((T.out.blk.set_ 0 _).set_ 1 _) Try.underlying58 rfl rfl
    · first | exact al w _ | exact ((al w _).setCell (Nat.le_refl _) _).setCell (Nat.le_refl _) _
  · have tn : (n == 0) = false := by simp [hn]
    have HV := Lib.hid hv; clear hv
    have hna : n.natAbs ≤ 9223372036854775807 := by omega
    have HG0 := Lib.hid (show Nat.gcd n.natAbs d ≠ 0 by intro h; exact hn (by have := Nat.eq_zero_of_gcd_eq_zero_left h; omega))
    go_enter Try.func53, Try.ntmps53
    go_wp2_with fail
    have hW := al w (.cells #[.int .i64 0, .int .i64 0] 58)
    generalize w.alloc (.cells #[.int .i64 0, .int .i64 0] 58) = w0 at hT hW ⊢
    have T := Lib.hid hT; have HW := Lib.hid hW; clear hT hW
    refine (rabs_any n h1 h2 _).mono ?_
    rintro e w1 ⟨rfl, rfl⟩
    go_wp2_with fail
    refine (rgcd_any n.natAbs d hna h4 _).mono ?_
    rintro e w2 ⟨rfl, hb⟩
    replace T := Lib.hid (T.out.new hb); replace HW := Lib.hid (bthen HW.out hb HW.out.size)
    clear hb
    have tg : (((Nat.gcd n.natAbs d : Nat) : Int) == 0) = false := by have := HG0.out; simp; omega
    have hgz : ((Nat.gcd n.natAbs d : Nat) : Int) ≠ 0 := by have := HG0.out; omega
    have hg1 : (0 : Int) < ((Nat.gcd n.natAbs d : Nat) : Int) := by omega
    obtain ⟨e1, e2⟩ := HV.out
    generalize ((Nat.gcd n.natAbs d : Nat) : Int) = g at *
    have r0 := T.out.c0; have r1 := T.out.c1; have f0 := T.out.f0; have f1 := T.out.f1
    have b1 : (n.tdiv g).natAbs ≤ n.natAbs := by rw [Int.natAbs_tdiv]; exact Nat.div_le_self _ _
    have b2 : 0 ≤ (d : Int) / g := Int.ediv_nonneg (by omega) (by omega)
    have b3 : (d : Int) / g ≤ d := Int.ediv_le_self _ (by omega)
    have e5 : (d : Int).tdiv g = (d : Int) / g := Int.tdiv_eq_ediv_of_nonneg (by omega)
    have E1 := Lib.hid e1; have E2 := Lib.hid e2
    have i1 : IntKind.i64.wrap (n.tdiv g) = n.tdiv g := IntWalk.i64_in _ (by omega)
    have i2 : IntKind.i64.wrap ((d : Int) / g) = (d : Int) / g := IntWalk.i64_in _ (by omega)
    generalize hq : (d : Int) / g = q at *
    have HQ := Lib.hid hq; clear hq
    clear e1 e2 HV b1 HG0 hna hn
    go_wp2_with fail
    go_region
    all_goals
      go_wp2_with fail
      refine bodyPost_ret (v := .agg #[.int .i64 (n.tdiv g), .int .i64 q]) ?_ rfl ⟨by rw [E1.out, E2.out], ((HW.out.drew).setCell (p := ⟨w.heap.size, 0, none⟩) (Nat.le_refl _) _).setCell (p := ⟨w.heap.size, 1, none⟩) (Nat.le_refl _) _⟩
      exact results_cell_row Try.results53 _ _ _ _ _ (0, 0) _ rfl ((T.out.blk.set_ 0 _).set_ 1 _) Try.underlying58 rfl rfl
theorem rlow_any (n d : Int) (h1 : -9223372036854775807 ≤ n) (h2 : n ≤ 9223372036854775807) (h3 : -9223372036854775807 ≤ d) (h4 : d ≤ 9223372036854775807) (hd : d ≠ 0) : Calls Try.prog 53 #[.int .i64 n, .int .i64 d] w fun e w' => e = .returned (.agg #[.int .i64 ((n : Rat) / (d : Rat)).num, .int .i64 (((n : Rat) / (d : Rat)).den : Int)]) ∧ Below w.heap.size w w' := by
  by_cases hp : 0 < d
  · obtain ⟨k, rfl⟩ := Int.eq_ofNat_of_zero_le (show 0 ≤ d by omega)
    exact rlow_pos n k h1 h2 (by omega) (by omega)
  · obtain ⟨k, hk⟩ := Int.eq_ofNat_of_zero_le (show 0 ≤ -d by omega)
    obtain rfl : d = -(k : Int) := by omega
    have h := rlow_neg (w := w) (-n) k (by omega) (by omega) (by omega) (by omega)
    rw [Int.neg_neg] at h
    have e : ((-n : Int) : Rat) / ((k : Int) : Rat) = (n : Rat) / ((-(k : Int) : Int) : Rat) := by
      rw [Rat.intCast_neg, Rat.intCast_neg]; grind
    rw [e] at h
    exact h
end
end Go.Proofs.Ytamcibmjpmibdaa
namespace Go.Proofs.Ytamcibmjpmibdaa
open Go.RowKit

theorem gives_mono {P : Program} {o : Oper} {ρ : Operand → Value} {w : World} {K K' : Value → World → Prop} (h : gives P o ρ w K) (hk : ∀ v w', K v w' → K' v w') : gives P o ρ w K' := by
  unfold gives at *
  generalize (execOp ρ o).run P w = r at *
  cases r with
  | ok x w' =>
    cases x with
    | value v => exact hk _ _ h
    | skip => exact hk _ _ h
    | enter f args => exact h.mono fun e w'' ⟨v, h1, h2⟩ => ⟨v, h1, hk _ _ h2⟩
    | _ => exact h
  | halt x w' => exact h
section
variable {P : Program} {ops : Array Oper} {o : Oper} {a : Act} {w : World}
theorem wpAny_next {Q : Exit → Act → World → Prop} {i fuel : Nat} {listed : Array Bool} (hr : Region.ready .any ops listed = [i]) (ho : ops[i]? = some o) (hg : o.guard = none) (h : o.wp P a w (fun a' w' => wpAny P .any ops Q fuel (listed.setIfInBounds i true) a' w') Q) : wpAny P .any ops Q (fuel + 1) listed a w := by
  refine ⟨fun h0 => absurd (hr.symm.trans h0) (by simp), fun j hj => ?_⟩
  rw [hr] at hj
  simp at hj
  subst hj
  unfold wpOp
  simp only [ho]
  rw [if_pos (by simp [Region.wanted, hg])]
  exact .inl h
theorem wpAny_end {Q : Exit → Act → World → Prop} {listed : Array Bool} (hr : Region.ready .any ops listed = []) (h : Q .normal a w) : ∀ fuel, wpAny P .any ops Q fuel listed a w
  | 0 => ⟨hr, h⟩
  | _ + 1 => ⟨fun _ => h, fun j hj => by rw [hr] at hj; cases hj⟩
end
theorem ob_undef {ops : Array Oper} {o : Oper} {a : Act} {G E : Prop} {g : Nat} {want : Bool} (t : Tmp) (hg : o.guard = some (g, want)) (ht : dstOf ops g = some t) (hv : tv a t = undef) (h : E) : if Region.wanted o (yielded ops a.tmps) = true then G else E := by
  have hy : yielded ops a.tmps g ≠ some want := by
    unfold yielded
    simp only [dstOf] at ht
    rw [ht]
    simp only [tv, Array.getD_eq_getD_getElem?] at hv
    cases h : a.tmps[t]? with
    | none => simp [h]
    | some x => rw [h] at hv; simp at hv; subst hv; simp [h, undef]
  rw [if_neg (by simp [Region.wanted, hg, hy])]; exact h
theorem wpOps_next {P : Program} {ops : Array Oper} {o : Oper} {a : Act} {w : World} {Q : Exit → Act → World → Prop} {i : Nat} {r : List Nat} (ho : ops[i]? = some o) (hg : o.guard = none) (h : o.wp P a w (wpOps P ops Q r) Q) : wpOps P ops Q (i :: r) a w := by
  unfold wpOps
  simp only [ho]
  rw [if_pos (by simp [Region.wanted, hg])]
  exact .inl h
theorem wp_assign {o : Oper} {a : Act} {w : World} {K : Act → World → Prop} {Q : Exit → Act → World → Prop} (t : Tmp) (x : Operand) (ho : o.op = .assign x) (hd : o.dst = some t) (v : Value) (hv : a.eval x = v) (h : K (a.put (some t) v) w) : o.wp Try.prog a w K Q := by
  rw [← hd, ← hv] at h
  unfold Oper.wp execOp
  rw [ho]
  exact h
section
variable {o : Oper} {a : Act} {w : World} {t : Tmp}
theorem len_c {A : Option Addr} {n c : Nat} {T e : TypeId} (hu : Try.prog.underlying T = some (.slice e)) (ho : o.op = .call { callee := .builtin .len, args := #[.tmp t], argTypes := #[T] }) (h : tv a t = .slice A n c) : gives Try.prog o a.eval w (fun v w' => v = .int .i64 (n : Int) ∧ Below w.heap.size w w') := by
  refine gives_val (.int .i64 (n : Int)) ?_ ⟨rfl, Below.refl _ _⟩
  unfold execOp
  rw [ho]
  simp [eval_tmp, h, resolve, invoke, builtin, Builtin.len_, run_underlying hu, goInt]
end
end Go.Proofs.Ytamcibmjpmibdaa
