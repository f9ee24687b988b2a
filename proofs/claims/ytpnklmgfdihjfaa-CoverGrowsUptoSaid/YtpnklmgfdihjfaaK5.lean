/-
Operations of regions that draw their order: what each kind yields.
rat.Text.
Small functions of the laws of layer 5: normal, same, great.
normal of the number 0.
same, great of the laws of layer 5.
rats and great of the laws of layer 5: arguments copied into a Rat.
awake of layer 5 returns true.
The reference of layer 5: gcd, abs, Low; is of the laws.
Operations of regions, met one by one: more kinds (tuples, lengths, bits, fields of boxed graphs).
'a, b := rats(x), rats(y)': the operations of that region.
Rats and the reference's fractions as values; the numbers of a law's array.
The reference of layer 5: Cmp; the law's own of.
Words for RatCounts: a Rat and its fraction, stored; bounds of small fractions.
Operations of regions: an element of a slice, and what is at an address.
-/
import Derived.Test.YtpnklmgfdihjfaaK1
import Derived.OrdersHeld
import Derived.Test.YtpnklmgfdihjfaaK4
import Derived.IntWalk
namespace Go.Proofs.Ytpnklmgfdihjfaa
open Go.RowKit

/-- What an operation yields, as a value and a world. -/
def gives (P : Program) (o : Oper) (ρ : Operand → Value) (w : World) (K : Value → World → Prop) : Prop :=
  match (execOp ρ o).run P w with
  | .ok (.value v) w' => K v w'
  | .ok .skip w' => K undef w'
  | .ok (.enter f args) w' => Calls P f args w' (fun e w'' => ∃ v, e = .returned v ∧ K v w'')
  | _ => False
theorem wp_of_gives {P : Program} {o : Oper} {a : Act} {w : World} {K : Value → World → Prop} {K' : Act → World → Prop} {Q : Exit → Act → World → Prop} (h : gives P o a.eval w K) (hk : ∀ v w', K v w' → K' (a.put o.dst v) w') : o.wp P a w K' Q := by
  unfold gives at h
  unfold Oper.wp
  generalize (execOp a.eval o).run P w = r at *
  cases r with
  | ok x w' =>
    cases x <;> simp only at h <;> simp only [Oper.upon]
    case value v => exact hk _ _ h
    case skip => exact hk _ _ h
    case enter f args =>
      refine h.mono ?_
      rintro e w'' ⟨v, rfl, hv⟩
      exact hk _ _ hv
  | halt x w' => exact absurd h (by simp)

def dstOf (ops : Array Oper) (i : Nat) : Option Tmp := (ops[i]?).bind (·.dst)
/-- The value of a slot. -/
def tv (a : Act) (t : Tmp) : Value := a.tmps.getD t undef
theorem eval_tmp (a : Act) (t : Tmp) : a.eval (.tmp t) = tv a t := rfl
theorem eval_const (a : Act) (v : Value) : a.eval (.const v) = v := rfl
/-- The slots that operation i looks at, and which operations of the region fill. -/
def looksDeps (ops : Array Oper) (m i : Nat) : List (Nat × Tmp) :=
  match ops[i]? with
  | none => []
  | some o => (List.range m).filterMap fun k => match dstOf ops k with | some t => if (o.looksAt ops).contains t then some (k, t) else none | none => none
/-- What operation i waits for. -/
def waitsFor (ops : Array Oper) (i : Nat) : List Nat := match ops[i]? with | some o => (o.after.toList.filter (Region.binds .any)).map (·.on) | none => []
/-- .. at once or through others. -/
def ancs (ops : Array Oper) (j : Nat) : List Nat := (List.range ops.size).reverse.foldl (fun S k => if S.contains k then S ++ waitsFor ops k else S) (waitsFor ops j)
theorem ancs_all {ops : Array Oper} {j : Nat} (L : Nat → Prop) (hj : ∀ k ∈ waitsFor ops j, L k) (hc : ∀ k, L k → ∀ i ∈ waitsFor ops k, L i) : ∀ k ∈ ancs ops j, L k := by
  unfold ancs
  generalize waitsFor ops j = S at hj
  generalize (List.range ops.size).reverse = q
  induction q generalizing S with
  | nil => exact hj
  | cons x q ih =>
    rw [List.foldl_cons]
    refine ih _ ?_
    split
    · rename_i hx
      intro k hk
      rcases List.mem_append.1 hk with h | h
      · exact hj k h
      · exact hc x (hj x (by simpa using hx)) k h
    · exact hj
theorem waits_of {ops : Array Oper} {i : Nat} {o : Oper} (ho : ops[i]? = some o) {L : Nat → Prop} (h : ∀ e ∈ o.after, Region.binds .any e = true → L e.on) : ∀ k ∈ waitsFor ops i, L k := by
  intro k hk
  simp only [waitsFor, ho, List.mem_map, List.mem_filter] at hk
  obtain ⟨e, ⟨he, hb⟩, rfl⟩ := hk
  exact h e (by simpa using he) hb
/-- An operation that no other disturbs. -/
def freeB (ops : Array Oper) (i : Nat) : Bool :=
  match ops[i]? with
  | none => false
  | some oi => (List.range ops.size).all fun j => j == i || (ancs ops i).contains j || match ops[j]? with
      | some oj => oj.after.any (fun e => Region.binds .any e && e.on == i) || oi.apart ops oj
      | none => true
theorem freeB_spec {ops : Array Oper} {i : Nat} {oi : Oper} (hi : ops[i]? = some oi) (h : freeB ops i = true) (j : Nat) (oj : Oper) (hj : ops[j]? = some oj) (hne : j ≠ i) (hna : j ∉ ancs ops i) (hno : ∀ e ∈ oj.after, Region.binds .any e = true → e.on ≠ i) : oi.apart ops oj = true := by
  simp only [freeB, hi, List.all_eq_true, List.mem_range] at h
  have h1 := h j (Array.getElem?_eq_some_iff.1 hj).1
  simp only [hj, Bool.or_eq_true, beq_iff_eq, hne, false_or, List.contains_iff_mem, hna] at h1
  rcases h1 with h1 | h1
  · obtain ⟨e, he, hb⟩ := Array.any_eq_true'.1 h1
    simp only [Bool.and_eq_true, beq_iff_eq] at hb
    exact absurd hb.2 (hno e he hb.1)
  · exact h1
/-- The check of a region's first m operations. -/
def joinB (ops : Array Oper) (m sz : Nat) (kss : List (List (Nat × Tmp))) (ts : List Tmp) (lq : List Nat) : Bool :=
  decide (m ≤ ops.size) && Region.noSelect ops &&
  ((List.range m).all fun i => match dstOf ops i with | some t => decide (t < sz) && !ts.contains t | none => true) &&
  ((List.range m).all fun i => (List.range m).all fun j => i == j || dstOf ops i == none || dstOf ops i != dstOf ops j) &&
  ((List.range m).all fun i => match ops[i]? with | some o => (o.after.all fun e => !Region.binds .any e || decide (e.on < i)) && (looksDeps ops m i).all fun k => o.after.any fun e => Region.binds .any e && e.on == k.1 | none => false) &&
  ((List.range m).map (looksDeps ops m) == kss) &&
  ((List.range (ops.size - m)).all fun j => (List.range m).all fun i => lq.contains i || (ancs ops (m + j)).contains i) &&
  (lq.all fun i => freeB ops i)

def factAt (R : List (Value → World → Prop)) (k : Nat) : Value → World → Prop := R.getD k (fun _ _ => True)
/-- The facts of the slots that an operation looks at. -/
def depFacts (R : List (Value → World → Prop)) (a : Act) (w : World) : List (Nat × Tmp) → Prop
  | [] => True
  | (k, t) :: r => factAt R k (tv a t) w ∧ depFacts R a w r
theorem depFacts_all {R : List (Value → World → Prop)} {a : Act} {w : World} : ∀ (ks : List (Nat × Tmp)), (∀ k ∈ ks, factAt R k.1 (tv a k.2) w) → depFacts R a w ks
  | [], _ => trivial
  | (k, t) :: r, h => ⟨h (k, t) (by simp), depFacts_all r (fun k' hk => h k' (by simp [hk]))⟩
/-- The block that a pointer or a slice lies in. -/
def blkOf : Value → Option Nat
  | .pointer (some p) => some p.block
  | .slice (some p) _ _ => some p.block
  | _ => none
/-- The flagged operations that an operation looks at made different blocks. -/
def distD (FL : List Bool) (a : Act) (ks : List (Nat × Tmp)) : Prop := ∀ x ∈ ks, ∀ y ∈ ks, x.1 ≠ y.1 → FL.getD x.1 false = true → FL.getD y.1 false = true → blkOf (tv a x.2) ≠ blkOf (tv a y.2)
def depFactsD (D : Prop) (R : List (Value → World → Prop)) (a : Act) (w : World) : List (Nat × Tmp) → Prop
  | [] => D
  | (k, t) :: r => factAt R k (tv a t) w ∧ depFactsD D R a w r
theorem depFactsD_all {D : Prop} {R : List (Value → World → Prop)} {a : Act} {w : World} (hD : D) : ∀ (ks : List (Nat × Tmp)), (∀ k ∈ ks, factAt R k.1 (tv a k.2) w) → depFactsD D R a w ks
  | [], _ => hD
  | (k, t) :: r, h => ⟨h (k, t) (by simp), depFactsD_all hD r (fun k' hk => h k' (by simp [hk]))⟩
theorem depFactsD_plain {D : Prop} {R : List (Value → World → Prop)} {a : Act} {w : World} : ∀ (ks : List (Nat × Tmp)), depFactsD D R a w ks → depFacts R a w ks
  | [], _ => trivial
  | (_, _) :: r, h => ⟨h.1, depFactsD_plain r h.2⟩
/-- The slots from outside that the region reads. -/
def envFacts (a : Act) : List (Tmp × Value) → Prop
  | [] => True
  | (t, v) :: r => tv a t = v ∧ envFacts a r
theorem envFacts_keep {a a' : Act} : ∀ {env : List (Tmp × Value)}, (∀ t ∈ env.map (·.1), tv a' t = tv a t) → envFacts a env → envFacts a' env
  | [], _, _ => trivial
  | (t, v) :: r, h, ⟨h1, h2⟩ => ⟨(h t (by simp)).trans h1, envFacts_keep (fun t' ht => h t' (by simp at ht ⊢; exact .inr ht)) h2⟩

/-- It lies in a new block. -/
def Fresh (v : Value) (w w' : World) : Prop := ∃ g, blkOf v = some g ∧ w.heap.size ≤ g ∧ g < w'.heap.size
/-- What has to be shown of one operation. -/
def Ob (P : Program) (ops : Array Oper) (w0 : World) (env : List (Tmp × Value)) (R : List (Value → World → Prop)) (FL : List Bool) (o : Oper) (ks : List (Nat × Tmp)) (Ri : Value → World → Prop) (f : Bool) : Prop :=
  ∀ (a : Act) (w : World), Below w0.heap.size w0 w → envFacts a env → depFactsD (distD FL a ks) R a w ks →
    match f with
    | false => if Region.wanted o (yielded ops a.tmps) = true then gives P o a.eval w (fun v w' => Ri v w' ∧ Below w.heap.size w w') else Ri undef w
    | true => Region.wanted o (yielded ops a.tmps) = true ∧ gives P o a.eval w (fun v w' => (Ri v w' ∧ Below w.heap.size w w') ∧ Fresh v w w')
/-- .. of each operation; 'fl' marks those that make new blocks. -/
def Obs (P : Program) (ops : Array Oper) (w0 : World) (env : List (Tmp × Value)) (R : List (Value → World → Prop)) (FL : List Bool) : List Oper → List (List (Nat × Tmp)) → List (Value → World → Prop) → List Bool → Prop
  | o :: l, ks :: r, Ri :: q, f :: fl => Ob P ops w0 env R FL o ks Ri f ∧ Obs P ops w0 env R FL l r q fl
  | _, [], [], [] => True
  | _, _, _, _ => False
theorem obs_get {P : Program} {ops : Array Oper} {w0 : World} {env : List (Tmp × Value)} {R : List (Value → World → Prop)} {FL : List Bool} : ∀ (l : List Oper) (kss : List (List (Nat × Tmp))) (q : List (Value → World → Prop)) (fl : List Bool), Obs P ops w0 env R FL l kss q fl →
    ∀ i o ks, l[i]? = some o → kss[i]? = some ks → Ob P ops w0 env R FL o ks (q.getD i (fun _ _ => True)) (fl.getD i false)
  | o :: l, ks :: r, Ri :: q, f :: fl, ⟨h1, h2⟩, 0, o', ks', ho, hk => by simp at ho hk; subst ho; subst hk; exact h1
  | o :: l, ks :: r, Ri :: q, f :: fl, ⟨h1, h2⟩, i + 1, o', ks', ho, hk => by simpa using obs_get l r q fl h2 i o' ks' (by simpa using ho) (by simpa using hk)
  | _, [], _, _, _, i, o', ks', _, hk => by simp at hk
  | [], _ :: _, _, _, h, _, _, _, ho, _ => by simp at ho
  | _ :: _, _ :: _, [], _, h, _, _, _, _, _ => by simp [Obs] at h
  | _ :: _, _ :: _, _ :: _, [], h, _, _, _, _, _ => by simp [Obs] at h

section
variable {P : Program} {ops : Array Oper} {w0 : World} {env : List (Tmp × Value)} {R : List (Value → World → Prop)} {m : Nat}

theorem put_size (a : Act) (d : Option Tmp) (v : Value) : (a.put d v).tmps.size = a.tmps.size := by cases d <;> simp [Act.put]
theorem tv_put (a : Act) (d : Option Tmp) (v : Value) (t : Tmp) (h : d ≠ some t) : tv (a.put d v) t = tv a t := by
  cases d with
  | none => rfl
  | some d =>
    have hne : d ≠ t := fun e => h (by rw [e])
    simp [tv, Act.put, Array.getElem?_setIfInBounds_ne hne]
theorem tv_put_self (a : Act) (v : Value) (t : Tmp) (h : t < a.tmps.size) : tv (a.put (some t) v) t = v := by
  simp [tv, Act.put, h]

/-- The slots as they stand: those of the operations that have come up hold what they yielded. -/
def stOf (ops : Array Oper) (a0 : Act) (vs : Nat → Value) (L : Nat → Bool) : Nat → Act
  | 0 => a0
  | m + 1 => if L m = true then (stOf ops a0 vs L m).put (dstOf ops m) (vs m) else stOf ops a0 vs L m
def upd {α : Type} (f : Nat → α) (i : Nat) (x : α) : Nat → α := fun j => if j = i then x else f j
theorem upd_self {α : Type} (f : Nat → α) (i : Nat) (x : α) : upd f i x i = x := by simp [upd]
theorem upd_ne {α : Type} (f : Nat → α) {i j : Nat} (x : α) (h : j ≠ i) : upd f i x j = f j := by simp [upd, h]
theorem st_congr (a0 : Act) {vs vs' : Nat → Value} {L L' : Nat → Bool} : ∀ m, (∀ i, i < m → L i = L' i ∧ (L i = true → vs i = vs' i)) → stOf ops a0 vs L m = stOf ops a0 vs' L' m
  | 0, _ => rfl
  | m + 1, h => by
    obtain ⟨h1, h2⟩ := h m (by omega)
    rw [stOf, stOf, st_congr a0 m (fun i hi => h i (by omega)), ← h1]
    by_cases hl : L m = true
    · rw [if_pos hl, if_pos hl, h2 hl]
    · rw [if_neg hl, if_neg hl]
theorem st_put (a0 : Act) {vs : Nat → Value} {L : Nat → Bool} {i : Nat} (v : Value) : ∀ m, i < m → L i = false → (∀ j, j < m → j ≠ i → dstOf ops i = none ∨ dstOf ops i ≠ dstOf ops j) →
    stOf ops a0 (upd vs i v) (upd L i true) m = (stOf ops a0 vs L m).put (dstOf ops i) v
  | 0, h, _, _ => absurd h (by omega)
  | m + 1, h, hl, hd => by
    rw [stOf, stOf]
    by_cases hm : m = i
    · subst hm
      rw [if_pos (by rw [upd_self]), upd_self, if_neg (by rw [hl]; simp)]
      congr 1
      exact st_congr a0 m (fun j hj => ⟨upd_ne _ _ (by omega), fun _ => upd_ne _ _ (by omega)⟩)
    · rw [upd_ne _ _ hm, upd_ne _ _ hm, st_put a0 v m (by omega) hl (fun j hj hji => hd j (by omega) hji)]
      by_cases hlm : L m = true
      · rw [if_pos hlm, if_pos hlm]
        rcases hd m (by omega) hm with h0 | h0
        · rw [h0]; rfl
        · exact Act.put_comm _ _ _ (fun d h1 h2 => h0 (by rw [h1, h2]))
      · rw [if_neg hlm, if_neg hlm]
theorem st_size (a0 : Act) {vs : Nat → Value} {L : Nat → Bool} : ∀ m, (stOf ops a0 vs L m).tmps.size = a0.tmps.size
  | 0 => rfl
  | m + 1 => by
    rw [stOf]
    split
    · rw [put_size, st_size a0 m]
    · exact st_size a0 m
theorem st_out (a0 : Act) {vs : Nat → Value} {L : Nat → Bool} {t : Tmp} : ∀ m, (∀ i, i < m → dstOf ops i ≠ some t) → tv (stOf ops a0 vs L m) t = tv a0 t
  | 0, _ => rfl
  | m + 1, h => by
    rw [stOf]
    split
    · rw [tv_put _ _ _ _ (h m (by omega)), st_out a0 m (fun i hi => h i (by omega))]
    · exact st_out a0 m (fun i hi => h i (by omega))
theorem st_in (a0 : Act) {vs : Nat → Value} {L : Nat → Bool} {t : Tmp} {k : Nat} : ∀ m, k < m → dstOf ops k = some t → L k = true → t < a0.tmps.size → (∀ j, j < m → j ≠ k → dstOf ops j ≠ some t) → tv (stOf ops a0 vs L m) t = vs k
  | 0, h, _, _, _, _ => absurd h (by omega)
  | m + 1, h, hk, hl, ht, hd => by
    rw [stOf]
    by_cases hm : m = k
    · subst hm
      rw [if_pos hl, hk, tv_put_self _ _ _ (by rw [st_size]; exact ht)]
    · have ih := st_in (vs := vs) a0 m (by omega) hk hl ht (fun j hj hjk => hd j (by omega) hjk)
      split
      · rw [tv_put _ _ _ _ (hd m (by omega) hm), ih]
      · exact ih

/-- All that the operations yielded, in their slots. -/
def putsL (vs : Nat → Value) : Nat → List Oper → Act → Act
  | _, [], a => a
  | i, o :: r, a => putsL vs (i + 1) r (a.put o.dst (vs i))
theorem putsL_snoc (vs : Nat → Value) (o : Oper) : ∀ (l : List Oper) (i : Nat) (a : Act), putsL vs i (l ++ [o]) a = (putsL vs i l a).put o.dst (vs (i + l.length))
  | [], i, a => rfl
  | x :: l, i, a => by rw [List.cons_append, putsL, putsL, putsL_snoc vs o l]; congr 2; simp; omega
theorem st_all (l : List Oper) (a0 : Act) (vs : Nat → Value) : ∀ m, m ≤ l.length → stOf l.toArray a0 vs (fun _ => true) m = putsL vs 0 (l.take m) a0
  | 0, _ => by simp [stOf, putsL]
  | m + 1, h => by
    rw [stOf, if_pos rfl, st_all l a0 vs m (by omega), List.take_succ_eq_append_getElem (by omega), putsL_snoc]
    congr 1
    · simp [dstOf, show m < l.length by omega]
    · congr 1; simp; omega

theorem listed_upd (listed : Array Bool) (i : Nat) (hi : i < listed.size) : (fun j => (listed.setIfInBounds i true).getD j false) = upd (fun j => listed.getD j false) i true := by
  funext j
  simp only [upd]
  by_cases h : j = i
  · subst h; simp [hi]
  · simp [h, Array.getElem?_setIfInBounds_ne (Ne.symm h)]

/-- How many of the first m have not come up. -/
def left (L : Nat → Bool) : Nat → Nat
  | 0 => 0
  | m + 1 => left L m + if L m = true then 0 else 1
theorem left_congr {L L' : Nat → Bool} : ∀ m, (∀ i, i < m → L i = L' i) → left L m = left L' m
  | 0, _ => rfl
  | m + 1, h => by rw [left, left, left_congr m (fun i hi => h i (by omega)), h m (by omega)]
theorem left_upd {L : Nat → Bool} {i : Nat} : ∀ m, i < m → L i = false → left L m = left (upd L i true) m + 1
  | 0, h, _ => absurd h (by omega)
  | m + 1, h, hl => by
    rw [left, left]
    by_cases hm : m = i
    · subst hm
      rw [upd_self, hl, left_congr m (fun j hj => (upd_ne L true (by omega : j ≠ m)).symm)]
      simp
    · rw [upd_ne _ _ hm, left_upd m (by omega) hl]; omega
theorem left_zero {L : Nat → Bool} : ∀ m, left L m = 0 → ∀ i, i < m → L i = true
  | 0, _, i, hi => absurd hi (by omega)
  | m + 1, h, i, hi => by
    rw [left] at h
    by_cases hm : i = m
    · subst hm
      by_cases hl : L i = true
      · exact hl
      · rw [if_neg hl] at h; omega
    · exact left_zero m (by omega) i (by omega)
theorem left_pos {L : Nat → Bool} : ∀ m, left L m ≠ 0 → ∃ i, i < m ∧ L i = false ∧ ∀ j, j < i → L j = true
  | 0, h => absurd rfl h
  | m + 1, h => by
    by_cases h0 : left L m = 0
    · have hall := left_zero m h0
      rw [left, h0] at h
      refine ⟨m, by omega, ?_, hall⟩
      by_cases hl : L m = true
      · rw [if_pos hl] at h; omega
      · simpa using hl
    · obtain ⟨i, hi, h1, h2⟩ := left_pos m h0
      exact ⟨i, by omega, h1, h2⟩

def listM (n m : Nat) : Array Bool := (List.replicate m true ++ List.replicate (n - m) false).toArray
theorem listM_get (n m i : Nat) (b : Bool) (h : m ≤ n) : (listM n m).getD i b = if i < m then true else if i < n then false else b := by
  simp only [listM, Array.getD_eq_getD_getElem?, List.getElem?_toArray, List.getElem?_append, List.length_replicate, List.getElem?_replicate]
  by_cases h1 : i < m
  · simp [h1]
  · rw [if_neg h1, if_neg h1]
    by_cases h2 : i < n
    · rw [if_pos (by omega), if_pos h2]; rfl
    · rw [if_neg (by omega), if_neg h2]; rfl
/-- What has to be shown of an operation that may be late: it yields its value in whatever world. -/
def LOb (P : Program) (ops : Array Oper) (w0 : World) (env : List (Tmp × Value)) (R : List (Value → World → Prop)) (S : World → Prop) (o : Oper) (ks : List (Nat × Tmp)) (Ri : Value → World → Prop) : Prop :=
  ∀ (a : Act) (w : World), Below w0.heap.size w0 w → envFacts a env → depFacts R a w ks → Region.wanted o (yielded ops a.tmps) = true ∧ ∃ v, (∀ w', S w' → (execOp a.eval o).run P w' = .ok (.value v) w') ∧ Ri v w
/-- Each fact is kept. -/
def Stab : List (Value → World → Prop) → Prop
  | [] => True
  | Ri :: q => (∀ v w w', Ri v w → Below w.heap.size w w' → Ri v w') ∧ Stab q
theorem stab_get : ∀ {R : List (Value → World → Prop)}, Stab R → ∀ i v w w', factAt R i v w → Below w.heap.size w w' → factAt R i v w'
  | [], _, i, v, w, w', _, _ => by simp [factAt]
  | Ri :: q, ⟨h1, h2⟩, 0, v, w, w', h, hb => by simpa [factAt] using h1 v w w' (by simpa [factAt] using h) hb
  | Ri :: q, ⟨h1, h2⟩, i + 1, v, w, w', h, hb => by
    have := stab_get h2 i v w w' (by simpa [factAt] using h) hb
    simpa [factAt] using this

/-- Any order, nothing asked of the worlds. -/
theorem anyH_of_any {l : List Oper} {Q : Exit → Act → World → Prop} : ∀ (fuel : Nat) (listed : Array Bool) (a : Act) (w : World), wpAny P .any l.toArray Q fuel listed a w → wpAnyH P .any l.toArray Q (fun _ => True) fuel listed a w
  | 0, _, _, _, h => h
  | fuel + 1, _, _, _, h => ⟨h.1, fun i hi => wpOp_mono (fun a' w' h' => ⟨trivial, anyH_of_any fuel _ a' w' h'⟩) (h.2 i hi)⟩
theorem join_go {l : List Oper} {Q : Exit → Act → World → Prop} {a0 : Act} {sz : Nat} {kss : List (List (Nat × Tmp))} {lq : List Nat} {S : World → Prop} (hS : ∀ w', Below w0.heap.size w0 w' → S w') (hB : joinB l.toArray m sz kss (env.map (·.1)) lq = true) (hsz : a0.tmps.size = sz) (henv : envFacts a0 env)
    (fl : List Bool) (hlq : ∀ i ∈ lq, fl.getD i false = false ∧ (∀ o ks, l[i]? = some o → kss[i]? = some ks → LOb P l.toArray w0 env R S o ks (factAt R i)) ∧ ∀ d v c a w, Q (.panic c) (Act.put a d v) w → Q (.panic c) a w) (hst : Stab R) (hob : Obs P l.toArray w0 env R fl l kss R fl)
    (fin : ∀ vs w, Below w0.heap.size w0 w → (∀ i, i < m → factAt R i (vs i) w) → (∀ i j, i < m → j < m → i ≠ j → fl.getD i false = true → fl.getD j false = true → blkOf (vs i) ≠ blkOf (vs j)) → wpAnyH P .any l.toArray Q S (l.length - m) (listM l.length m) (putsL vs 0 (l.take m) a0) w) :
    ∀ (fuel : Nat) (listed : Array Bool) (vs : Nat → Value) (w : World), listed.size = l.length → (∀ j, m ≤ j → listed.getD j false = false) → (∀ k, listed.getD k false = true → ∀ i ∈ waitsFor l.toArray k, listed.getD i false = true) → fuel = l.length - m + left (fun i => listed.getD i false) m → Below w0.heap.size w0 w →
      (∀ i, i < m → listed.getD i false = true → factAt R i (vs i) w) → (∀ i, i < m → listed.getD i false = true → fl.getD i false = true → ∃ g, blkOf (vs i) = some g ∧ g < w.heap.size) → (∀ i j, i < m → j < m → i ≠ j → listed.getD i false = true → listed.getD j false = true → fl.getD i false = true → fl.getD j false = true → blkOf (vs i) ≠ blkOf (vs j)) → wpAnyH P .any l.toArray Q S fuel listed (stOf l.toArray a0 vs (fun i => listed.getD i false) m) w := by
  simp only [joinB, Bool.and_eq_true, decide_eq_true_eq, List.all_eq_true, List.mem_range, List.size_toArray] at hB
  obtain ⟨⟨⟨⟨⟨⟨⟨hm, hns⟩, hts⟩, hdis⟩, hdep⟩, hkss⟩, hrest⟩, hfree⟩ := hB
  have hkss : (List.range m).map (looksDeps l.toArray m) = kss := by simpa using hkss
  have hdist : ∀ i j, i < m → j < m → j ≠ i → dstOf l.toArray i = none ∨ dstOf l.toArray i ≠ dstOf l.toArray j := by
    intro i j hi hj hji
    have := hdis i hi j hj
    simp only [Bool.or_eq_true, beq_iff_eq, bne_iff_ne] at this
    rcases this with (h | h) | h
    · exact absurd h.symm hji
    · exact .inl h
    · exact .inr h
  intro fuel
  induction fuel with
  | zero =>
    intro listed vs w hls hj hcl hf hb hR hP hN
    have h0 : left (fun i => listed.getD i false) m = 0 := by omega
    have hall := left_zero m h0
    have e1 : listed = listM l.length m := by
      apply Array.ext
      · simp [hls, listM]; omega
      · intro i h1 h2
        have h3 := listM_get l.length m i false hm
        have h4 : listed.getD i false = listed[i] := by simp [h1]
        have h5 : (listM l.length m).getD i false = (listM l.length m)[i] := by simp [h2]
        rw [← h4, ← h5, h3]
        by_cases hi : i < m
        · rw [if_pos hi]; exact hall i hi
        · rw [if_neg hi, hj i (by omega)]; split <;> rfl
    have := fin vs w hb (fun i hi => hR i hi (hall i hi)) (fun i j hi hj' hij h1 h2 => hN i j hi hj' hij (hall i hi) (hall j hj') h1 h2)
    rw [show l.length - m = 0 by omega] at this
    rw [e1]
    rw [st_congr (vs' := vs) (L' := fun _ => true) a0 m (fun i hi => ⟨by rw [← e1]; exact hall i hi, fun _ => rfl⟩), st_all l a0 vs m hm]
    exact this
  | succ fuel ih =>
    intro listed vs w hls hj hcl hf hb hR hP hN
    by_cases h0 : left (fun i => listed.getD i false) m = 0
    · have hall := left_zero m h0
      have e1 : listed = listM l.length m := by
        apply Array.ext
        · simp [hls, listM]; omega
        · intro i h1 h2
          have h3 := listM_get l.length m i false hm
          have h4 : listed.getD i false = listed[i] := by simp [h1]
          have h5 : (listM l.length m).getD i false = (listM l.length m)[i] := by simp [h2]
          rw [← h4, ← h5, h3]
          by_cases hi : i < m
          · rw [if_pos hi]; exact hall i hi
          · rw [if_neg hi, hj i (by omega)]; split <;> rfl
      have := fin vs w hb (fun i hi => hR i hi (hall i hi)) (fun i j hi hj' hij h1 h2 => hN i j hi hj' hij (hall i hi) (hall j hj') h1 h2)
      rw [show l.length - m = fuel + 1 by omega] at this
      rw [e1]
      rw [st_congr (vs' := vs) (L' := fun _ => true) a0 m (fun i hi => ⟨by rw [← e1]; exact hall i hi, fun _ => rfl⟩), st_all l a0 vs m hm]
      exact this
    · obtain ⟨q, hq, hql, hqb⟩ := left_pos m h0
      have hqget : l.toArray[q]? = some l[q] := by simp [show q < l.length by omega]
      have hqr : q ∈ Region.ready .any l.toArray listed := by
        refine mem_ready.2 ⟨?_, l[q], hqget, fun e he hbe => ?_⟩
        · have : listed.getD q false = listed.getD q true := by simp [show q < listed.size by omega]
          rw [← this]; exact hql
        · have h1 := hdep q hq
          rw [hqget] at h1
          simp only [Bool.and_eq_true, Array.all_eq_true_iff_forall_mem, Bool.or_eq_true, Bool.not_eq_true', decide_eq_true_eq] at h1
          rcases h1.1 e he with h2 | h2
          · rw [hbe] at h2; cases h2
          · exact hqb _ h2
      have step : ∀ i o, i < m → i < listed.size → listed.getD i false = false → l.toArray[i]? = some o → (∀ e ∈ o.after, Region.binds .any e = true → listed.getD e.on false = true) →
          (envFacts (stOf l.toArray a0 vs (fun i => listed.getD i false) m) env ∧ depFactsD (distD fl (stOf l.toArray a0 vs (fun i => listed.getD i false) m) (looksDeps l.toArray m i)) R (stOf l.toArray a0 vs (fun i => listed.getD i false) m) w (looksDeps l.toArray m i)) ∧
          ∀ v w', factAt R i v w' → Below w.heap.size w w' → (fl.getD i false = true → Fresh v w w') → wpAnyH P .any l.toArray Q S fuel (listed.setIfInBounds i true) ((stOf l.toArray a0 vs (fun i => listed.getD i false) m).put o.dst v) w' := by
        intro i o him hil hun' ho hall
        have hdo : dstOf l.toArray i = o.dst := by simp only [dstOf, ho]; rfl
        have hmem : ∀ k ∈ looksDeps l.toArray m i, k.1 < m ∧ dstOf l.toArray k.1 = some k.2 ∧ listed.getD k.1 false = true := by
          intro k hk
          have h1 := hdep i him
          rw [ho] at h1
          simp only [Bool.and_eq_true, List.all_eq_true] at h1
          have h2 := h1.2 k hk
          rw [Array.any_eq_true'] at h2
          obtain ⟨e, he, h3⟩ := h2
          simp only [Bool.and_eq_true, beq_iff_eq] at h3
          have h4 := hall e he h3.1
          rw [h3.2] at h4
          simp only [looksDeps, ho, List.mem_filterMap, List.mem_range] at hk
          obtain ⟨x, hx, hx2⟩ := hk
          cases hd : dstOf l.toArray x with
          | none => rw [hd] at hx2; cases hx2
          | some t =>
            rw [hd] at hx2
            simp only at hx2
            split at hx2
            · injection hx2 with hx2; subst hx2; exact ⟨hx, hd, h4⟩
            · cases hx2
        refine ⟨⟨(envFacts_keep (fun t ht => st_out a0 m (fun j hj' hd => by
            have := hts j hj'
            rw [hd] at this
            simp only [Bool.and_eq_true, Bool.not_eq_true', ← Bool.not_eq_true, List.contains_iff_mem] at this
            exact this.2 ht)) henv), (depFactsD_all (fun x hx y hy hne hfx hfy => by
            have tvs : ∀ k ∈ looksDeps l.toArray m i, tv (stOf l.toArray a0 vs (fun i => listed.getD i false) m) k.2 = vs k.1 := fun k hk => by
              obtain ⟨h1, h2, h3⟩ := hmem k hk
              have ht := hts k.1 h1
              rw [h2] at ht
              simp only [Bool.and_eq_true, decide_eq_true_eq] at ht
              exact st_in (vs := vs) a0 m h1 h2 h3 (by rw [hsz]; exact ht.1) (fun j hj' hjk hd => by
                rcases hdist k.1 j h1 hj' hjk with h | h
                · rw [h2] at h; cases h
                · exact h (by rw [h2, hd]))
            rw [tvs x hx, tvs y hy]
            exact hN x.1 y.1 (hmem x hx).1 (hmem y hy).1 hne (hmem x hx).2.2 (hmem y hy).2.2 hfx hfy) _ (fun k hk => by
            obtain ⟨h1, h2, h3⟩ := hmem k hk
            have ht := hts k.1 h1
            rw [h2] at ht
            simp only [Bool.and_eq_true, decide_eq_true_eq] at ht
            rw [st_in (vs := vs) a0 m h1 h2 h3 (by rw [hsz]; exact ht.1) (fun j hj' hjk hd => by
              rcases hdist k.1 j h1 hj' hjk with h | h
              · rw [h2] at h; cases h
              · exact h (by rw [h2, hd]))]
            exact hR _ h1 h3))⟩, ?_⟩
        intro v w' hv hb' hfr
        have hsame : ∀ j, j ≠ i → (listed.setIfInBounds i true).getD j false = listed.getD j false := by
          intro j hji
          simp only [Array.getD_eq_getD_getElem?]; rw [Array.getElem?_setIfInBounds_ne (Ne.symm hji)]
        have h1 := ih (listed.setIfInBounds i true) (upd vs i v) w' (by simp [hls]) (fun j hj' => by
          have : (listed.setIfInBounds i true).getD j false = listed.getD j false := by simp only [Array.getD_eq_getD_getElem?]; rw [Array.getElem?_setIfInBounds_ne (by omega)]
          rw [this]; exact hj j hj') (fun k hk => by
            by_cases hki : k = i
            · subst hki
              intro x hx
              have hx' := waits_of ho (L := fun x => listed.getD x false = true) hall x hx
              by_cases hxi : x = k
              · subst hxi; rw [hun'] at hx'; cases hx'
              · rw [hsame x hxi]; exact hx'
            · intro x hx
              have hx' := hcl k (by rw [← hsame k hki]; exact hk) x hx
              by_cases hxi : x = i
              · subst hxi; rw [hun'] at hx'; cases hx'
              · rw [hsame x hxi]; exact hx') (by rw [listed_upd _ _ hil]; have := left_upd (L := fun i => listed.getD i false) m him hun'; omega) (bthen hb hb' hb.size) (fun j hj' hjl => by
            by_cases hji : j = i
            · subst hji; rw [upd_self]; exact hv
            · rw [upd_ne _ _ hji]
              refine stab_get hst j _ w w' (hR j hj' ?_) hb'
              have : (listed.setIfInBounds i true).getD j false = listed.getD j false := by simp only [Array.getD_eq_getD_getElem?]; rw [Array.getElem?_setIfInBounds_ne (Ne.symm hji)]
              rw [← this]; exact hjl)
          (fun j hj' hjl hjf => by
            by_cases hji : j = i
            · subst hji; rw [upd_self]; obtain ⟨g, h1, _, h3⟩ := hfr hjf; exact ⟨g, h1, h3⟩
            · rw [upd_ne _ _ hji]
              obtain ⟨g, h1, h2⟩ := hP j hj' (by rw [← hsame j hji]; exact hjl) hjf
              exact ⟨g, h1, Nat.lt_of_lt_of_le h2 hb'.size⟩)
          (fun j k hj' hk' hjk hjl hkl hjf hkf => by
            by_cases hji : j = i
            · subst hji
              rw [upd_self, upd_ne _ _ (Ne.symm hjk)]
              obtain ⟨g, h1, h2, _⟩ := hfr hjf
              obtain ⟨g', h4, h5⟩ := hP k hk' (by rw [← hsame k (Ne.symm hjk)]; exact hkl) hkf
              rw [h1, h4]; intro he; injection he with he; omega
            · by_cases hki : k = i
              · subst hki
                rw [upd_self, upd_ne _ _ hji]
                obtain ⟨g, h1, h2, _⟩ := hfr hkf
                obtain ⟨g', h4, h5⟩ := hP j hj' (by rw [← hsame j hji]; exact hjl) hjf
                rw [h1, h4]; intro he; injection he with he; omega
              · rw [upd_ne _ _ hji, upd_ne _ _ hki]
                exact hN j k hj' hk' hjk (by rw [← hsame j hji]; exact hjl) (by rw [← hsame k hki]; exact hkl) hjf hkf)
        rw [listed_upd _ _ hil, st_put a0 v m him hun' (fun j hj' hji => hdist i j him hj' hji), hdo] at h1
        exact h1
      by_cases hex : ∃ p, p < m ∧ listed.getD p false = false ∧ p ∉ lq
      · obtain ⟨p, hp, hpl, hplq⟩ := hex
        refine ⟨fun hnil => (by rw [hnil] at hqr; cases hqr), fun i hi => ?_⟩
        obtain ⟨hun, o, ho, hall⟩ := mem_ready.1 hi
        have hil : i < listed.size := by
          rcases Nat.lt_or_ge i listed.size with h | h
          · exact h
          · simp [h] at hun
        have hun' : listed.getD i false = false := by simpa [hil] using hun
        have him : i < m := by
          rcases Nat.lt_or_ge i m with h | h
          · exact h
          · exfalso
            have h1 := hrest (i - m) (by omega) p hp
            simp only [Bool.or_eq_true, List.contains_iff_mem] at h1
            rw [show m + (i - m) = i by omega] at h1
            have h1 := h1.resolve_left hplq
            have h2 := ancs_all (fun k => listed.getD k false = true) (waits_of ho hall) hcl p h1
            rw [hpl] at h2
            cases h2
        obtain ⟨⟨hE, hD⟩, next⟩ := step i o him hil hun' ho hall
        have hOb := obs_get l kss R fl hob i o (looksDeps l.toArray m i) (by simpa using ho) (by rw [← hkss]; simp [him]) (stOf l.toArray a0 vs (fun i => listed.getD i false) m) w hb hE hD
        unfold wpOp
        simp only [ho]
        cases hfl : fl.getD i false with
        | false =>
          rw [hfl] at hOb next
          simp only at hOb
          by_cases hw : Region.wanted o (yielded l.toArray (stOf l.toArray a0 vs (fun i => listed.getD i false) m).tmps) = true
          · rw [if_pos hw] at hOb ⊢
            exact .inl (wp_of_gives hOb (fun v w' ⟨h1, h2⟩ => ⟨hS _ (bthen hb h2 hb.size), next v w' h1 h2 (fun h => by cases h)⟩))
          · rw [if_neg hw] at hOb ⊢
            exact ⟨hS _ hb, next _ _ hOb (Below.refl _ _) (fun h => by cases h)⟩
        | true =>
          rw [hfl] at hOb next
          simp only at hOb
          rw [if_pos hOb.1]
          exact .inl (wp_of_gives hOb.2 (fun v w' ⟨⟨h1, h2⟩, h3⟩ => ⟨hS _ (bthen hb h2 hb.size), next v w' h1 h2 (fun _ => h3)⟩))
      · have hqlq : q ∈ lq := Classical.byContradiction fun h => hex ⟨q, hq, hql, h⟩
        have hall := (mem_ready.1 hqr).2
        obtain ⟨o, ho, hall⟩ := hall
        obtain ⟨⟨hE, hD⟩, next⟩ := step q o hq (by omega) hql ho hall
        obtain ⟨hfl, hL, hQ⟩ := hlq q hqlq
        obtain ⟨hw, v, hv, hRv⟩ := hL o (looksDeps l.toArray m q) (by simpa using ho) (by rw [← hkss]; simp [hq]) _ w hb hE (depFactsD_plain _ hD)
        refine wpAnyH_first ho (Region.noSelect_spec hns) (hQ _ _) fuel listed _ w ?_ hqr (.inl ⟨hw, hv⟩) (hS _ hb) (next v w hRv (Below.refl _ _) (fun h => by rw [hfl] at h; cases h))
        intro j oj hj' hne hunj hno
        refine freeB_spec ho (hfree q hqlq) j oj hj' hne (fun hja => ?_) hno
        have h2 := ancs_all (fun k => listed.getD k false = true) (waits_of ho hall) hcl j hja
        have : j < listed.size := by
          rcases Nat.lt_or_ge j listed.size with h | h
          · exact h
          · simp [h] at h2
        have h3 : listed.getD j true = listed.getD j false := by simp [this]
        rw [h3, h2] at hunj
        cases hunj

/-- A region whose first m operations are met one by one; what follows them goes on in any order. -/
theorem wp_region_join' {id : Nat} {l : List Oper} {Q : Exit → Act → World → Prop} {a0 : Act} {w : World} {kss : List (List (Nat × Tmp))} (env : List (Tmp × Value)) (R : List (Value → World → Prop)) (m : Nat) (lq : List Nat) (S : World → Prop) (hS : ∀ w', Below w.heap.size w w' → S w') (hm : P.follows .mixedOrders = true) (hB : joinB l.toArray m a0.tmps.size kss (env.map (·.1)) lq = true) (henv : envFacts a0 env)
    (fl : List Bool) (hlq : ∀ i ∈ lq, fl.getD i false = false ∧ (∀ o ks, l[i]? = some o → kss[i]? = some ks → LOb P l.toArray w env R S o ks (factAt R i)) ∧ ∀ d v c a w, Q (.panic c) (Act.put a d v) w → Q (.panic c) a w) (hst : Stab R) (hob : Obs P l.toArray w env R fl l kss R fl)
    (fin : ∀ vs w', Below w.heap.size w w' → (∀ i, i < m → factAt R i (vs i) w') → (∀ i j, i < m → j < m → i ≠ j → fl.getD i false = true → fl.getD j false = true → blkOf (vs i) ≠ blkOf (vs j)) → wpAnyH P .any l.toArray Q S (l.length - m) (listM l.length m) (putsL vs 0 (l.take m) a0) w') : (Code.region id l.toArray true).wp P Q a0 w := by
  refine wp_region_held (S := S) hm ?_
  have hml : m ≤ l.length := by
    simp only [joinB, Bool.and_eq_true, decide_eq_true_eq, List.size_toArray] at hB
    exact hB.1.1.1.1.1.1.1
  have h0 : ∀ j b, (Array.replicate l.toArray.size false).getD j b = if j < l.length then false else b := by
    intro j b
    simp only [Array.getD_eq_getD_getElem?, Array.getElem?_replicate, List.size_toArray]
    split <;> rfl
  have hl0 : (fun i => (Array.replicate l.toArray.size false).getD i false) = fun _ => false := by funext j; rw [h0]; split <;> rfl
  have hst0 : ∀ m, stOf l.toArray a0 (fun _ => undef) (fun _ => false) m = a0 := by
    intro m
    induction m with
    | zero => rfl
    | succ m ih => rw [stOf, if_neg (by simp)]; exact ih
  have hlf : ∀ m, left (fun _ => false) m = m := by
    intro m
    induction m with
    | zero => rfl
    | succ m ih => rw [left, ih]; rfl
  have := join_go (P := P) (w0 := w) (Q := Q) hS hB rfl henv fl hlq hst hob fin l.toArray.size (Array.replicate l.toArray.size false) (fun _ => undef) { w with drawn := w.drawn + 1 } (by simp) (fun j _ => by rw [h0]; split <;> rfl) (fun k hk => by rw [h0] at hk; split at hk <;> cases hk)
    (by rw [hl0, hlf]; simp; omega) (Below.drew (Below.refl _ _)) (fun i _ h => by rw [h0] at h; split at h <;> cases h) (fun i _ h => by rw [h0] at h; split at h <;> cases h) (fun i _ _ _ _ h => by rw [h0] at h; split at h <;> cases h)
  rw [hl0, hst0] at this
  exact this
/-- The post without panics. -/
def calm (Q : Exit → Act → World → Prop) : Exit → Act → World → Prop
  | .normal, a, w => Q .normal a w
  | _, _, _ => False
theorem calm_normal {Q : Exit → Act → World → Prop} {a : Act} {w : World} (h : Q .normal a w) : calm Q .normal a w := h
theorem wp_region_join {id : Nat} {l : List Oper} {Q : Exit → Act → World → Prop} {a0 : Act} {w : World} {kss : List (List (Nat × Tmp))} (env : List (Tmp × Value)) (R : List (Value → World → Prop)) (m : Nat) (lq : List Nat) (hm : P.follows .mixedOrders = true) (hB : joinB l.toArray m a0.tmps.size kss (env.map (·.1)) lq = true) (henv : envFacts a0 env)
    (fl : List Bool) (hlq : ∀ i ∈ lq, fl.getD i false = false ∧ (∀ o ks, l[i]? = some o → kss[i]? = some ks → LOb P l.toArray w env R (fun _ => True) o ks (factAt R i))) (hst : Stab R) (hob : Obs P l.toArray w env R fl l kss R fl)
    (fin : ∀ vs w', Below w.heap.size w w' → (∀ i, i < m → factAt R i (vs i) w') → (∀ i j, i < m → j < m → i ≠ j → fl.getD i false = true → fl.getD j false = true → vs i ≠ vs j) → wpAny P .any l.toArray (calm Q) (l.length - m) (listM l.length m) (putsL vs 0 (l.take m) a0) w') : (Code.region id l.toArray true).wp P Q a0 w :=
  Code.wp_mono (Q := calm Q) (fun e a w h => by cases e <;> first | exact h | exact h.elim)
    (wp_region_join' env R m lq (fun _ => True) (fun _ _ => trivial) hm hB henv fl (fun i hi => ⟨(hlq i hi).1, (hlq i hi).2, fun _ _ _ _ _ h => h⟩) hst hob (fun vs w' h1 h2 h3 => anyH_of_any _ _ _ _ (fin vs w' h1 h2 (fun i j a b c d e f => h3 i j a b c d e (congrArg blkOf f)))))
/-- .. which says that the new blocks differ. -/
theorem wp_region_joinF {id : Nat} {l : List Oper} {Q : Exit → Act → World → Prop} {a0 : Act} {w : World} {kss : List (List (Nat × Tmp))} (env : List (Tmp × Value)) (R : List (Value → World → Prop)) (m : Nat) (lq : List Nat) (hm : P.follows .mixedOrders = true) (hB : joinB l.toArray m a0.tmps.size kss (env.map (·.1)) lq = true) (henv : envFacts a0 env)
    (fl : List Bool) (hlq : ∀ i ∈ lq, fl.getD i false = false ∧ (∀ o ks, l[i]? = some o → kss[i]? = some ks → LOb P l.toArray w env R (fun _ => True) o ks (factAt R i))) (hst : Stab R) (hob : Obs P l.toArray w env R fl l kss R fl)
    (fin : ∀ vs w', Below w.heap.size w w' → (∀ i, i < m → factAt R i (vs i) w') → (∀ i j, i < m → j < m → i ≠ j → fl.getD i false = true → fl.getD j false = true → blkOf (vs i) ≠ blkOf (vs j)) → wpAny P .any l.toArray (calm Q) (l.length - m) (listM l.length m) (putsL vs 0 (l.take m) a0) w') : (Code.region id l.toArray true).wp P Q a0 w :=
  Code.wp_mono (Q := calm Q) (fun e a w h => by cases e <;> first | exact h | exact h.elim)
    (wp_region_join' env R m lq (fun _ => True) (fun _ _ => trivial) hm hB henv fl (fun i hi => ⟨(hlq i hi).1, (hlq i hi).2, fun _ _ _ _ _ h => h⟩) hst hob (fun vs w' h1 h2 h3 => anyH_of_any _ _ _ _ (fin vs w' h1 h2 h3)))
/-- .. all of its operations. -/
theorem wp_region_each {id : Nat} {l : List Oper} {Q : Exit → Act → World → Prop} {a0 : Act} {w : World} {kss : List (List (Nat × Tmp))} (env : List (Tmp × Value)) (R : List (Value → World → Prop)) (hm : P.follows .mixedOrders = true) (hB : joinB l.toArray l.length a0.tmps.size kss (env.map (·.1)) [] = true) (henv : envFacts a0 env)
    (hst : Stab R) (hob : Obs P l.toArray w env R (List.replicate R.length false) l kss R (List.replicate R.length false))
    (fin : ∀ vs w', Below w.heap.size w w' → (∀ i, i < l.length → factAt R i (vs i) w') → Q .normal (putsL vs 0 l a0) w') : (Code.region id l.toArray true).wp P Q a0 w := by
  refine wp_region_join' env R l.length [] (fun _ => True) (fun _ _ => trivial) hm hB henv _ (by simp) hst hob (fun vs w' hb hR _ => anyH_of_any _ _ _ _ ?_)
  rw [Nat.sub_self]
  have h1 := fin vs w' hb hR
  rw [List.take_length]
  refine ⟨?_, h1⟩
  rw [List.eq_nil_iff_forall_not_mem]
  intro j hj
  obtain ⟨h2, o, ho, -⟩ := mem_ready.1 hj
  have hjl : j < l.length := by
    rcases Nat.lt_or_ge j l.length with h | h
    · exact h
    · simp [h] at ho
  rw [listM_get _ _ _ _ (Nat.le_refl _), if_pos hjl] at h2
  cases h2

/-- Every order: also the written one. -/
theorem wpOps_of_any {l : List Oper} {Q : Exit → Act → World → Prop} (hr : ∀ k, k < l.length → k ∈ Region.ready .any l.toArray (listM l.length k)) : ∀ (j k : Nat), k + j = l.length → ∀ (a : Act) (w : World),
    wpAny P .any l.toArray Q j (listM l.length k) a w → wpOps P l.toArray Q (List.range' k j) a w
  | 0, k, _, a, w, h => h.2
  | j + 1, k, hk, a, w, h => by
    rw [List.range'_succ, wpOps_cons]
    refine wpOp_mono (fun a' w' h' => ?_) (h.2 k (hr k (by omega)))
    refine wpOps_of_any hr j (k + 1) (by omega) a' w' ?_
    have : (listM l.length k).setIfInBounds k true = listM l.length (k + 1) := by
      apply Array.ext
      · simp [listM]; omega
      · intro i h1 h2
        have h3 := listM_get l.length k i false (by omega)
        have h4 := listM_get l.length (k + 1) i false (by omega)
        have h5 : (listM l.length (k + 1)).getD i false = (listM l.length (k + 1))[i] := by simp [h2]
        rw [← h5, h4]
        by_cases hik : k = i
        · subst hik; rw [Array.getElem_setIfInBounds_self, if_pos (by omega)]
        · have h1' : i < (listM l.length k).size := by simpa using h1
          rw [Array.getElem_setIfInBounds_ne h1' hik]
          have h6 : (listM l.length k).getD i false = (listM l.length k)[i] := by simp [h1']
          rw [← h6, h3]
          by_cases h7 : i < k
          · rw [if_pos h7, if_pos (by omega)]
          · rw [if_neg h7]; simp [show ¬ i < k + 1 by omega]
    rw [← this]; exact h'
/-- .. a region in its written order. -/
theorem wp_region_seq {id : Nat} {l : List Oper} {Q : Exit → Act → World → Prop} {a0 : Act} {w : World} {kss : List (List (Nat × Tmp))} (env : List (Tmp × Value)) (R : List (Value → World → Prop)) (hB : joinB l.toArray l.length a0.tmps.size kss (env.map (·.1)) [] = true) (henv : envFacts a0 env)
    (hst : Stab R) (hob : Obs P l.toArray w env R (List.replicate R.length false) l kss R (List.replicate R.length false))
    (fin : ∀ vs w', Below w.heap.size w w' → (∀ i, i < l.length → factAt R i (vs i) w') → Q .normal (putsL vs 0 l a0) w') : (Code.region id l.toArray false).wp P Q a0 w := by
  refine wp_region ?_
  have hdep : ∀ k, k < l.length → k ∈ Region.ready .any l.toArray (listM l.length k) := by
    intro k hk
    have hB' := hB
    simp only [joinB, Bool.and_eq_true, decide_eq_true_eq, List.all_eq_true, List.mem_range, List.size_toArray] at hB'
    obtain ⟨⟨⟨⟨_, hdep⟩, _⟩, _⟩, _⟩ := hB'
    have hget : l.toArray[k]? = some l[k] := by simp [hk]
    refine mem_ready.2 ⟨?_, l[k], hget, fun e he hbe => ?_⟩
    · rw [listM_get _ _ _ _ (by omega), if_neg (by omega), if_pos hk]
    · have h1 := hdep k hk
      rw [hget] at h1
      simp only [Bool.and_eq_true, Array.all_eq_true_iff_forall_mem, Bool.or_eq_true, Bool.not_eq_true', decide_eq_true_eq] at h1
      rcases h1.1 e he with h2 | h2
      · rw [hbe] at h2; cases h2
      · rw [listM_get _ _ _ _ (by omega), if_pos h2]
  have h0 : ∀ j b, (listM l.length 0).getD j b = if j < l.length then false else b := by
    intro j b; rw [listM_get _ _ _ _ (by omega), if_neg (by omega)]
  have hl0 : (fun i => (listM l.length 0).getD i false) = fun _ => false := by funext j; rw [h0]; split <;> rfl
  have hst0 : ∀ m, stOf l.toArray a0 (fun _ => undef) (fun _ => false) m = a0 := by
    intro m
    induction m with
    | zero => rfl
    | succ m ih => rw [stOf, if_neg (by simp)]; exact ih
  have hlf : ∀ m, left (fun _ => false) m = m := by
    intro m
    induction m with
    | zero => rfl
    | succ m ih => rw [left, ih]; rfl
  have := join_go (P := P) (w0 := w) (Q := Q) (S := fun _ => True) (fun _ _ => trivial) hB rfl henv _ (by simp) hst hob (fun vs w' hb hR _ => by
      apply anyH_of_any
      rw [Nat.sub_self]
      have h1 := fin vs w' hb hR
      rw [List.take_length]
      refine ⟨?_, h1⟩
      rw [List.eq_nil_iff_forall_not_mem]
      intro j hj
      obtain ⟨h2, o, ho, -⟩ := mem_ready.1 hj
      have hjl : j < l.length := by
        rcases Nat.lt_or_ge j l.length with h | h
        · exact h
        · simp [h] at ho
      rw [listM_get _ _ _ _ (Nat.le_refl _), if_pos hjl] at h2
      cases h2) l.length (listM l.length 0) (fun _ => undef) w (by simp [listM]) (fun j _ => by rw [h0]; split <;> rfl) (fun k hk => by rw [h0] at hk; split at hk <;> cases hk)
    (by rw [hl0, hlf]; omega) (Below.refl _ _) (fun i _ h => by rw [h0] at h; split at h <;> cases h) (fun i _ h => by rw [h0] at h; split at h <;> cases h) (fun i _ _ _ _ h => by rw [h0] at h; split at h <;> cases h)
  rw [hl0, hst0] at this
  have h2 := wpOps_of_any hdep l.length 0 (by omega) a0 w (wpAny_of_held _ _ _ _ this)
  rw [List.size_toArray, List.range_eq_range']
  exact h2

/-- The check of the first m operations of a region in its written order. -/
def seqB (ops : Array Oper) (m sz : Nat) (kss : List (List (Nat × Tmp))) (ts : List Tmp) : Bool :=
  decide (m ≤ ops.size) &&
  ((List.range m).all fun i => match dstOf ops i with | some t => decide (t < sz) && !ts.contains t | none => true) &&
  ((List.range m).all fun i => (List.range m).all fun j => i == j || dstOf ops i == none || dstOf ops i != dstOf ops j) &&
  ((List.range m).all fun i => (looksDeps ops m i).all fun k => decide (k.1 < i)) &&
  ((List.range m).map (looksDeps ops m) == kss)
/-- A region in its written order, its first m operations met one by one. -/
theorem wp_region_joins {id : Nat} {l : List Oper} {Q : Exit → Act → World → Prop} {a0 : Act} {w : World} {kss : List (List (Nat × Tmp))} (env : List (Tmp × Value)) (R : List (Value → World → Prop)) (m : Nat) (hB : seqB l.toArray m a0.tmps.size kss (env.map (·.1)) = true) (henv : envFacts a0 env)
    (fl : List Bool) (hst : Stab R) (hob : Obs P l.toArray w env R [] l kss R fl)
    (fin : ∀ vs w', Below w.heap.size w w' → (∀ i, i < m → factAt R i (vs i) w') → wpOps P l.toArray Q (List.range' m (l.length - m)) (putsL vs 0 (l.take m) a0) w') : (Code.region id l.toArray false).wp P Q a0 w := by
  refine wp_region ?_
  simp only [seqB, Bool.and_eq_true, decide_eq_true_eq, List.all_eq_true, List.mem_range, List.size_toArray] at hB
  obtain ⟨⟨⟨⟨hm, hts⟩, hdis⟩, hdep⟩, hkss⟩ := hB
  have hkss : (List.range m).map (looksDeps l.toArray m) = kss := by simpa using hkss
  have hdist : ∀ i j, i < m → j < m → j ≠ i → dstOf l.toArray i = none ∨ dstOf l.toArray i ≠ dstOf l.toArray j := by
    intro i j hi hj hji
    have := hdis i hi j hj
    simp only [Bool.or_eq_true, beq_iff_eq, bne_iff_ne] at this
    rcases this with (h | h) | h
    · exact absurd h.symm hji
    · exact .inl h
    · exact .inr h
  have main : ∀ (j k : Nat), k + j = m → ∀ (vs : Nat → Value) (w' : World), Below w.heap.size w w' → (∀ i, i < k → factAt R i (vs i) w') →
      wpOps P l.toArray Q (List.range' k (l.length - k)) (stOf l.toArray a0 vs (fun i => decide (i < k)) m) w' := by
    intro j
    induction j with
    | zero =>
      intro k hk vs w' hb hR
      obtain rfl : k = m := by omega
      have := fin vs w' hb hR
      rw [st_congr (vs' := vs) (L' := fun _ => true) a0 k (fun i hi => ⟨by simp [hi], fun _ => rfl⟩), st_all l a0 vs k hm]
      exact this
    | succ j ih =>
      intro k hk vs w' hb hR
      have hkl : k < l.length := by omega
      have ho : l.toArray[k]? = some l[k] := by simp [hkl]
      have hdo : dstOf l.toArray k = l[k].dst := by simp only [dstOf, ho]; rfl
      have hmem : ∀ x ∈ looksDeps l.toArray m k, x.1 < k ∧ dstOf l.toArray x.1 = some x.2 := by
        intro x hx
        refine ⟨hdep k (by omega) x hx, ?_⟩
        simp only [looksDeps, ho, List.mem_filterMap, List.mem_range] at hx
        obtain ⟨y, hy, hy2⟩ := hx
        cases hd : dstOf l.toArray y with
        | none => rw [hd] at hy2; cases hy2
        | some t =>
          rw [hd] at hy2
          simp only at hy2
          split at hy2
          · injection hy2 with hy2; subst hy2; exact hd
          · cases hy2
      have hOb := obs_get l kss R fl hob k l[k] (looksDeps l.toArray m k) (by simp [hkl]) (by rw [← hkss]; simp [show k < m by omega]) (stOf l.toArray a0 vs (fun i => decide (i < k)) m) w' hb
        (envFacts_keep (fun t ht => st_out a0 m (fun j hj' hd => by
          have := hts j hj'
          rw [hd] at this
          simp only [Bool.and_eq_true, Bool.not_eq_true', ← Bool.not_eq_true, List.contains_iff_mem] at this
          exact this.2 ht)) henv)
        (depFactsD_all (fun x _ y _ _ h _ => by simp at h) _ (fun x hx => by
          obtain ⟨h1, h2⟩ := hmem x hx
          have ht := hts x.1 (by omega)
          rw [h2] at ht
          simp only [Bool.and_eq_true, decide_eq_true_eq] at ht
          rw [st_in (vs := vs) a0 m (show x.1 < m by omega) h2 (by simp [h1]) ht.1 (fun j hj' hjk hd => by
            rcases hdist x.1 j (by omega) hj' hjk with h | h
            · rw [h2] at h; cases h
            · exact h (by rw [h2, hd]))]
          exact hR _ h1))
      have next : ∀ v w2, factAt R k v w2 → Below w'.heap.size w' w2 → wpOps P l.toArray Q (List.range' (k + 1) (l.length - (k + 1))) ((stOf l.toArray a0 vs (fun i => decide (i < k)) m).put l[k].dst v) w2 := by
        intro v w2 hv hb2
        have h1 := ih (k + 1) (by omega) (upd vs k v) w2 (bthen hb hb2 hb.size) (fun i hi => by
          by_cases hik : i = k
          · subst hik; rw [upd_self]; exact hv
          · rw [upd_ne _ _ hik]; exact stab_get hst i _ w' w2 (hR i (by omega)) hb2)
        have h2 : (fun i => decide (i < k + 1)) = upd (fun i => decide (i < k)) k true := by
          funext i
          simp only [upd]
          by_cases hik : i = k
          · subst hik; simp
          · simp only [hik, if_false, decide_eq_decide]; omega
        rw [h2, st_put a0 v m (by omega) (by simp) (fun j hj' hji => hdist k j (by omega) hj' hji), hdo] at h1
        exact h1
      rw [show l.length - k = (l.length - (k + 1)) + 1 by omega, List.range'_succ, wpOps_cons]
      unfold wpOp
      simp only [ho]
      cases hfl : fl.getD k false with
      | false =>
        rw [hfl] at hOb
        simp only at hOb
        by_cases hw : Region.wanted l[k] (yielded l.toArray (stOf l.toArray a0 vs (fun i => decide (i < k)) m).tmps) = true
        · rw [if_pos hw] at hOb ⊢
          exact .inl (wp_of_gives hOb (fun v w2 ⟨h1, h2⟩ => next v w2 h1 h2))
        · rw [if_neg hw] at hOb ⊢
          exact next _ _ hOb (Below.refl _ _)
      | true =>
        rw [hfl] at hOb
        simp only at hOb
        rw [if_pos hOb.1]
        exact .inl (wp_of_gives hOb.2 (fun v w2 ⟨⟨h1, h2⟩, _⟩ => next v w2 h1 h2))
  have hst0 : ∀ m, stOf l.toArray a0 (fun _ => undef) (fun i => decide (i < 0)) m = a0 := by
    intro m
    induction m with
    | zero => rfl
    | succ m ih => rw [stOf, if_neg (by simp)]; exact ih
  have h2 := main m 0 (by omega) (fun _ => undef) w (Below.refl _ _) (fun i hi => absurd hi (by omega))
  rw [hst0] at h2
  rw [List.size_toArray, List.range_eq_range']
  exact h2
end
end Go.Proofs.Ytpnklmgfdihjfaa
namespace Go.Proofs.Ytpnklmgfdihjfaa
open Go.RowKit

section
variable {P : Program} {ops : Array Oper} {o : Oper} {a : Act} {w : World} {K : Value → World → Prop} {E : Prop}

theorem ob_plain {G : Prop} (hg : o.guard = none) (h : G) : if Region.wanted o (yielded ops a.tmps) = true then G else E := by
  rw [if_pos (by simp [Region.wanted, hg])]; exact h
theorem yielded_tv {g : Nat} {t : Tmp} {b : Bool} (ht : dstOf ops g = some t) (hv : tv a t = .bool b) : yielded ops a.tmps g = some b := by
  unfold yielded
  simp only [dstOf] at ht
  rw [ht]
  simp only [tv, Array.getD_eq_getD_getElem?] at hv
  cases h : a.tmps[t]? with
  | none => rw [h] at hv; simp [undef] at hv
  | some x => rw [h] at hv; simp at hv; subst hv; simp [h]
theorem ob_on {G : Prop} {g : Nat} {want : Bool} (t : Tmp) (hg : o.guard = some (g, want)) (ht : dstOf ops g = some t) (hv : tv a t = .bool want) (h : G) : if Region.wanted o (yielded ops a.tmps) = true then G else E := by
  rw [if_pos (by simp [Region.wanted, hg, yielded_tv ht hv])]; exact h
theorem ob_off {G : Prop} {g : Nat} {want : Bool} (t : Tmp) (hg : o.guard = some (g, want)) (ht : dstOf ops g = some t) (hv : tv a t = .bool (!want)) (h : E) : if Region.wanted o (yielded ops a.tmps) = true then G else E := by
  rw [if_neg (by simp [Region.wanted, hg, yielded_tv ht hv])]; exact h

theorem gives_val {ρ : Operand → Value} (v : Value) (h : (execOp ρ o).run P w = .ok (.value v) w) (hK : K v w) : gives P o ρ w K := by
  unfold gives; rw [h]; exact hK
theorem gives_move (x : Operand) (ho : o.op = .move x) (hK : K (a.eval x) w) : gives P o a.eval w K :=
  gives_val _ (by unfold execOp; rw [ho]; rfl) hK
theorem gives_assign (x : Operand) (ho : o.op = .assign x) (hK : K (a.eval x) w) : gives P o a.eval w K :=
  gives_val _ (by unfold execOp; rw [ho]; rfl) hK
theorem gives_pick (b : Bool) (c x y : Operand) (ho : o.op = .pick c x y) (hc : a.eval c = .bool b) (hK : K (if b then a.eval x else a.eval y) w) : gives P o a.eval w K :=
  gives_val _ (by unfold execOp; rw [ho]; simp [hc, asBool]) hK
theorem gives_not (b : Bool) (t : TypeId) (x : Operand) (ho : o.op = .unOp .not t x) (hc : a.eval x = .bool b) (hK : K (.bool (!b)) w) : gives P o a.eval w K :=
  gives_val _ (by unfold execOp; rw [ho]; simp [hc, Op.unary]) hK
theorem gives_eq_int (i j : Int) (k : IntKind) (t t2 : TypeId) (x y : Operand) (ho : o.op = .binOp .eql t x y t2) (hx : a.eval x = .int k i) (hy : a.eval y = .int k j) (hK : K (.bool (i == j)) w) : gives P o a.eval w K := by
  refine gives_val _ ?_ hK
  unfold execOp
  rw [ho]
  simp only [hx, hy]
  go_simp
theorem gives_ne_int (i j : Int) (k : IntKind) (t t2 : TypeId) (x y : Operand) (ho : o.op = .binOp .neq t x y t2) (hx : a.eval x = .int k i) (hy : a.eval y = .int k j) (hK : K (.bool (i != j)) w) : gives P o a.eval w K := by
  refine gives_val _ ?_ hK
  unfold execOp
  rw [ho]
  simp only [hx, hy]
  go_simp
theorem gives_lt_int (i j : Int) (k : IntKind) (t t2 : TypeId) (x y : Operand) (ho : o.op = .binOp .lss t x y t2) (hx : a.eval x = .int k i) (hy : a.eval y = .int k j) (hK : K (.bool (decide (i < j))) w) : gives P o a.eval w K := by
  refine gives_val _ ?_ hK
  unfold execOp
  rw [ho]
  simp only [hx, hy]
  go_simp
theorem gives_le_int (i j : Int) (k : IntKind) (t t2 : TypeId) (x y : Operand) (ho : o.op = .binOp .leq t x y t2) (hx : a.eval x = .int k i) (hy : a.eval y = .int k j) (hK : K (.bool (decide (i ≤ j))) w) : gives P o a.eval w K := by
  refine gives_val _ ?_ hK
  unfold execOp
  rw [ho]
  simp only [hx, hy]
  go_simp
theorem gives_ge_int (i j : Int) (k : IntKind) (t t2 : TypeId) (x y : Operand) (ho : o.op = .binOp .geq t x y t2) (hx : a.eval x = .int k i) (hy : a.eval y = .int k j) (hK : K (.bool (decide (i ≥ j))) w) : gives P o a.eval w K := by
  refine gives_val _ ?_ hK
  unfold execOp
  rw [ho]
  simp only [hx, hy]
  go_simp
/-- A function with a body is entered. -/
def callsB (P : Program) (f : FuncId) : Bool := match P.funcs[f]? with | some fn => fn.name != "runtime.NumGoroutine" && fn.body.isSome | none => false
theorem run_callFunc {f : FuncId} (h : callsB P f = true) (args : Array Value) : (callFunc f args).run P w = .ok (.enter f args) w := by
  unfold callsB at h
  unfold callFunc
  cases hf : P.funcs[f]? with
  | none => rw [hf] at h; cases h
  | some fn =>
    rw [hf] at h
    simp only [Bool.and_eq_true, bne_iff_ne, ne_eq] at h
    have h2 : fn.body.isNone = false := by cases hb : fn.body <;> simp_all
    simp only [Sem.run_bind, run_program, Result.andThen_ok, hf, h2]
    simp [h.1]
theorem gives_call (f : FuncId) (xs : Array Operand) (ts : Array TypeId) (ho : o.op = .call { callee := .value (.func f), args := xs, argTypes := ts }) (hf : callsB P f = true)
    (h : Calls P f (xs.map a.eval) w (fun e w'' => ∃ v, e = .returned v ∧ K v w'')) : gives P o a.eval w K := by
  have hr : (execOp a.eval o).run P w = .ok (.enter f (xs.map a.eval)) w := by
    unfold execOp
    rw [ho]
    simp [resolve, Deferred.ofValue, invoke, Act.eval, run_callFunc hf]
  unfold gives; rw [hr]; exact h
theorem gives_call1 (f : FuncId) (x : Operand) (ts : Array TypeId) (ho : o.op = .call { callee := .value (.func f), args := #[x], argTypes := ts }) (hf : callsB P f = true)
    (h : Calls P f #[a.eval x] w (fun e w'' => ∃ v, e = .returned v ∧ K v w'')) : gives P o a.eval w K :=
  gives_call f #[x] ts ho hf (by simpa using h)
theorem gives_call2 (f : FuncId) (x y : Operand) (ts : Array TypeId) (ho : o.op = .call { callee := .value (.func f), args := #[x, y], argTypes := ts }) (hf : callsB P f = true)
    (h : Calls P f #[a.eval x, a.eval y] w (fun e w'' => ∃ v, e = .returned v ∧ K v w'')) : gives P o a.eval w K :=
  gives_call f #[x, y] ts ho hf (by simpa using h)
/-- Short forms for printed regions. -/
abbrev EV (x : Value) : Value → World → Prop := fun zz _ => zz = x
theorem eI {x : Value} : ∀ (v : Value) (w w' : World), EV x v w → Below w.heap.size w w' → EV x v w' := fun _ _ _ h _ => h
theorem ob_mv {P : Program} {ops : Array Oper} {o : Oper} {a : Act} {w : World} {E : Prop} {x : Operand} {K : Value → World → Prop} (hg : o.guard = none) (ho : o.op = .move x) (h : K (a.eval x) w) : if Region.wanted o (yielded ops a.tmps) = true then gives P o a.eval w (fun u w' => K u w' ∧ Below w.heap.size w w') else E :=
  ob_plain hg (gives_move _ ho ⟨h, Below.refl _ _⟩)
theorem gives_call3 (f : FuncId) (x y z : Operand) (ts : Array TypeId) (ho : o.op = .call { callee := .value (.func f), args := #[x, y, z], argTypes := ts }) (hf : callsB P f = true)
    (h : Calls P f #[a.eval x, a.eval y, a.eval z] w (fun e w'' => ∃ v, e = .returned v ∧ K v w'')) : gives P o a.eval w K :=
  gives_call f #[x, y, z] ts ho hf (by simpa using h)
/-- What a call answers: a value with a fact, all that stood kept. -/
def RV (w : World) (K : Value → World → Prop) (e : Ending) (w' : World) : Prop := ∃ v, e = .returned v ∧ K v w' ∧ Below w.heap.size w w'
theorem rv_one {P : Program} {f : FuncId} {args : Array Value} {w : World} {v : Value} (h : Calls P f args w fun e w' => e = .returned v ∧ Below w.heap.size w w') : Calls P f args w (RV w (fun u _ => u = v)) :=
  h.mono fun _ _ ⟨he, hb⟩ => ⟨v, he, rfl, hb⟩
/-- A load of a block known whole. -/
theorem gives_load_blk (t : TypeId) (x : Operand) (ho : o.op = .load t x) (g : Nat) (t' : TypeId) (cs : Array Value) (d : TypeDesc) (hx : a.eval x = .pointer (some ⟨g, 0, none⟩)) (hg : Blk w g t' cs)
    (hu : P.underlying t = some d) (hd : (match d with | .struct _ | .array _ _ => true | _ => false) = true) (hi : (P.info? t).map (·.size) = some cs.size) (hK : K (.agg cs) w) : gives P o a.eval w K := by
  have h : (execOp a.eval o).run P w = .ok (.value (.agg cs)) w := by
    unfold execOp
    rw [ho]
    simp only [hx, Instr.loadAt, Instr.sureAddr, Sem.run_bind, Sem.run_pure, Result.andThen_ok, run_loadVar_row w g t' t cs (0, 0) d hg hu hd hi]
  exact gives_val _ h hK
end
end Go.Proofs.Ytpnklmgfdihjfaa
namespace Go.Proofs.Ytpnklmgfdihjfaa
open Go.RowKit

theorem load_nat {o : Oper} {a : Act} {w : World} {t : Tmp} {p : Addr} {v : Value} (ho : o.op = .load 29 (.tmp t)) (hx : tv a t = .pointer (some p)) (hc : w.cell? p = some v) : gives Try.prog o a.eval w (fun u w' => u = v ∧ Below w.heap.size w w') := by
  refine gives_val v ?_ ⟨rfl, Below.refl _ _⟩
  unfold execOp
  rw [ho]
  simp only [eval_tmp, hx]
  go_simp
end Go.Proofs.Ytpnklmgfdihjfaa
namespace Go.Proofs.Ytpnklmgfdihjfaa
open Go.RowKit

section
variable {w : World} {s : Bool} {A B : Option Addr} {n c m d b : Nat} {x : Rat}
end
end Go.Proofs.Ytpnklmgfdihjfaa
namespace Go.Proofs.Ytpnklmgfdihjfaa
open Go.RowKit
section
variable {w : World} {s : Bool} {A B : Option Addr} {n c m d b : Nat} {x : Rat}

end
end Go.Proofs.Ytpnklmgfdihjfaa
namespace Go.Proofs.Ytpnklmgfdihjfaa
open Go.RowKit

end Go.Proofs.Ytpnklmgfdihjfaa
namespace Go.Proofs.Ytpnklmgfdihjfaa
open Go.RowKit

section
variable {P : Program} (w : World)
end

section
variable {w : World} {s : Bool} {A B : Option Addr} {n c m d : Nat}
end
end Go.Proofs.Ytpnklmgfdihjfaa
namespace Go.Proofs.Ytpnklmgfdihjfaa
open Go.RowKit

end Go.Proofs.Ytpnklmgfdihjfaa
namespace Go.Proofs.Ytpnklmgfdihjfaa
open Go.RowKit

section
variable {w : World}
end
end Go.Proofs.Ytpnklmgfdihjfaa
namespace Go.Proofs.Ytpnklmgfdihjfaa
open Go.RowKit

theorem gives_mono {P : Program} {o : Oper} {ρ : Operand → Value} {w : World} {K K' : Value → World → Prop} (h : gives P o ρ w K) (hk : ∀ v w', K v w' → K' v w') : gives P o ρ w K' := by
  unfold gives at *
  generalize (execOp ρ o).run P w = r at *
  cases r with
  | ok x w' =>
    cases x with
    | value v => exact hk _ _ h
    | skip => exact hk _ _ h
    | enter f args => exact h.mono fun e w'' ⟨v, h1, h2⟩ => ⟨v, h1, hk _ _ h2⟩
    | _ => exact h
  | halt x w' => exact h
section
variable {P : Program} {ops : Array Oper} {o : Oper} {a : Act} {w : World}
theorem wpAny_next {Q : Exit → Act → World → Prop} {i fuel : Nat} {listed : Array Bool} (hr : Region.ready .any ops listed = [i]) (ho : ops[i]? = some o) (hg : o.guard = none) (h : o.wp P a w (fun a' w' => wpAny P .any ops Q fuel (listed.setIfInBounds i true) a' w') Q) : wpAny P .any ops Q (fuel + 1) listed a w := by
  refine ⟨fun h0 => absurd (hr.symm.trans h0) (by simp), fun j hj => ?_⟩
  rw [hr] at hj
  simp at hj
  subst hj
  unfold wpOp
  simp only [ho]
  rw [if_pos (by simp [Region.wanted, hg])]
  exact .inl h
theorem wpAny_end {Q : Exit → Act → World → Prop} {listed : Array Bool} (hr : Region.ready .any ops listed = []) (h : Q .normal a w) : ∀ fuel, wpAny P .any ops Q fuel listed a w
  | 0 => ⟨hr, h⟩
  | _ + 1 => ⟨fun _ => h, fun j hj => by rw [hr] at hj; cases hj⟩
end
theorem ob_undef {ops : Array Oper} {o : Oper} {a : Act} {G E : Prop} {g : Nat} {want : Bool} (t : Tmp) (hg : o.guard = some (g, want)) (ht : dstOf ops g = some t) (hv : tv a t = undef) (h : E) : if Region.wanted o (yielded ops a.tmps) = true then G else E := by
  have hy : yielded ops a.tmps g ≠ some want := by
    unfold yielded
    simp only [dstOf] at ht
    rw [ht]
    simp only [tv, Array.getD_eq_getD_getElem?] at hv
    cases h : a.tmps[t]? with
    | none => simp [h]
    | some x => rw [h] at hv; simp at hv; subst hv; simp [h, undef]
  rw [if_neg (by simp [Region.wanted, hg, hy])]; exact h
theorem wpOps_next {P : Program} {ops : Array Oper} {o : Oper} {a : Act} {w : World} {Q : Exit → Act → World → Prop} {i : Nat} {r : List Nat} (ho : ops[i]? = some o) (hg : o.guard = none) (h : o.wp P a w (wpOps P ops Q r) Q) : wpOps P ops Q (i :: r) a w := by
  unfold wpOps
  simp only [ho]
  rw [if_pos (by simp [Region.wanted, hg])]
  exact .inl h
theorem wp_assign {o : Oper} {a : Act} {w : World} {K : Act → World → Prop} {Q : Exit → Act → World → Prop} (t : Tmp) (x : Operand) (ho : o.op = .assign x) (hd : o.dst = some t) (v : Value) (hv : a.eval x = v) (h : K (a.put (some t) v) w) : o.wp Try.prog a w K Q := by
  rw [← hd, ← hv] at h
  unfold Oper.wp execOp
  rw [ho]
  exact h
section
variable {o : Oper} {a : Act} {w : World} {t : Tmp}
theorem ext_c {i : Nat} {vs : Array Value} {x : Value} (ho : o.op = .extract (.tmp t) i) (h : tv a t = .tuple vs) (hx : vs[i]? = some x) : gives Try.prog o a.eval w (fun v w' => v = x ∧ Below w.heap.size w w') := by
  refine gives_val x ?_ ⟨rfl, Below.refl _ _⟩
  unfold execOp
  rw [ho]
  simp only [eval_tmp, h]
  simp [Instr.extract, hx]
theorem len_c {A : Option Addr} {n c : Nat} {T e : TypeId} (hu : Try.prog.underlying T = some (.slice e)) (ho : o.op = .call { callee := .builtin .len, args := #[.tmp t], argTypes := #[T] }) (h : tv a t = .slice A n c) : gives Try.prog o a.eval w (fun v w' => v = .int .i64 (n : Int) ∧ Below w.heap.size w w') := by
  refine gives_val (.int .i64 (n : Int)) ?_ ⟨rfl, Below.refl _ _⟩
  unfold execOp
  rw [ho]
  simp [eval_tmp, h, resolve, invoke, builtin, Builtin.len_, run_underlying hu, goInt]
theorem shr_u32 {u : Tmp} {x k : Nat} {T T2 : TypeId} (hk : k < 32) (ho : o.op = .binOp .shr T (.tmp t) (.tmp u) T2) (h : tv a t = .int .u32 (x : Int)) (h2 : tv a u = .int .i64 (k : Int)) : gives Try.prog o a.eval w (fun v w' => v = .int .u32 ((x : Int) / 2 ^ k) ∧ Below w.heap.size w w') := by
  refine gives_val (.int .u32 ((x : Int) / 2 ^ k)) ?_ ⟨rfl, Below.refl _ _⟩
  have i1 : (0 : Int) ≤ (k : Int) := by omega
  have i2 : (k : Int) < 32 := by omega
  unfold execOp
  rw [ho]
  simp only [eval_tmp, h, h2]
  go_simp
end
end Go.Proofs.Ytpnklmgfdihjfaa
namespace Go.Proofs.Ytpnklmgfdihjfaa
open Go.RowKit

/-- A Rat of value x, in its normal form. -/
def Rv (b : Nat) (x : Rat) (v : Value) (w : World) : Prop := ∃ s A n c B m d, v = .agg #[.bool s, .slice A n c, .slice B m d] ∧ Rn w s A n c B m d b x
/-- A Rat of value x, in any form. -/
def Rw (b : Nat) (x : Rat) (v : Value) (w : World) : Prop := ∃ s A n c B m d, v = .agg #[.bool s, .slice A n c, .slice B m d] ∧ Ra w s A n c B m d b x
/-- A block that holds a Rat of value x. -/
def Bx (b : Nat) (x : Rat) (g : Nat) (w : World) : Prop := ∃ s A n c B m d, TB w g 31 (.bool s) (.slice A n c) (.slice B m d) ∧ Ra w s A n c B m d b x
/-- .. in its normal form. -/
def Bn (b : Nat) (x : Rat) (g : Nat) (w : World) : Prop := ∃ s A n c B m d, TB w g 31 (.bool s) (.slice A n c) (.slice B m d) ∧ Rn w s A n c B m d b x
section
variable {w w' : World} {b b' g : Nat} {x y : Rat} {v v' : Value}
theorem Rv.rw (h : Rv b x v w) : Rw b x v w := by obtain ⟨s, A, n, c, B, m, d, e, h⟩ := h; exact ⟨s, A, n, c, B, m, d, e, h.ra⟩
theorem Rv.new (h : Rv b x v w) (hb : Below w.heap.size w w') : Rv b x v w' := by obtain ⟨s, A, n, c, B, m, d, e, h⟩ := h; exact ⟨s, A, n, c, B, m, d, e, h.new hb⟩
theorem Rw.new (h : Rw b x v w) (hb : Below w.heap.size w w') : Rw b x v w' := by obtain ⟨s, A, n, c, B, m, d, e, h⟩ := h; exact ⟨s, A, n, c, B, m, d, e, h.new hb⟩
theorem Bx.new (h : Bx b x g w) (hb : Below w.heap.size w w') : Bx b x g w' := by obtain ⟨s, A, n, c, B, m, d, h1, h⟩ := h; exact ⟨s, A, n, c, B, m, d, h1.new hb, h.new hb⟩
theorem Bn.new (h : Bn b x g w) (hb : Below w.heap.size w w') : Bn b x g w' := by obtain ⟨s, A, n, c, B, m, d, h1, h⟩ := h; exact ⟨s, A, n, c, B, m, d, h1.new hb, h.new hb⟩
theorem Bx.lt (h : Bx b x g w) : g < w.heap.size := by obtain ⟨s, A, n, c, B, m, d, h1, h⟩ := h; exact h1.lt
theorem sub_v (h : Rw b x v w) (h' : Rw b' y v' w) (hb : b + b' ≤ 4900) : Calls Try.prog 100 #[v, v'] w (RV w (Rv (b + b' + 1) (x - y))) := by
  obtain ⟨s, A, n, c, B, m, d, rfl, h⟩ := h
  obtain ⟨s', A', n', c', B', m', d', rfl, h'⟩ := h'
  refine (qsub_any h h' hb).mono ?_
  rintro e w1 ⟨s1, A1, n1, c1, B1, m1, d1, rfl, h1, hb1⟩
  exact ⟨_, rfl, ⟨s1, A1, n1, c1, B1, m1, d1, rfl, h1⟩, hb1⟩
theorem mul_v (h : Rw b x v w) (h' : Rw b' y v' w) (hb : b + b' ≤ 4900) : Calls Try.prog 80 #[v, v'] w (RV w (Rv (b + b') (x * y))) := by
  obtain ⟨s, A, n, c, B, m, d, rfl, h⟩ := h
  obtain ⟨s', A', n', c', B', m', d', rfl, h'⟩ := h'
  refine (qmul_any h h' (by omega)).mono ?_
  rintro e w1 ⟨s1, A1, n1, c1, B1, m1, d1, rfl, h1, hb1⟩
  exact ⟨_, rfl, ⟨s1, A1, n1, c1, B1, m1, d1, rfl, h1⟩, hb1⟩
theorem neg_v (h : Rw b x v w) (hb : b ≤ 4900) : Calls Try.prog 91 #[v] w (RV w (Rv b (-x))) := by
  obtain ⟨s, A, n, c, B, m, d, rfl, h⟩ := h
  refine (qneg_any h (by omega)).mono ?_
  rintro e w1 ⟨s1, A1, n1, c1, B1, m1, d1, rfl, h1, hb1⟩
  exact ⟨_, rfl, ⟨s1, A1, n1, c1, B1, m1, d1, rfl, h1⟩, hb1⟩
theorem norm_v (h : Rw b x v w) (hb : b ≤ 4900) : Calls Try.prog 38 #[v] w (RV w (Rv b x)) := by
  obtain ⟨s, A, n, c, B, m, d, rfl, h⟩ := h
  refine (qnorm_any h (by omega)).mono ?_
  rintro e w1 ⟨s1, A1, n1, c1, B1, m1, d1, rfl, h1, hb1⟩
  exact ⟨_, rfl, ⟨s1, A1, n1, c1, B1, m1, d1, rfl, h1⟩, hb1⟩
theorem int_v (z : Int) (h1 : -9223372036854775808 ≤ z) (h2 : z ≤ 9223372036854775807) (w : World) : Calls Try.prog 27 #[.int .i64 z] w (RV w (Rv 2 (z : Rat))) := by
  refine (qint_any z h1 h2).mono ?_
  rintro e w1 ⟨s1, A1, n1, c1, B1, m1, d1, rfl, h1, hb1⟩
  exact ⟨_, rfl, ⟨s1, A1, n1, c1, B1, m1, d1, rfl, h1⟩, hb1⟩
theorem int_w (z : Int) (h1 : -9223372036854775808 ≤ z) (h2 : z ≤ 9223372036854775807) (v : Value) (hv : v = .int .i64 z) (w : World) : Calls Try.prog 27 #[v] w (RV w (Rv 2 (z : Rat))) := by
  subst hv; exact int_v z h1 h2 w
theorem cmp_v (h : Rw b x v w) (h' : Rw b' y v' w) (hb : b + b' ≤ 4900) : Calls Try.prog 12 #[v, v'] w (RV w (fun u _ => u = .int .i64 (rcq x y))) := by
  obtain ⟨s, A, n, c, B, m, d, rfl, h⟩ := h
  obtain ⟨s', A', n', c', B', m', d', rfl, h'⟩ := h'
  exact rv_one (qcmp_any h h' hb)
theorem sign_v (h : Rw b x v w) : Calls Try.prog 28 #[v] w (RV w (fun u _ => u = .int .i64 x.num.sign)) := by
  obtain ⟨s, A, n, c, B, m, d, rfl, h⟩ := h
  exact rv_one (sign_any h)
theorem div_v (h : Rw b x v w) (h' : Rw b' y v' w) (hb : b + b' ≤ 4900) (hy : y ≠ 0) : Calls Try.prog 99 #[v, v'] w (RV w (fun u w1 => ∃ q, u = .tuple #[q, .int .i64 0] ∧ Rv (b + b') (x / y) q w1)) := by
  obtain ⟨s, A, n, c, B, m, d, rfl, h⟩ := h
  obtain ⟨s', A', n', c', B', m', d', rfl, h'⟩ := h'
  refine (qdiv_any h h' (by omega)).mono ?_
  rintro e w1 ⟨-, hd⟩
  obtain ⟨s1, A1, n1, c1, B1, m1, d1, rfl, h1, hb1⟩ := hd hy
  exact ⟨_, rfl, ⟨_, rfl, s1, A1, n1, c1, B1, m1, d1, rfl, h1⟩, hb1⟩
end
/-- A load of a boxed Rat. -/
theorem load_bx {o : Oper} {a : Act} {w : World} {t : Tmp} {b g : Nat} {x : Rat} (ho : o.op = .load 31 (.tmp t)) (ht : tv a t = .pointer (some ⟨g, 0, none⟩)) (h : Bx b x g w) :
    gives Try.prog o a.eval w (fun v w' => Rw b x v w' ∧ Below w.heap.size w w') := by
  obtain ⟨s, A, n, c, B, m, d, h1, h⟩ := h
  exact gives_load_blk 31 (.tmp t) ho g 31 _ _ ht h1 Try.underlying31 rfl (by kernel_rfl) ⟨⟨s, A, n, c, B, m, d, rfl, h⟩, Below.refl _ _⟩
theorem load_bn {o : Oper} {a : Act} {w : World} {t : Tmp} {b g : Nat} {x : Rat} (ho : o.op = .load 31 (.tmp t)) (ht : tv a t = .pointer (some ⟨g, 0, none⟩)) (h : Bn b x g w) :
    gives Try.prog o a.eval w (fun v w' => Rv b x v w' ∧ Below w.heap.size w w') := by
  obtain ⟨s, A, n, c, B, m, d, h1, h⟩ := h
  exact gives_load_blk 31 (.tmp t) ho g 31 _ _ ht h1 Try.underlying31 rfl (by kernel_rfl) ⟨⟨s, A, n, c, B, m, d, rfl, h⟩, Below.refl _ _⟩
end Go.Proofs.Ytpnklmgfdihjfaa
namespace Go.Proofs.Ytpnklmgfdihjfaa
open Go.RowKit

/-- A new box for a Rat. -/
def Zx (B g : Nat) (w : World) : Prop := B ≤ g ∧ TB w g 31 (.bool false) (.slice none 0 0) (.slice none 0 0)
def Zb (B : Nat) (v : Value) (w : World) : Prop := ∃ g, v = .pointer (some ⟨g, 0, none⟩) ∧ Zx B g w
theorem Zb.new {B : Nat} {v : Value} {w w' : World} (h : Zb B v w) (hb : Below w.heap.size w w') : Zb B v w' := by
  obtain ⟨g, h1, h2, h3⟩ := h
  exact ⟨g, h1, h2, h3.new hb⟩
theorem alloc_rat {o : Oper} {a : Act} {w0 w : World} (ho : o.op = .alloc 31) (hb : Below w0.heap.size w0 w) : gives Try.prog o a.eval w (fun v w' => (Zb w0.heap.size v w' ∧ Below w.heap.size w w') ∧ Fresh v w w') := by
  have hr : (execOp a.eval o).run Try.prog w = .ok (.value (.pointer (some ⟨w.heap.size, 0, none⟩))) (w.alloc (.cells #[.bool false, .slice none 0 0, .slice none 0 0] 31)) := by
    unfold execOp
    rw [ho]
    go_simp
  unfold gives
  rw [hr]
  exact ⟨⟨⟨_, rfl, hb.size, TB.made _ _ _ _ _⟩, al _ _⟩, _, rfl, Nat.le_refl _, by simp⟩
/-- A quotient and no error. -/
def Dv (b : Nat) (x : Rat) (v : Value) (w : World) : Prop := ∃ q, v = .tuple #[q, .int .i64 0] ∧ Rv b x q w
theorem Dv.new {b : Nat} {x : Rat} {v : Value} {w w' : World} (h : Dv b x v w) (hb : Below w.heap.size w w') : Dv b x v w' := by
  obtain ⟨q, h1, h2⟩ := h
  exact ⟨q, h1, h2.new hb⟩
theorem ext_q {o : Oper} {a : Act} {w : World} {t : Tmp} {b : Nat} {x : Rat} (ho : o.op = .extract (.tmp t) 0) (h : Dv b x (tv a t) w) : gives Try.prog o a.eval w (fun v w' => Rv b x v w' ∧ Below w.heap.size w w') := by
  obtain ⟨q, h1, h2⟩ := h
  refine gives_val q ?_ ⟨h2, Below.refl _ _⟩
  unfold execOp
  rw [ho]
  simp only [eval_tmp, h1]
  go_simp
theorem ext_e {o : Oper} {a : Act} {w : World} {t : Tmp} {b : Nat} {x : Rat} (ho : o.op = .extract (.tmp t) 1) (h : Dv b x (tv a t) w) : gives Try.prog o a.eval w (fun v w' => v = .int .i64 0 ∧ Below w.heap.size w w') := by
  obtain ⟨q, h1, h2⟩ := h
  refine gives_val (.int .i64 0) ?_ ⟨rfl, Below.refl _ _⟩
  unfold execOp
  rw [ho]
  simp only [eval_tmp, h1]
  go_simp
theorem late_e {ops : Array Oper} {S : World → Prop} {o : Oper} {a : Act} {w : World} {t : Tmp} {b : Nat} {x : Rat} (ho : o.op = .extract (.tmp t) 1) (hg : o.guard = none) (h : Dv b x (tv a t) w) : Region.wanted o (yielded ops a.tmps) = true ∧ ∃ v, (∀ w', S w' → (execOp a.eval o).run Try.prog w' = .ok (.value v) w') ∧ v = .int .i64 0 := by
  obtain ⟨q, h1, h2⟩ := h
  refine ⟨by simp [Region.wanted, hg], .int .i64 0, fun w' _ => ?_, rfl⟩
  unfold execOp
  rw [ho]
  simp only [eval_tmp, h1]
  go_simp
section
variable {P : Program} {o : Oper} {a : Act} {w : World} {K : Value → World → Prop}
end
end Go.Proofs.Ytpnklmgfdihjfaa
namespace Go.Proofs.Ytpnklmgfdihjfaa
open Go.RowKit

def Win (z : Int) : Prop := -1048576 ≤ z ∧ z ≤ 1048576
instance (z : Int) : Decidable (Win z) := inferInstanceAs (Decidable (_ ∧ _))
section
variable {w w' : World} {g : Nat} {a b c d : Int}
end

end Go.Proofs.Ytpnklmgfdihjfaa
namespace Go.Proofs.Ytpnklmgfdihjfaa
open Go.RowKit

theorem frac_le (n d : Int) (hd : d ≠ 0) : ((n : Rat) / (d : Rat)).num.natAbs ≤ n.natAbs ∧ ((n : Rat) / (d : Rat)).den ≤ d.natAbs := by
  have h0 : d.natAbs ≠ 0 := by omega
  rw [← qv_frac n d hd, qv_abs h0, qv_den h0]
  exact ⟨Nat.div_le_self _ _, Nat.div_le_self _ _⟩
/-- A number. -/
def Nv (b N : Nat) (v : Value) (w : World) : Prop := ∃ A k c, v = .slice A k c ∧ Num w A k c b N
theorem Nv.new {b N : Nat} {v : Value} {w w' : World} (h : Nv b N v w) (hb : Below w.heap.size w w') : Nv b N v w' := by
  obtain ⟨A, k, c, h1, h2⟩ := h
  exact ⟨A, k, c, h1, h2.new hb⟩
theorem nof_v (k : Nat) (hk : k < 18446744073709551616) (v : Value) (hv : v = .int .u64 k) (w : World) : Calls Try.prog 15 #[v] w (RV w (Nv 2 k)) := by
  subst hv
  refine (of_n k hk w).mono ?_
  rintro e w1 ⟨A, n, c, rfl, h, -, hb⟩
  exact ⟨_, rfl, ⟨A, n, c, rfl, h⟩, hb⟩
theorem fromnat_v {w : World} {b N : Nat} {v : Value} (h : Nv b N v w) (hb : b ≤ 4900) : Calls Try.prog 81 #[v] w (RV w (Rv b (N : Rat))) := by
  obtain ⟨A, n, c, rfl, h⟩ := h
  refine (qnat_any h (by omega)).mono ?_
  rintro e w1 ⟨s1, A1, n1, c1, B1, m1, d1, rfl, h1, hb1⟩
  exact ⟨_, rfl, ⟨s1, A1, n1, c1, B1, m1, d1, rfl, h1⟩, hb1⟩
section
variable {o : Oper} {a : Act} {w : World} {t : Tmp} {g : Nat}
end
end Go.Proofs.Ytpnklmgfdihjfaa
namespace Go.Proofs.Ytpnklmgfdihjfaa
open Go.RowKit
set_option linter.unusedSimpArgs false

end Go.Proofs.Ytpnklmgfdihjfaa
namespace Go.Proofs.Ytpnklmgfdihjfaa
open Go.RowKit
set_option linter.unusedSimpArgs false

end Go.Proofs.Ytpnklmgfdihjfaa
namespace Go.Proofs.Ytpnklmgfdihjfaa
open Go.RowKit
set_option linter.unusedSimpArgs false

end Go.Proofs.Ytpnklmgfdihjfaa
namespace Go.Proofs.Ytpnklmgfdihjfaa
open Go.RowKit

end Go.Proofs.Ytpnklmgfdihjfaa
namespace Go.Proofs.Ytpnklmgfdihjfaa
open Go.RowKit
set_option linter.unusedSimpArgs false

section
variable {o : Oper} {a : Act} {w : World} {t : Tmp} {g : Nat}
end
section
variable {x y : Rat}
end
end Go.Proofs.Ytpnklmgfdihjfaa
namespace Go.Proofs.Ytpnklmgfdihjfaa
open Go.RowKit
section
variable {o : Oper} {a : Act} {w : World} {t u : Tmp}
theorem idx_es {ad : Addr} {n c k : Nat} (hk : k < n) (ho : o.op = .indexAddr 22 (.tmp t) (.tmp u)) (h : tv a t = .slice (some ad) n c) (h2 : tv a u = .int .i64 (k : Int)) : gives Try.prog o a.eval w (fun v w' => v = .pointer (some (ad.add k)) ∧ Below w.heap.size w w') := by
  refine gives_val (.pointer (some (ad.add k))) ?_ ⟨rfl, Below.refl _ _⟩
  have i1 : (0 : Int) ≤ (k : Int) := by omega
  have i2 : (k : Int) < (n : Int) := by omega
  unfold execOp; rw [ho]; simp only [eval_tmp, h, h2]; go_simp
theorem idx_xs {ad : Addr} {n c k : Nat} {y : Operand} (hk : k < n) (ho : o.op = .indexAddr 45 (.tmp t) y) (h : tv a t = .slice (some ad) n c) (h2 : a.eval y = .int .i64 (k : Int)) : gives Try.prog o a.eval w (fun v w' => v = .pointer (some (ad.add k)) ∧ Below w.heap.size w w') := by
  refine gives_val (.pointer (some (ad.add k))) ?_ ⟨rfl, Below.refl _ _⟩
  have i1 : (0 : Int) ≤ (k : Int) := by omega
  have i2 : (k : Int) < (n : Int) := by omega
  unfold execOp; rw [ho]; simp only [eval_tmp, h, h2]; go_simp
end
end Go.Proofs.Ytpnklmgfdihjfaa
