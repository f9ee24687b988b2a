/-
Rows of Rats in memory: what keeps them, loads and stores of their elements.
What a make of a row of numbers or bools comes to, over this seat's tables.
Making, copying and writing rows of Rats; contract of simplex.zeros.
Contract of simplex.combined. Regions printed by gen/sx.py.
Plain: tableaux over the rationals, pivots, Bland's rule does not cycle.
Plain: Bland's rule does not cycle.
Plain: how great the numbers of a tableau can be: every basis is reached from the first one by at most m pivots.
-/
import Derived.Test.YtpnklmgfdihjfaaK5
import Derived.Test.YtpnklmgfdihjfaaK1
import Derived.Laws.IdiomCopy
import Derived.Laws.CopyOwn
import Derived.WalkKit
namespace Go.Proofs.Ytpnklmgfdihjfaa
open Go.RowKit
set_option linter.unusedVariables false

/-- All digits stay where they are. -/
def KeepsN (w w' : World) : Prop := w.heap.size ≤ w'.heap.size ∧ ∀ (p : Addr) x, w.cell? p = some (.int .u32 x) → w'.cell? p = some (.int .u32 x)
theorem cell_lt {w : World} {p : Addr} {v : Value} (h : w.cell? p = some v) : p.block < w.heap.size := by
  rcases Nat.lt_or_ge p.block w.heap.size with h1 | h1
  · exact h1
  · have : w.heap[p.block]? = none := Array.getElem?_eq_none h1
    unfold World.cell? at h
    simp [this] at h
section
variable {w w' w'' : World}
theorem KeepsN.trans (h : KeepsN w w') (h' : KeepsN w' w'') : KeepsN w w'' := ⟨Nat.le_trans h.1 h'.1, fun p x hp => h'.2 p x (h.2 p x hp)⟩
theorem KeepsN.below (h : Below w.heap.size w w') : KeepsN w w' := ⟨h.size, fun p x hp => (h.cell (cell_lt hp)).trans hp⟩
theorem KeepsN.setCell {p : Addr} {v : Value} (hc : w.cell? p = some v) (hv : ∀ x, v ≠ .int .u32 x) (u : Value) : KeepsN w (w.setCell p u) := by
  refine ⟨by rw [size_setCell]; exact Nat.le_refl _, fun q x hq => ?_⟩
  rw [World.cell?_setCell_other w p q u]
  · exact hq
  · intro e
    rw [← e, hc] at hq
    cases hq
    exact hv _ rfl
theorem KeepsN.blk {g : Nat} {t : TypeId} {cs : Array Value} (hb : Blk w g t cs) {i : Nat} (hi : i < cs.size) (hv : ∀ x, cs[i]? ≠ some (.int .u32 x)) (u : Value) : KeepsN w (w.setCell ⟨g, i, none⟩ u) := by
  refine KeepsN.setCell (v := cs[i]) ?_ ?_ u
  · rw [hb.cell]; exact Array.getElem?_eq_getElem hi
  · intro x he
    exact hv x (by rw [Array.getElem?_eq_getElem hi, he])
theorem Es.keepN {A : Option Addr} {n : Nat} {es : List Nat} (h : Es w w.heap.size A n es) (k : KeepsN w w') : Es w' w'.heap.size A n es := by
  refine ⟨⟨h.1.1, fun hn => ?_⟩, h.2⟩
  obtain ⟨ad, rfl, hb, hx⟩ := h.1.2 hn
  refine ⟨ad, rfl, Nat.lt_of_lt_of_le hb k.1, fun j y hj => ?_⟩
  have h1 := hx j y hj
  have h2 := U32_get hj
  rw [h2] at h1 ⊢
  exact k.2 _ _ h1
theorem Num.keepN {A : Option Addr} {k c b N : Nat} (h : Num w A k c b N) (hk : KeepsN w w') : Num w' A k c b N := by
  obtain ⟨h1, h2, h3, h4, l, h5, h6⟩ := h
  exact ⟨h1, h2, h3, h4, l, h5.keepN hk, h6⟩
theorem Norm.keepN {A : Option Addr} {k N : Nat} (h : Norm w A k N) (hk : KeepsN w w') : Norm w' A k N := by
  obtain ⟨l, h5, h6⟩ := h
  exact ⟨l, h5.keepN hk, h6⟩
theorem Rv.keepN {b : Nat} {x : Rat} {v : Value} (h : Rv b x v w) (k : KeepsN w w') : Rv b x v w' := by
  obtain ⟨s, A, n, c, B, m, d, e, h1, ⟨h2, h3⟩, h4, h5⟩ := h
  exact ⟨s, A, n, c, B, m, d, e, h1, ⟨h2.keepN k, h3.keepN k⟩, h4.keepN k, h5.keepN k⟩
theorem Rw.keepN {b : Nat} {x : Rat} {v : Value} (h : Rw b x v w) (k : KeepsN w w') : Rw b x v w' := by
  obtain ⟨s, A, n, c, B, m, d, e, N, M, h1, h2, h3⟩ := h
  exact ⟨s, A, n, c, B, m, d, e, N, M, h1.keepN k, h2.keepN k, h3⟩
/-- A smaller bound. -/
theorem Rv.fit {b b' : Nat} {x : Rat} {v : Value} (h : Rv b x v w) (h1 : x.num.natAbs < PB b') (h2 : x.den < PB b') (h3 : 1 ≤ b') : Rv b' x v w := by
  obtain ⟨s, A, n, c, B, m, d, e, q1, ⟨⟨p1, p2, p3, p4, p5⟩, q2⟩, ⟨r1, r2, r3, r4, r5⟩, q3⟩ := h
  exact ⟨s, A, n, c, B, m, d, e, q1, ⟨⟨p1, h3, p3, h1, p5⟩, q2⟩, ⟨r1, h3, r3, h2, r5⟩, q3⟩
theorem Rw.agg {b : Nat} {x : Rat} {v : Value} (h : Rw b x v w) : ∃ s A n c B m d, v = .agg #[.bool s, .slice A n c, .slice B m d] := by
  obtain ⟨s, A, n, c, B, m, d, e, _⟩ := h; exact ⟨s, A, n, c, B, m, d, e⟩
end

/-- The cells of n Rats; P says what each holds. -/
def RL (P : Nat → Value → Prop) (n : Nat) (xs : List Value) : Prop := xs.length = n * 3 ∧ ∀ j, j < n → ∃ s A k c B m d, xs[j * 3]? = some (.bool s) ∧ xs[j * 3 + 1]? = some (.slice A k c) ∧ xs[j * 3 + 2]? = some (.slice B m d) ∧ P j (.agg #[.bool s, .slice A k c, .slice B m d])
theorem RL.mono {P Q : Nat → Value → Prop} {n : Nat} {xs : List Value} (h : RL P n xs) (hq : ∀ j v, j < n → P j v → Q j v) : RL Q n xs :=
  ⟨h.1, fun j hj => by obtain ⟨s, A, k, c, B, m, d, h0, h1, h2, h3⟩ := h.2 j hj; exact ⟨s, A, k, c, B, m, d, h0, h1, h2, hq j _ hj h3⟩⟩
theorem RL.app {P : Nat → Value → Prop} {n : Nat} {xs : List Value} {s : Bool} {A B : Option Addr} {k c m d : Nat} (h : RL P n xs) (hp : P n (.agg #[.bool s, .slice A k c, .slice B m d])) : RL P (n + 1) (xs ++ [.bool s, .slice A k c, .slice B m d]) := by
  refine ⟨by rw [List.length_append, h.1, Nat.add_mul]; rfl, fun j hj => ?_⟩
  have hl := h.1
  by_cases hjn : j < n
  · obtain ⟨s', A', k', c', B', m', d', h0, h1, h2, h3⟩ := h.2 j hjn
    exact ⟨s', A', k', c', B', m', d', by rw [List.getElem?_append_left (by omega)]; exact h0, by rw [List.getElem?_append_left (by omega)]; exact h1, by rw [List.getElem?_append_left (by omega)]; exact h2, h3⟩
  · obtain rfl : j = n := by omega
    exact ⟨s, A, k, c, B, m, d, by rw [List.getElem?_append_right (by omega), hl]; simp, by rw [List.getElem?_append_right (by omega), hl, Nat.add_sub_cancel_left]; rfl, by rw [List.getElem?_append_right (by omega), hl, Nat.add_sub_cancel_left]; rfl, hp⟩
theorem RL.clean {P : Nat → Value → Prop} {n : Nat} {xs : List Value} (h : RL P n xs) (i : Nat) (x : Int) : xs[i]? ≠ some (.int .u32 x) := by
  intro he
  have hi : i < n * 3 := by
    rcases Nat.lt_or_ge i xs.length with h4 | h4
    · have := h.1; omega
    · rw [List.getElem?_eq_none h4] at he; cases he
  obtain ⟨s, A, k, c, B, m, d, q0, q1, q2, q3⟩ := h.2 (i / 3) (by omega)
  have : i = i / 3 * 3 ∨ i = i / 3 * 3 + 1 ∨ i = i / 3 * 3 + 2 := by omega
  rcases this with h5 | h5 | h5
  · rw [h5, q0] at he; cases he
  · rw [h5, q1] at he; cases he
  · rw [h5, q2] at he; cases he
theorem RL.set {P Q : Nat → Value → Prop} {n j : Nat} {xs : List Value} {s : Bool} {A B : Option Addr} {k c m d : Nat} (h : RL P n xs) (hj : j < n) (hq : ∀ i v, i < n → i ≠ j → P i v → Q i v) (hv : Q j (.agg #[.bool s, .slice A k c, .slice B m d])) :
    RL Q n (((xs.set (j * 3) (.bool s)).set (j * 3 + 1) (.slice A k c)).set (j * 3 + 2) (.slice B m d)) := by
  refine ⟨by simp [h.1], fun i hi => ?_⟩
  have hl := h.1
  by_cases hij : i = j
  · subst hij
    exact ⟨s, A, k, c, B, m, d, by simp [List.getElem?_set]; omega, by simp [List.getElem?_set]; omega, by simp [List.getElem?_set]; omega, hv⟩
  · obtain ⟨s', A', k', c', B', m', d', h0, h1, h2, h3⟩ := h.2 i hi
    refine ⟨s', A', k', c', B', m', d', ?_, ?_, ?_, hq i _ hi hij h3⟩
    · rw [List.getElem?_set_ne (by omega), List.getElem?_set_ne (by omega), List.getElem?_set_ne (by omega)]; exact h0
    · rw [List.getElem?_set_ne (by omega), List.getElem?_set_ne (by omega), List.getElem?_set_ne (by omega)]; exact h1
    · rw [List.getElem?_set_ne (by omega), List.getElem?_set_ne (by omega), List.getElem?_set_ne (by omega)]; exact h2
/-- A slice of n Rats. -/
def Rs (w : World) (B : Nat) (A : Option Addr) (n : Nat) (P : Nat → Value → Prop) : Prop := ∃ xs, Reads w B 3 A n xs ∧ RL P n xs
/-- A block of n Rats. -/
def RB (w : World) (g : Nat) (n : Nat) (P : Nat → Value → Prop) : Prop := ∃ cs : Array Value, Blk w g 31 cs ∧ RL P n cs.toList
/-- Normal Rats, and Rats of any form. -/
def PN (w : World) (b : Nat) (f : Nat → Rat) (j : Nat) (v : Value) : Prop := Rv b (f j) v w
def PW (w : World) (b : Nat) (f : Nat → Rat) (j : Nat) (v : Value) : Prop := Rw b (f j) v w
section
variable {w w' : World} {B g n b : Nat} {A : Option Addr} {f : Nat → Rat} {P Q : Nat → Value → Prop}
theorem RB.lt (h : RB w g n P) : g < w.heap.size := by obtain ⟨cs, h1, _⟩ := h; exact h1.lt
theorem Rs.at_ (h : Rs w B A n P) {j : Nat} (hj : j < n) : ∃ ad s A0 k c B0 m d, A = some ad ∧ ad.block < B ∧ w.cell? (ad.add (j * 3)) = some (.bool s) ∧ w.cell? (ad.add (j * 3 + 1)) = some (.slice A0 k c) ∧ w.cell? (ad.add (j * 3 + 2)) = some (.slice B0 m d) ∧ P j (.agg #[.bool s, .slice A0 k c, .slice B0 m d]) := by
  obtain ⟨xs, ⟨h0, h1⟩, h2⟩ := h
  obtain ⟨s, A0, k, c, B0, m, d, q0, q1, q2, q3⟩ := h2.2 j hj
  obtain ⟨ad, e, hb, hc⟩ := h1 (by omega)
  exact ⟨ad, s, A0, k, c, B0, m, d, e, hb, hc _ _ q0, hc _ _ q1, hc _ _ q2, q3⟩
theorem addr_zero (g k : Nat) : (Addr.add ⟨g, 0, none⟩ k) = ⟨g, k, none⟩ := by unfold Addr.add; split <;> simp_all
theorem Rs.of_rb (h : RB w g n P) : Rs w w.heap.size (some ⟨g, 0, none⟩) n P := by
  obtain ⟨cs, h1, h2⟩ := h
  refine ⟨cs.toList, ⟨h2.1, fun _ => ⟨_, rfl, h1.lt, fun j u hu => ?_⟩⟩, h2⟩
  rw [addr_zero, h1.cell]; simpa using hu
theorem Rs.mono (h : Rs w B A n P) (hq : ∀ j v, j < n → P j v → Q j v) : Rs w B A n Q := by
  obtain ⟨xs, h1, h2⟩ := h; exact ⟨xs, h1, h2.mono hq⟩
theorem RB.mono (h : RB w g n P) (hq : ∀ j v, j < n → P j v → Q j v) : RB w g n Q := by
  obtain ⟨xs, h1, h2⟩ := h; exact ⟨xs, h1, h2.mono hq⟩
theorem PN.keep {j : Nat} {v : Value} (h : PN w b f j v) (k : KeepsN w w') : PN w' b f j v := Rv.keepN h k
theorem PW.keep {j : Nat} {v : Value} (h : PW w b f j v) (k : KeepsN w w') : PW w' b f j v := Rw.keepN h k
theorem Rs.below (h : Rs w w.heap.size A n P) (hb : Below w.heap.size w w') (hq : ∀ j v, j < n → P j v → Q j v) : Rs w' w'.heap.size A n Q := by
  obtain ⟨xs, h1, h2⟩ := h
  exact ⟨xs, (h1.below hb).more hb.size, h2.mono hq⟩
theorem Rs.newN (h : Rs w w.heap.size A n (PN w b f)) (hb : Below w.heap.size w w') : Rs w' w'.heap.size A n (PN w' b f) := h.below hb fun _ _ _ hv => PN.keep hv (KeepsN.below hb)
theorem Rs.newW (h : Rs w w.heap.size A n (PW w b f)) (hb : Below w.heap.size w w') : Rs w' w'.heap.size A n (PW w' b f) := h.below hb fun _ _ _ hv => PW.keep hv (KeepsN.below hb)
theorem Rs.toW (h : Rs w B A n (PN w b f)) : Rs w B A n (PW w b f) := h.mono fun _ _ _ hv => Rv.rw hv
theorem RB.below (h : RB w g n P) (hb : Below w.heap.size w w') (hq : ∀ j v, j < n → P j v → Q j v) : RB w' g n Q := by
  obtain ⟨cs, h1, h2⟩ := h
  exact ⟨cs, h1.below hb h1.lt, h2.mono hq⟩
theorem RB.newN (h : RB w g n (PN w b f)) (hb : Below w.heap.size w w') : RB w' g n (PN w' b f) := h.below hb fun _ _ _ hv => PN.keep hv (KeepsN.below hb)
/-- A store elsewhere. -/
theorem RB.far (h : RB w g n P) {p : Addr} (hp : g ≠ p.block) {u : Value} (hq : ∀ j v, j < n → P j v → Q j v) : RB (w.setCell p u) g n Q := by
  obtain ⟨cs, h1, h2⟩ := h
  exact ⟨cs, h1.far hp u, h2.mono hq⟩
theorem RB.new {n : Nat} (w : World) (cs : Array Value) (h : RL P n cs.toList) : RB (w.alloc (.cells cs 31)) w.heap.size n P := ⟨cs, Blk.new w _ _, h⟩
end
/-- A Rat is written into a row. -/
theorem store_row {o : Oper} {a : Act} {w : World} {t u : Tmp} {g n j b : Nat} {P : Nat → Value → Prop} {x : Rat} {v : Value} {K : Act → World → Prop} {Q : Exit → Act → World → Prop} (ho : o.op = .store 31 (.tmp t) (.tmp u)) (hd : o.dst = none) (ht : a.eval (.tmp t) = .pointer (some (Addr.add ⟨g, 0, none⟩ (j * 3)))) (hu : a.eval (.tmp u) = v)
    (hr : RB w g n P) (hj : j < n) (hv : Rw b x v w) (next : ∀ w', KeepsN w w' → w.grownBy w' (some g) → w'.heap.size = w.heap.size → (∀ R : Nat → Value → Prop, (∀ i u, i < n → i ≠ j → P i u → R i u) → R j v → RB w' g n R) → K a w') : o.wp Try.prog a w K Q := by
  obtain ⟨s, A, k, c, B, m, d, rfl⟩ := hv.agg
  obtain ⟨cs, h1, h2⟩ := hr
  have hsz : cs.size = n * 3 := by have := h2.1; simpa using this
  rw [addr_zero] at ht
  have e : w.setCells g (j * 3) [.bool s, .slice A k c, .slice B m d] = ((w.setCell ⟨g, j * 3, none⟩ (.bool s)).setCell ⟨g, j * 3 + 1, none⟩ (.slice A k c)).setCell ⟨g, j * 3 + 2, none⟩ (.slice B m d) := rfl
  have b1 := h1.set_ (j * 3) (.bool s)
  have b2 := b1.set_ (j * 3 + 1) (.slice A k c)
  have b3 := b2.set_ (j * 3 + 2) (.slice B m d)
  have cl : ∀ (i : Nat) x, cs[i]? ≠ some (.int .u32 x) := fun i x he => h2.clean i x (by simpa using he)
  have cl1 : ∀ (i : Nat) x, (cs.setIfInBounds (j * 3) (.bool s))[i]? ≠ some (.int .u32 x) := fun i x he => by
    rw [Array.getElem?_setIfInBounds] at he
    split at he
    · split at he <;> cases he
    · exact cl i x he
  have cl2 : ∀ (i : Nat) x, ((cs.setIfInBounds (j * 3) (.bool s)).setIfInBounds (j * 3 + 1) (.slice A k c))[i]? ≠ some (.int .u32 x) := fun i x he => by
    rw [Array.getElem?_setIfInBounds] at he
    split at he
    · split at he <;> cases he
    · exact cl1 i x he
  have kp : KeepsN w (w.setCells g (j * 3) [.bool s, .slice A k c, .slice B m d]) := by
    rw [e]
    exact ((KeepsN.blk h1 (by omega) (cl _) _).trans (KeepsN.blk b1 (by simp; omega) (cl1 _) _)).trans (KeepsN.blk b2 (by simp; omega) (cl2 _) _)
  refine wp_store_mid 31 (.tmp t) (.tmp u) ho g (j * 3) #[.bool s, .slice A k c, .slice B m d] ht hu (fun i hi => ⟨?_, h1.frozen _⟩) (by kernel_rfl) (by simp [Value.oneCell']) ?_
  · rw [h1.cell]
    have : i < 3 := by simpa using hi
    rw [Array.getElem?_eq_getElem (by omega)]; rfl
  · rw [hd]
    refine next _ kp (only_setCells _ _ _ (World.grownBy.refl w _)) (by show (w.setCells g (j * 3) [.bool s, .slice A k c, .slice B m d]).heap.size = _; rw [e, size_setCell, size_setCell, size_setCell]) (fun R hR hj' => ⟨_, b3, ?_⟩)
    have := h2.set hj hR hj'
    simpa using this
section
variable {o : Oper} {a : Act} {w : World} {t u : Tmp}
theorem idx_rs {ad : Addr} {n c k : Nat} {y : Operand} (hk : k < n) (ho : o.op = .indexAddr 28 (.tmp t) y) (h : tv a t = .slice (some ad) n c) (h2 : a.eval y = .int .i64 (k : Int)) : gives Try.prog o a.eval w (fun v w' => v = .pointer (some (ad.add (k * 3))) ∧ Below w.heap.size w w') := by
  refine gives_val (.pointer (some (ad.add (k * 3)))) ?_ ⟨rfl, Below.refl _ _⟩
  have i1 : (0 : Int) ≤ (k : Int) := by omega
  have i2 : (k : Int) < (n : Int) := by omega
  unfold execOp; rw [ho]; simp only [eval_tmp, h, h2]; go_simp
theorem run_load_rat (w : World) (p : Addr) (x y z : Value) (h0 : w.cell? p = some x) (h1 : w.cell? (p.add 1) = some y) (h2 : w.cell? (p.add 2) = some z) : (loadVar 31 p).run Try.prog w = .ok (.agg #[x, y, z]) w := by
  obtain ⟨i, hi, hz, hs1, hby⟩ := info_parts (P := Try.prog) (e := 31) (z := .agg #[.bool false, .slice none 0 0, .slice none 0 0]) (size := 3) (bytes := 56) (by kernel_rfl)
  have hl := run_loadCells_list (P := Try.prog) w p [x, y, z] (fun j v hv => by
    match j with
    | 0 => simp at hv; subst hv; simpa [Addr.add] using h0
    | 1 => simp at hv; subst hv; exact h1
    | 2 => simp at hv; subst hv; exact h2
    | j + 3 => simp at hv)
  have hagg : (isAgg 31).run Try.prog w = .ok true w := by
    unfold isAgg
    rw [Sem.run_bind, run_underlying Try.underlying31 w]
    rfl
  simp only [List.length_cons, List.length_nil, Nat.zero_add, Nat.reduceAdd] at hl
  simp [loadVar, Sem.run_bind, hagg, sizeOf, typeInfo, hi, hs1, hl]
/-- An element of a row is loaded. -/
theorem load_rs {B n j : Nat} {ad : Addr} {P : Nat → Value → Prop} (ho : o.op = .load 31 (.tmp t)) (hx : tv a t = .pointer (some (ad.add (j * 3)))) (h : Rs w B (some ad) n P) (hj : j < n) : gives Try.prog o a.eval w (fun v w' => P j v ∧ w' = w) := by
  obtain ⟨ad', s, A0, k, c, B0, m, d, e, hb, q0, q1, q2, q3⟩ := h.at_ hj
  injection e with e
  subst e
  rw [← add_of_add] at q1 q2
  have hl := run_load_rat w (ad.add (j * 3)) _ _ _ q0 q1 q2
  have h : (execOp a.eval o).run Try.prog w = .ok (.value (.agg #[.bool s, .slice A0 k c, .slice B0 m d])) w := by
    unfold execOp
    rw [ho]
    simp only [eval_tmp, hx, Instr.loadAt, Instr.sureAddr, Sem.run_bind, Sem.run_pure, Result.andThen_ok, hl]
  exact gives_val _ h ⟨q3, rfl⟩
theorem load_rn {B n j b : Nat} {f : Nat → Rat} {ad : Addr} (ho : o.op = .load 31 (.tmp t)) (hx : tv a t = .pointer (some (ad.add (j * 3)))) (h : Rs w B (some ad) n (PN w b f)) (hj : j < n) : gives Try.prog o a.eval w (fun v w' => Rv b (f j) v w' ∧ Below w.heap.size w w') :=
  gives_mono (load_rs ho hx h hj) (fun v w' ⟨h1, h2⟩ => by subst h2; exact ⟨h1, Below.refl _ _⟩)
theorem load_rw {B n j b : Nat} {f : Nat → Rat} {ad : Addr} (ho : o.op = .load 31 (.tmp t)) (hx : tv a t = .pointer (some (ad.add (j * 3)))) (h : Rs w B (some ad) n (PW w b f)) (hj : j < n) : gives Try.prog o a.eval w (fun v w' => Rw b (f j) v w' ∧ Below w.heap.size w w') :=
  gives_mono (load_rs ho hx h hj) (fun v w' ⟨h1, h2⟩ => by subst h2; exact ⟨h1, Below.refl _ _⟩)
theorem load_rp {B n j b : Nat} {x : Rat} {ad : Addr} {P : Nat → Value → Prop} (ho : o.op = .load 31 (.tmp t)) (hx : tv a t = .pointer (some (ad.add (j * 3)))) (h : Rs w B (some ad) n P) (hj : j < n) (hp : ∀ v, P j v → Rv b x v w) : gives Try.prog o a.eval w (fun v w' => Rv b x v w' ∧ Below w.heap.size w w') :=
  gives_mono (load_rs ho hx h hj) (fun v w' ⟨h1, h2⟩ => by subst h2; exact ⟨hp v h1, Below.refl _ _⟩)
end
end Go.Proofs.Ytpnklmgfdihjfaa
namespace Go.Proofs.Ytpnklmgfdihjfaa
open Go.RowKit
theorem info_int : (Try.prog.info? 3).map (fun i => (i.zero, i.size, i.bytes)) = some (some (.int .i64 0), 1, 8) := by kernel_rfl
section
variable {ops : Array Oper} {rest : List Oper} {o : Oper} {a : Act} {w : World} {Q : Exit → Act → World → Prop}
end
end Go.Proofs.Ytpnklmgfdihjfaa
namespace Go.Proofs.Ytpnklmgfdihjfaa
open Go.RowKit
set_option linter.unusedVariables false
set_option linter.unusedSimpArgs false

theorem info_rat : (Try.prog.info? 31).map (fun i => (i.zero, i.size, i.bytes)) = some (some (.agg #[.bool false, .slice none 0 0, .slice none 0 0]), 3, 56) := by kernel_rfl
theorem rl_made (n : Nat) (P : Nat → Value → Prop) (hp : ∀ j, j < n → P j (.agg #[.bool false, .slice none 0 0, .slice none 0 0])) : RL P n (madeCells #[.bool false, .slice none 0 0, .slice none 0 0] (n * 3)).toList := by
  refine ⟨by rw [Array.length_toList, size_madeCells], fun j hj => ⟨false, none, 0, 0, none, 0, 0, ?_, ?_, ?_, hp j hj⟩⟩
  · have h1 : j * 3 < n * 3 := by omega
    have h2 : j * 3 % 3 = 0 := by omega
    simp [madeCells, h1, h2]
  · have h1 : j * 3 + 1 < n * 3 := by omega
    have h2 : (j * 3 + 1) % 3 = 1 := by omega
    simp [madeCells, h1, h2]
  · have h1 : j * 3 + 2 < n * 3 := by omega
    have h2 : (j * 3 + 2) % 3 = 2 := by omega
    simp [madeCells, h1, h2]
/-- What makeSlice lays. -/
def zrow (n : Nat) : Array Value := madeCells #[.bool false, .slice none 0 0, .slice none 0 0] (n * 3)
theorem mk_rat (n : Nat) (hn : n ≤ 1000000) (W : World) : (Instr.makeSlice 28 (.int .i64 (n : Int)) (.int .i64 (n : Int))).run Try.prog W = .ok (.slice (some ⟨W.heap.size, 0, none⟩) n n) (W.alloc (.cells (zrow n) 31)) := by
  obtain ⟨i, hi, hz, hs, hb⟩ := info_parts info_rat
  have h := run_make_rowN (P := Try.prog) 28 31 i _ Try.underlying28 hi hz .i64 .i64 n n (Nat.le_refl _) (by rw [hb]; omega) (by omega) W
  rw [hs] at h
  exact h
theorem rb_zrow (w : World) (n : Nat) (P : Nat → Value → Prop) (hp : ∀ j, j < n → P j (.agg #[.bool false, .slice none 0 0, .slice none 0 0])) : RB (w.alloc (.cells (zrow n) 31)) w.heap.size n P := RB.new w _ (rl_made n P hp)
section
variable {ops : Array Oper} {rest : List Oper} {o : Oper} {a : Act} {w : World} {Q : Exit → Act → World → Prop}
theorem wpList_store_row {t u : Tmp} {g n j b : Nat} {P : Nat → Value → Prop} {x : Rat} {v : Value} (hgd : o.guard = none) (ho : o.op = .store 31 (.tmp t) (.tmp u)) (hd : o.dst = none) (ht : a.eval (.tmp t) = .pointer (some ⟨g, j * 3, none⟩)) (hu : a.eval (.tmp u) = v)
    (hr : RB w g n P) (hj : j < n) (hv : Rw b x v w) (next : ∀ w', KeepsN w w' → w.grownBy w' (some g) → w'.heap.size = w.heap.size → (∀ R : Nat → Value → Prop, (∀ i u, i < n → i ≠ j → P i u → R i u) → R j v → RB w' g n R) → wpList Try.prog ops Q rest a w') : wpList Try.prog ops Q (o :: rest) a w :=
  wpList_plain hgd fun _ hK => store_row ho hd (by rw [addr_zero]; exact ht) hu hr hj hv fun w' h1 h2 h3 h4 => hK _ _ (next w' h1 h2 h3 h4)
/-- copy(dst, src): a whole row of Rats into a block of its own. -/
theorem run_copy_rat (ty : TypeId) {g n dc sc : Nat} {ad : Addr} {cur : Array Value} {cs : List Value} (hg : Blk w g 31 cur) (hcur : cur.size = n * 3) (hcs : cs.length = n * 3) (hsrc : ∀ j v, cs[j]? = some v → w.cell? (ad.add j) = some v) (h1 : ∀ v ∈ cs, v.oneCell' = true) :
    (Builtin.copy_ #[28, 28] ty #[.slice (some ⟨g, 0, none⟩) n dc, .slice (some ad) n sc]).run Try.prog w = .ok (goInt n) (w.setRow g cs.toArray) := by
  have hl := run_loadCells_list (P := Try.prog) w ad cs hsrc
  have hst := run_storeCells_at Try.prog g 0 31 cs 0 cur w hg (by simp; omega) h1
  obtain ⟨i, hi, hz, hs, hb⟩ := info_parts info_rat
  have hd : cur.toList.drop cs.length = [] := List.drop_eq_nil_of_le (by simp; omega)
  simp [Builtin.copy_, run_underlying Try.underlying28, Builtin.lenOf, Builtin.firstCells, sizeOf, typeInfo, hi, hs, ← hcs, hl, hst, hd]
theorem wpList_copy_rat {d s : Operand} {g n dc sc : Nat} {ad : Addr} {P R : Nat → Value → Prop} {B : Nat} (hgd : o.guard = none) (ho : o.op = .call { callee := .builtin .copy, args := #[d, s], argTypes := #[28, 28] })
    (hd : a.eval d = .slice (some ⟨g, 0, none⟩) n dc) (hs : a.eval s = .slice (some ad) n sc) (hr : RB w g n P) (hsrc : Rs w B (some ad) n R) (hn : 0 < n)
    (next : ∀ w', KeepsN w w' → w.grownBy w' (some g) → w'.heap.size = w.heap.size → (∀ R' : Nat → Value → Prop, (∀ i u, i < n → R i u → R' i u) → RB w' g n R') → wpList Try.prog ops Q rest (a.put o.dst (goInt n)) w') : wpList Try.prog ops Q (o :: rest) a w := by
  obtain ⟨cur, hg, hcl⟩ := hr
  obtain ⟨cs, ⟨hcs, hrd⟩, hrl⟩ := hsrc
  obtain ⟨ad', e, hb, hc⟩ := hrd hn
  injection e with e
  subst e
  have hsz : cur.size = n * 3 := by have := hcl.1; simpa using this
  have hone : ∀ v ∈ cs, v.oneCell' = true := by
    intro v hv
    obtain ⟨i, hi⟩ := List.mem_iff_getElem?.1 hv
    have hil : i < n * 3 := by
      rcases Nat.lt_or_ge i cs.length with h4 | h4
      · omega
      · rw [List.getElem?_eq_none h4] at hi; cases hi
    obtain ⟨s', A', k', c', B', m', d', q0, q1, q2, _⟩ := hrl.2 (i / 3) (by omega)
    have : i = i / 3 * 3 ∨ i = i / 3 * 3 + 1 ∨ i = i / 3 * 3 + 2 := by omega
    rcases this with h5 | h5 | h5
    · rw [← h5, hi] at q0; injection q0 with q0; rw [q0]; rfl
    · rw [← h5, hi] at q1; injection q1 with q1; rw [q1]; rfl
    · rw [← h5, hi] at q2; injection q2 with q2; rw [q2]; rfl
  refine wpList_plain hgd fun K hK => ?_
  have hrun := run_copy_rat (w := w) o.type hg hsz hcs hc hone (dc := dc) (sc := sc)
  unfold Oper.wp
  simp only [execOp, ho, resolve, invoke, builtin, Sem.run_bind, Sem.run_pure, Result.andThen_ok, List.map_toArray, List.map_cons, List.map_nil, hd, hs, hrun]
  refine hK _ _ (next _ ⟨by simp [World.setRow], fun p x hp => ?_⟩ ⟨rfl, rfl, rfl, by simp [World.setRow], fun k hk hne => setRow_other w g k _ (fun e => hne (by rw [e]))⟩ (by simp [World.setRow]) (fun R' hR => ⟨cs.toArray, setRow_heap w g cur _ _ _ hg, by simpa using hrl.mono (fun j v hj hv => hR j v hj hv)⟩))
  have hne : p.block ≠ g := by
    intro he
    have hh : w.heap[g]? = some (.cells cur 31 (0, 0)) := hg
    unfold World.cell? at hp
    rw [he, hh] at hp
    simp only at hp
    split at hp
    · cases hp
    · exact hcl.clean p.off x (by simpa using hp)
  have hblk : (w.setRow g cs.toArray).heap[p.block]? = w.heap[p.block]? := setRow_other w g p.block _ hne
  exact (World.cell?_of_block hblk).trans hp
end
/-- A new row of zeros. -/
def ZRet (n : Nat) (w : World) (e : Ending) (w' : World) : Prop := ∃ g, e = .returned (.slice (some ⟨g, 0, none⟩) n n) ∧ w.heap.size ≤ g ∧ RB w' g n (PN w' 2 (fun _ => 0)) ∧ Below w.heap.size w w'
set_option maxRecDepth 100000 in
set_option maxHeartbeats 4000000 in
theorem zeros_any (n : Nat) (hn : n ≤ 1000) (w : World) : Calls Try.prog 88 #[.int .i64 n] w (ZRet n w) := by
  have hmk := mk_rat n (by omega)
  have H0 := Lib.hid (show RB (w.alloc (.cells (zrow n) 31)) w.heap.size n (fun i v => i < 0 → Rv 2 0 v (w.alloc (.cells (zrow n) 31))) from rb_zrow w n _ (fun _ _ h => absurd h (by omega)))
  have HB := Lib.hid (al w (.cells (zrow n) 31))
  go_enter Try.func88, Try.ntmps88
  go_wp2_with fail
  clear hmk
  generalize w.alloc (.cells (zrow n) 31) = W0 at *
  go_loopw [9] (fun i wr => ∃ k : Nat, i = .int .i64 k ∧ k ≤ n ∧ Hid (RB wr w.heap.size n (fun i v => i < k → Rv 2 0 v wr) ∧ Below w.heap.size w wr)) (fun i _ => n - (intOf i).toNat)
  case atStart => exact ⟨0, rfl, Nat.zero_le _, Lib.hid ⟨H0.out, HB.out⟩⟩
  case round =>
    obtain ⟨k, rfl, hk, HI⟩ := hrel
    by_cases hkn : k < n
    · have i1 : (0 : Int) ≤ (k : Int) := by omega
      have i2 : (k : Int) < (n : Int) := by omega
      go_wp2_with fail
      refine (int_v 0 (by omega) (by omega) _).mono ?_
      rintro e w1 ⟨v, rfl, hv, hb⟩
      have HV := Lib.hid hv
      have HR := Lib.hid (HI.out.1.below hb (Q := fun i v => i < k → Rv 2 0 v w1) (fun j v _ h hj => (h hj).new hb))
      have HB1 := Lib.hid (bthen HI.out.2 hb HI.out.2.size)
      clear hb hv
      have hgl := HR.out.lt
      go_wp2_with (refine wpList_store_row (g := w.heap.size) (j := k) (b := 2) (x := 0) rfl rfl rfl rfl rfl HR.out hkn HV.out.rw ?_; intro w2 kp hg hsz hR)
      refine ⟨⟨k + 1, by go_num, by omega, Lib.hid ⟨hR _ (fun i u _ hne h hi => (h (by omega)).keepN kp) (fun _ => HV.out.keepN kp), ?_⟩⟩, by simp [intOf]; omega⟩
      exact HB1.out.grown hg HB1.out.size (fun x hx => by cases hx; omega)
    · obtain rfl : n = k := by omega
      go_wp2_with fail
      go_ret
      exact ⟨_, rfl, Nat.le_refl _, HI.out.1.mono fun j v hj h => h hj, HI.out.2⟩
end Go.Proofs.Ytpnklmgfdihjfaa
namespace Go.Proofs.Ytpnklmgfdihjfaa
open Go.RowKit
set_option linter.unusedVariables false
set_option linter.unusedSimpArgs false

theorem sign_zero {x : Rat} (h : x = 0) : (x.num.sign == 0) = true := by subst h; rfl
theorem sign_ne {x : Rat} (h : x ≠ 0) : (x.num.sign == 0) = false := by
  rw [beq_eq_false_iff_ne]
  intro h1
  exact h (Rat.num_eq_zero.1 (Int.sign_eq_zero_iff_zero.1 h1))
theorem bne_of {x : Int} {b : Bool} (h : (x == 0) = b) : (x != 0) = !b := by rw [bne, h]
theorem Bx.kept {b g0 g : Nat} {x : Rat} {w w' : World} (h : Bx b x g0 w) (hg : w.grownBy w' (some g)) (hne : g0 ≠ g) (kp : KeepsN w w') : Bx b x g0 w' := by
  obtain ⟨s, A, n, c, B, m, d, h1, N, M, h2, h3, h4⟩ := h
  exact ⟨s, A, n, c, B, m, d, Blk.grown h1 hg (fun e => hne (by injection e)), N, M, h2.keepN kp, h3.keepN kp, h4⟩
/-- A new row with the values f. -/
def RowRetQ (n b : Nat) (f : Nat → Rat) (w : World) (e : Ending) (w' : World) : Prop := ∃ g, e = .returned (.slice (some ⟨g, 0, none⟩) n n) ∧ w.heap.size ≤ g ∧ RB w' g n (PN w' b f) ∧ Below w.heap.size w w'
theorem Rv.more {b b' : Nat} {x : Rat} {v : Value} {w : World} (h : Rv b x v w) (hb : b ≤ b') : Rv b' x v w := by
  obtain ⟨s, A, n, c, B, m, d, e, q1, ⟨h2, q2⟩, h3, q3⟩ := h
  exact ⟨s, A, n, c, B, m, d, e, q1, ⟨h2.more hb, q2⟩, h3.more hb, q3⟩
set_option maxRecDepth 100000 in
set_option maxHeartbeats 8000000 in
theorem combined_any (N b bq : Nat) (ad1 ad2 : Addr) (c1 c2 : Nat) (f g : Nat → Rat) (q : Rat) (v : Value) (w : World) (h1 : Rs w w.heap.size (some ad1) N (PN w b f)) (h2 : Rs w w.heap.size (some ad2) N (PN w b g)) (hq : Rw bq q v w) (hN : 0 < N) (hN2 : N ≤ 1000) (hb : 2 * b + bq ≤ 4800) (hbq : 1 ≤ bq) :
    Calls Try.prog 92 #[.slice (some ad1) N c1, .slice (some ad2) N c2, v] w (RowRetQ N (b + (bq + b) + 1) (fun j => f j - q * g j) w) := by
  obtain ⟨s, A, k0, c0, B, m0, d0, rfl, hqr⟩ := hq
  have HI1 := Lib.hid h1; have HI2 := Lib.hid h2
  clear h1 h2
  have hmk := mk_rat N (by omega)
  have HX0 := Lib.hid (show Bx bq q w.heap.size (w.alloc (.cells #[.bool s, .slice A k0 c0, .slice B m0 d0] 31)) from ⟨s, A, k0, c0, B, m0, d0, Blk.new w _ _, hqr.new (al w _)⟩)
  have HB0 := Lib.hid (bthen (al w (.cells #[.bool s, .slice A k0 c0, .slice B m0 d0] 31)) (al _ (.cells (zrow N) 31)) (by simp))
  have HZ0 := Lib.hid (rb_zrow (w.alloc (.cells #[.bool s, .slice A k0 c0, .slice B m0 d0] 31)) N (fun _ _ => True) (fun _ _ => trivial))
  have HX1 := Lib.hid (HX0.out.new (al _ (.cells (zrow N) 31)))
  clear HX0 hqr
  go_enter Try.func92, Try.ntmps92
  go_upto_region 2 with (fail)
  clear hmk
  rw [World.size_alloc] at HZ0
  generalize hW : (w.alloc (.cells #[.bool s, .slice A k0 c0, .slice B m0 d0] 31)).alloc (.cells (zrow N) 31) = W0 at *
  clear hW
  have HS := Lib.hid (HI1.out.newN HB0.out)
  go_upto_region 3 with (refine wpList_copy_rat (g := w.heap.size + 1) (n := N) rfl rfl rfl rfl HZ0.out HS.out hN ?_; intro w2 kp hg hsz hR)
  have HX := Lib.hid (HX1.out.kept hg (by omega) kp)
  have HB := Lib.hid (HB0.out.grown hg HB0.out.size (fun x hx => by cases hx; omega))
  have HRB := Lib.hid (hR (fun i u => Rv b (f i) u w2) (fun i u _ h => Rv.keepN h kp))
  have HO := Lib.hid (HI2.out.newN HB.out)
  clear hR kp hg hsz HX1 HZ0 HI1
  by_cases hq0 : q = 0
  · have hs0 := sign_zero hq0
    refine wp_region_seq (kss := [[], [(0, 15)], [(1, 16)]]) [(5, .pointer (some ⟨w.heap.size, 0, none⟩))] [Rw (bq) (q), EV (.int .i64 ((q).num.sign)), EV (.bool true)] (by kernel_rfl) ⟨rfl, trivial⟩ ?_ ?_ ?_
    · exact ⟨fun _ _ _ h hb => h.new hb, eI, eI, trivial⟩
    · refine ⟨?_, ?_, ?_, trivial⟩
      · exact fun aa ww hb he hd => ob_plain rfl (load_bx rfl he.1 (Bx.new HX.out hb))
      · exact fun aa ww hb he hd => ob_plain rfl (gives_call1 _ _ _ rfl (by kernel_rfl) (sign_v (hd.1)))
      · exact fun aa ww hb he hd => ob_plain rfl (gives_eq_int ((q).num.sign) 0 .i64 _ _ _ _ rfl hd.1 rfl ⟨congrArg Value.bool (hs0), Below.refl _ _⟩)
    intro vs w3 hb hR
    have e17 : vs 2 = .bool true := hR 2 (by decide)
    clear hR
    simp only [putsL, Nat.zero_add, Nat.reduceAdd, List.take_succ_cons, List.take_zero, Act.put, List.setIfInBounds_toArray, List.set_cons_zero, List.set_cons_succ]
    rw [e17]
    clear e17
    go_wp2_with fail
    go_ret
    have hfq : (fun j => f j - q * g j) = f := by funext j; rw [hq0]; grind
    rw [hfq]
    exact ⟨_, rfl, by omega, HRB.out.below hb (fun j u _ h => (h.new hb).more (by omega)), bthen HB.out hb HB.out.size⟩
  · have hs0 := sign_ne hq0
    refine wp_region_seq (kss := [[], [(0, 15)], [(1, 16)]]) [(5, .pointer (some ⟨w.heap.size, 0, none⟩))] [Rw (bq) (q), EV (.int .i64 ((q).num.sign)), EV (.bool false)] (by kernel_rfl) ⟨rfl, trivial⟩ ?_ ?_ ?_
    · exact ⟨fun _ _ _ h hb => h.new hb, eI, eI, trivial⟩
    · refine ⟨?_, ?_, ?_, trivial⟩
      · exact fun aa ww hb he hd => ob_plain rfl (load_bx rfl he.1 (Bx.new HX.out hb))
      · exact fun aa ww hb he hd => ob_plain rfl (gives_call1 _ _ _ rfl (by kernel_rfl) (sign_v (hd.1)))
      · exact fun aa ww hb he hd => ob_plain rfl (gives_eq_int ((q).num.sign) 0 .i64 _ _ _ _ rfl hd.1 rfl ⟨congrArg Value.bool (hs0), Below.refl _ _⟩)
    intro vs w3 hb hR
    have e17 : vs 2 = .bool false := hR 2 (by decide)
    clear hR
    simp only [putsL, Nat.zero_add, Nat.reduceAdd, List.take_succ_cons, List.take_zero, Act.put, List.setIfInBounds_toArray, List.set_cons_zero, List.set_cons_succ]
    rw [e17]
    clear e17
    have HBQ := Lib.hid (bthen HB.out hb HB.out.size)
    have HXQ := Lib.hid (HX.out.new hb)
    have HRQ := Lib.hid (HRB.out.below hb (Q := fun i u => (i < 0 → Rv (b + (bq + b) + 1) (f i - q * g i) u w3) ∧ (0 ≤ i → Rv b (f i) u w3)) (fun i u _ h => ⟨fun h0 => absurd h0 (by omega), fun _ => h.new hb⟩))
    clear hb HB HX HO HRB hs0
    go_wp2_with fail
    go_loopw [21] (fun i wr => ∃ k : Nat, i = .int .i64 k ∧ k ≤ N ∧ Hid (RB wr (w.heap.size + 1) N (fun i u => (i < k → Rv (b + (bq + b) + 1) (f i - q * g i) u wr) ∧ (k ≤ i → Rv b (f i) u wr)) ∧ Bx bq q w.heap.size wr ∧ Below w.heap.size w wr)) (fun i _ => N - (intOf i).toNat)
    case atStart => exact ⟨0, rfl, Nat.zero_le _, Lib.hid ⟨HRQ.out, HXQ.out, HBQ.out⟩⟩
    case round =>
      obtain ⟨k, rfl, hk, HI⟩ := hrel
      by_cases hkn : k < N
      · have HO := Lib.hid (HI2.out.newN HI.out.2.2)
        have HX := Lib.hid HI.out.2.1
        have HB := Lib.hid HI.out.2.2
        have HR := Lib.hid HI.out.1
        clear HI
        by_cases hz : g k = 0
        · have hs1 : ((g k).num.sign != 0) = false := by rw [bne_of (sign_zero hz)]; rfl
          go_upto_region 8 with (fail)
          refine wp_region_seq (kss := [[], [], [(0, 24), (1, 25)], [(2, 26)], [(3, 27)], [(4, 28)]]) [(1, .slice (some ad2) N c2), (8, .int .i64 ((k : Int)))] [EV (.slice (some ad2) N c2), EV (.int .i64 ((k : Int))), EV (.pointer (some (Addr.add ad2 (k * 3)))), Rv (b) (g k), EV (.int .i64 ((g k).num.sign)), EV (.bool false)] (by kernel_rfl) ⟨rfl, rfl, trivial⟩ ?_ ?_ ?_
          · exact ⟨eI, eI, eI, fun _ _ _ h hb => h.new hb, eI, eI, trivial⟩
          · refine ⟨?_, ?_, ?_, ?_, ?_, ?_, trivial⟩
            · exact fun _ _ _ he hd => ob_mv rfl rfl he.1
            · exact fun _ _ _ he hd => ob_mv rfl rfl he.2.1
            · exact fun aa ww hb he hd => ob_plain rfl (idx_rs (by omega) rfl hd.1 hd.2.1)
            · exact fun aa ww hb he hd => ob_plain rfl (load_rn rfl hd.1 (Rs.newN HO.out hb) (by omega))
            · exact fun aa ww hb he hd => ob_plain rfl (gives_call1 _ _ _ rfl (by kernel_rfl) (sign_v (hd.1.rw)))
            · exact fun aa ww hb he hd => ob_plain rfl (gives_ne_int ((g k).num.sign) 0 .i64 _ _ _ _ rfl hd.1 rfl ⟨congrArg Value.bool (hs1), Below.refl _ _⟩)
          intro vs w3 hb hR
          have e29 : vs 5 = .bool false := hR 5 (by decide)
          clear hR
          simp only [putsL, Nat.zero_add, Nat.reduceAdd, List.take_succ_cons, List.take_zero, Act.put, List.setIfInBounds_toArray, List.set_cons_zero, List.set_cons_succ]
          rw [e29]
          clear e29
          go_wp2_with fail
          refine ⟨⟨k + 1, by go_num, by omega, Lib.hid ⟨HR.out.below hb (fun i u _ h => ⟨fun hi => ?_, fun hi => (h.2 (by omega)).new hb⟩), HX.out.new hb, bthen HB.out hb HB.out.size⟩⟩, by simp [intOf]; omega⟩
          by_cases hik : i = k
          · subst hik
            have e : f i - q * g i = f i := by rw [hz]; grind
            rw [e]; exact ((h.2 (Nat.le_refl _)).more (by omega)).new hb
          · exact (h.1 (by omega)).new hb
        · have hs1 : ((g k).num.sign != 0) = true := by rw [bne_of (sign_ne hz)]; rfl
          go_upto_region 8 with (fail)
          refine wp_region_seq (kss := [[], [], [(0, 24), (1, 25)], [(2, 26)], [(3, 27)], [(4, 28)]]) [(1, .slice (some ad2) N c2), (8, .int .i64 ((k : Int)))] [EV (.slice (some ad2) N c2), EV (.int .i64 ((k : Int))), EV (.pointer (some (Addr.add ad2 (k * 3)))), Rv (b) (g k), EV (.int .i64 ((g k).num.sign)), EV (.bool true)] (by kernel_rfl) ⟨rfl, rfl, trivial⟩ ?_ ?_ ?_
          · exact ⟨eI, eI, eI, fun _ _ _ h hb => h.new hb, eI, eI, trivial⟩
          · refine ⟨?_, ?_, ?_, ?_, ?_, ?_, trivial⟩
            · exact fun _ _ _ he hd => ob_mv rfl rfl he.1
            · exact fun _ _ _ he hd => ob_mv rfl rfl he.2.1
            · exact fun aa ww hb he hd => ob_plain rfl (idx_rs (by omega) rfl hd.1 hd.2.1)
            · exact fun aa ww hb he hd => ob_plain rfl (load_rn rfl hd.1 (Rs.newN HO.out hb) (by omega))
            · exact fun aa ww hb he hd => ob_plain rfl (gives_call1 _ _ _ rfl (by kernel_rfl) (sign_v (hd.1.rw)))
            · exact fun aa ww hb he hd => ob_plain rfl (gives_ne_int ((g k).num.sign) 0 .i64 _ _ _ _ rfl hd.1 rfl ⟨congrArg Value.bool (hs1), Below.refl _ _⟩)
          intro vs w3 hb hR
          have e29 : vs 5 = .bool true := hR 5 (by decide)
          clear hR
          simp only [putsL, Nat.zero_add, Nat.reduceAdd, List.take_succ_cons, List.take_zero, Act.put, List.setIfInBounds_toArray, List.set_cons_zero, List.set_cons_succ]
          rw [e29]
          clear e29
          go_upto_region 9 with (fail)
          replace HO := Lib.hid (HO.out.newN hb); replace HX := Lib.hid (HX.out.new hb); replace HB := Lib.hid (bthen HB.out hb HB.out.size)
          have HR3 := Lib.hid (HR.out.below hb (Q := fun i u => (i < k → Rv (b + (bq + b) + 1) (f i - q * g i) u w3) ∧ (k ≤ i → Rv b (f i) u w3)) (fun i u _ h => ⟨fun hi => (h.1 hi).new hb, fun hi => (h.2 hi).new hb⟩))
          clear hb HR
          have HRW := Lib.hid (fun (ww : World) (hb : Below w3.heap.size w3 ww) => HR3.out.below hb (Q := fun i u => (i < k → Rv (b + (bq + b) + 1) (f i - q * g i) u ww) ∧ (k ≤ i → Rv b (f i) u ww)) (fun i u _ h => ⟨fun hi => (h.1 hi).new hb, fun hi => (h.2 hi).new hb⟩))
          have HE := Lib.hid (fun (ww : World) (hb : Below w3.heap.size w3 ww) => (Rs.of_rb (HRW.out ww hb)).mono (Q := fun i v => i = k → Rv b (f k) v ww) (fun j v _ h hj => by subst hj; exact h.2 (Nat.le_refl _)))
          refine wp_region_join (kss := [[], [], [], [], [(2, 32), (3, 33)], [(4, 34)], [], [], [], [(7, 37), (8, 38)], [(9, 39)], [(6, 36), (10, 40)], [(5, 35), (11, 41)], [(0, 30), (1, 31)]]) [(7, .slice (some (⟨w.heap.size + 1, 0, none⟩)) N N), (8, .int .i64 ((k : Int))), (5, .pointer (some ⟨w.heap.size, 0, none⟩)), (1, .slice (some ad2) N c2)] [EV (.slice (some (⟨w.heap.size + 1, 0, none⟩)) N N), EV (.int .i64 ((k : Int))), EV (.slice (some (⟨w.heap.size + 1, 0, none⟩)) N N), EV (.int .i64 ((k : Int))), EV (.pointer (some (Addr.add (⟨w.heap.size + 1, 0, none⟩) (k * 3)))), Rv (b) (f k), Rw (bq) (q), EV (.slice (some ad2) N c2), EV (.int .i64 ((k : Int))), EV (.pointer (some (Addr.add ad2 (k * 3)))), Rv (b) (g k), Rv (bq + b) (q * (g k)), Rv (b + (bq + b) + 1) ((f k) - (q * (g k))), EV (.pointer (some (Addr.add (⟨w.heap.size + 1, 0, none⟩) (k * 3))))] 14 [] (by kernel_rfl) (by kernel_rfl) ⟨rfl, rfl, rfl, rfl, trivial⟩ [false, false, false, false, false, false, false, false, false, false, false, false, false, false] ?_ ?_ ?_ ?_
          · exact fun i hi => absurd hi (by simp)
          · exact ⟨eI, eI, eI, eI, eI, fun _ _ _ h hb => h.new hb, fun _ _ _ h hb => h.new hb, eI, eI, eI, fun _ _ _ h hb => h.new hb, fun _ _ _ h hb => h.new hb, fun _ _ _ h hb => h.new hb, eI, trivial⟩
          · refine ⟨?_, ?_, ?_, ?_, ?_, ?_, ?_, ?_, ?_, ?_, ?_, ?_, ?_, ?_, trivial⟩
            · exact fun _ _ _ he hd => ob_mv rfl rfl he.1
            · exact fun _ _ _ he hd => ob_mv rfl rfl he.2.1
            · exact fun _ _ _ he hd => ob_mv rfl rfl he.1
            · exact fun _ _ _ he hd => ob_mv rfl rfl he.2.1
            · exact fun aa ww hb he hd => ob_plain rfl (idx_rs (by omega) rfl hd.1 hd.2.1)
            · exact fun aa ww hb he hd => ob_plain rfl (load_rp rfl hd.1 (HE.out _ hb) (by omega) (fun _ h => h rfl))
            · exact fun aa ww hb he hd => ob_plain rfl (load_bx rfl he.2.2.1 (Bx.new HX.out hb))
            · exact fun _ _ _ he hd => ob_mv rfl rfl he.2.2.2.1
            · exact fun _ _ _ he hd => ob_mv rfl rfl he.2.1
            · exact fun aa ww hb he hd => ob_plain rfl (idx_rs (by omega) rfl hd.1 hd.2.1)
            · exact fun aa ww hb he hd => ob_plain rfl (load_rn rfl hd.1 (Rs.newN HO.out hb) (by omega))
            · exact fun aa ww hb he hd => ob_plain rfl (gives_call2 _ _ _ _ rfl (by kernel_rfl) (mul_v (hd.1) (hd.2.1.rw) (by omega)))
            · exact fun aa ww hb he hd => ob_plain rfl (gives_call2 _ _ _ _ rfl (by kernel_rfl) (sub_v (hd.1.rw) (hd.2.1.rw) (by omega)))
            · exact fun aa ww hb he hd => ob_plain rfl (idx_rs (by omega) rfl hd.1 hd.2.1)
          intro vs w4 hb hR _
          have e43 : vs 13 = .pointer (some (Addr.add (⟨w.heap.size + 1, 0, none⟩) (k * 3))) := hR 13 (by decide)
          have r42 : Rv (b + (bq + b) + 1) ((f k) - (q * (g k))) (vs 12) w4 := hR 12 (by decide)
          clear hR
          simp only [putsL, Nat.zero_add, Nat.reduceAdd, List.take_succ_cons, List.take_zero, Act.put, List.setIfInBounds_toArray, List.set_cons_zero, List.set_cons_succ]
          rw [e43]
          clear e43
          show wpAny _ _ _ _ 1 _ _ _
          refine wpAny_next (i := 14) (by kernel_rfl) rfl rfl (store_row (v := vs 12) (g := w.heap.size + 1) (j := k) (b := b + (bq + b) + 1) (x := f k - q * g k) rfl rfl rfl rfl (HRW.out _ hb) hkn r42.rw ?_)
          intro w5 kp hg hsz hR
          refine wpAny_end (by kernel_rfl) (calm_normal ?_) _
          go_wp2_with fail
          have HB4 := Lib.hid (bthen HB.out hb HB.out.size)
          refine ⟨⟨k + 1, by go_num, by omega, Lib.hid ⟨hR _ (fun i u hi hne h => ⟨fun h1 => (h.1 (by omega)).keepN kp, fun h1 => (h.2 (by omega)).keepN kp⟩) ⟨fun _ => r42.keepN kp, fun h1 => absurd h1 (by omega)⟩, (HX.out.new hb).kept hg (by omega) kp, ?_⟩⟩, by simp [intOf]; omega⟩
          exact HB4.out.grown hg HB4.out.size (fun x hx => by cases hx; omega)
      · obtain rfl : N = k := by omega
        go_wp2_with fail
        go_ret
        exact ⟨_, rfl, by omega, HI.out.1.mono fun j v hj h => h.1 hj, HI.out.2.2⟩
end Go.Proofs.Ytpnklmgfdihjfaa
namespace Go.Proofs.Ytpnklmgfdihjfaa
set_option linter.unusedVariables false

/-- The sum of the first n values. -/
def sm (f : Nat → Rat) : Nat → Rat
  | 0 => 0
  | n + 1 => sm f n + f n
theorem sm_congr {f g : Nat → Rat} : ∀ {n : Nat}, (∀ i, i < n → f i = g i) → sm f n = sm g n
  | 0, _ => rfl
  | n + 1, h => by rw [sm, sm, sm_congr (fun i hi => h i (by omega)), h n (by omega)]
theorem sm_zero {f : Nat → Rat} : ∀ {n : Nat}, (∀ i, i < n → f i = 0) → sm f n = 0
  | 0, _ => rfl
  | n + 1, h => by rw [sm, sm_zero (fun i hi => h i (by omega)), h n (by omega)]; grind
theorem sm_add (f g : Nat → Rat) : ∀ n, sm (fun i => f i + g i) n = sm f n + sm g n
  | 0 => by simp only [sm]; grind
  | n + 1 => by simp only [sm]; rw [sm_add f g n]; grind
theorem sm_mul (a : Rat) (f : Nat → Rat) : ∀ n, sm (fun i => a * f i) n = a * sm f n
  | 0 => by simp [sm]
  | n + 1 => by simp only [sm]; rw [sm_mul a f n]; grind
theorem sm_sub (f g : Nat → Rat) (n : Nat) : sm (fun i => f i - g i) n = sm f n - sm g n := by
  have h1 := sm_add f (fun i => (-1) * g i) n
  rw [sm_mul] at h1
  rw [sm_congr (g := fun i => f i + (-1) * g i) (fun i _ => by grind), h1]; grind
theorem sm_one {f : Nat → Rat} {k : Nat} : ∀ {n : Nat}, k < n → (∀ i, i < n → i ≠ k → f i = 0) → sm f n = f k
  | 0, h, _ => by omega
  | n + 1, h, hz => by
    rw [sm]
    by_cases hk : k = n
    · subst hk
      rw [sm_zero (fun i hi => hz i (by omega) (by omega))]; grind
    · rw [sm_one (by omega) (fun i hi hne => hz i (by omega) hne), hz n (by omega) (Ne.symm hk)]; grind
theorem sm_swap (f : Nat → Nat → Rat) (m : Nat) : ∀ n, sm (fun i => sm (f i) m) n = sm (fun j => sm (fun i => f i j) n) m
  | 0 => by rw [sm, sm_zero]; intro i _; rfl
  | n + 1 => by
    rw [sm, sm_swap f m n, ← sm_add]
    exact sm_congr fun j _ => rfl
theorem sm_nonneg {f : Nat → Rat} : ∀ {n : Nat}, (∀ i, i < n → 0 ≤ f i) → 0 ≤ sm f n
  | 0, _ => by simp [sm]
  | n + 1, h => by
    rw [sm]
    have h1 := sm_nonneg (f := f) (n := n) (fun i hi => h i (by omega))
    have h2 := h n (by omega)
    grind
theorem sm_pos {f : Nat → Rat} : ∀ {n : Nat}, 0 < sm f n → ∃ i, i < n ∧ 0 < f i
  | 0, h => by simp [sm] at h
  | n + 1, h => by
    rw [sm] at h
    by_cases h1 : 0 < f n
    · exact ⟨n, by omega, h1⟩
    · obtain ⟨i, hi, h2⟩ := sm_pos (f := f) (n := n) (by grind)
      exact ⟨i, by omega, h2⟩
theorem sm_le {f g : Nat → Rat} {n : Nat} (h : ∀ i, i < n → f i ≤ g i) : sm f n ≤ sm g n := by
  have h1 := sm_nonneg (f := fun i => g i - f i) (n := n) (fun i hi => by have := h i hi; grind)
  rw [sm_sub] at h1
  grind

/-- A tableau: the rows, the reduced costs, the basic column of each row. -/
structure Tab where
  T : Nat → Nat → Rat
  G : Nat → Rat
  b : Nat → Nat
/-- Column k becomes the basic one of row r. -/
def Tab.piv (S : Tab) (r k : Nat) : Tab :=
  ⟨fun i j => if i = r then S.T r j / S.T r k else S.T i j - S.T i k * (S.T r j / S.T r k), fun j => S.G j - S.G k * (S.T r j / S.T r k), fun i => if i = r then k else S.b i⟩
/-- m rows, the right side in column R: the basic columns are unit columns. -/
structure Canon (m R : Nat) (S : Tab) : Prop where
  lt : ∀ i, i < m → S.b i < R
  unit : ∀ i l, i < m → l < m → S.T i (S.b l) = if i = l then 1 else 0
  goal : ∀ i, i < m → S.G (S.b i) = 0
section
variable {m R : Nat} {S S' S0 : Tab}
theorem Canon.inj (h : Canon m R S) {i l : Nat} (hi : i < m) (hl : l < m) (he : S.b i = S.b l) : i = l := by
  have h1 := h.unit i l hi hl
  have h2 := h.unit i i hi hi
  rw [← he, h2, if_pos rfl] at h1
  by_cases hil : i = l
  · exact hil
  · rw [if_neg hil] at h1; grind
theorem Canon.piv (h : Canon m R S) {r k : Nat} (hr : r < m) (hk : k < R) (hne : S.T r k ≠ 0) : Canon m R (S.piv r k) := by
  refine ⟨fun i hi => ?_, fun i l hi hl => ?_, fun i hi => ?_⟩
  · show (if i = r then k else S.b i) < R
    split
    · exact hk
    · exact h.lt i hi
  · show (if i = r then S.T r (if l = r then k else S.b l) / S.T r k else S.T i (if l = r then k else S.b l) - S.T i k * (S.T r (if l = r then k else S.b l) / S.T r k)) = if i = l then 1 else 0
    by_cases hlr : l = r
    · subst hlr
      rw [if_pos rfl]
      by_cases hil : i = l
      · rw [if_pos hil, if_pos hil]; grind
      · rw [if_neg hil, if_neg hil]; grind
    · rw [if_neg hlr]
      have h1 := h.unit r l hr hl
      rw [if_neg (Ne.symm hlr)] at h1
      by_cases hir : i = r
      · rw [if_pos hir, h1, if_neg (by rw [hir]; exact Ne.symm hlr)]; grind
      · rw [if_neg hir, h1, h.unit i l hi hl]; grind
  · show S.G (if i = r then k else S.b i) - S.G k * (S.T r (if i = r then k else S.b i) / S.T r k) = 0
    by_cases hir : i = r
    · rw [if_pos hir]; grind
    · rw [if_neg hir, h.goal i hi, h.unit r i hr hi, if_neg (Ne.symm hir)]; grind
/-- The rows of one are combinations of the rows of the other, and the reduced costs differ by a combination of rows. -/
structure Eqv (m R : Nat) (S S' : Tab) : Prop where
  row : ∃ L : Nat → Nat → Rat, ∀ i, i < m → ∀ j, j ≤ R → S'.T i j = sm (fun l => L i l * S.T l j) m
  goal : ∃ y : Nat → Rat, ∀ j, j ≤ R → S'.G j = S.G j + sm (fun l => y l * S.T l j) m
theorem Eqv.refl (m R : Nat) (S : Tab) : Eqv m R S S := by
  refine ⟨⟨fun i l => if i = l then 1 else 0, fun i hi j hj => ?_⟩, ⟨fun _ => 0, fun j hj => ?_⟩⟩
  · rw [sm_one hi (fun l hl hne => by dsimp only; rw [if_neg (Ne.symm hne)]; grind)]; dsimp only; rw [if_pos rfl]; grind
  · rw [sm_zero (fun l hl => by grind)]; grind
theorem Eqv.trans (h : Eqv m R S0 S) (h' : Eqv m R S S') : Eqv m R S0 S' := by
  obtain ⟨⟨L, hL⟩, ⟨y, hy⟩⟩ := h
  obtain ⟨⟨L', hL'⟩, ⟨y', hy'⟩⟩ := h'
  have key : ∀ (c : Nat → Rat) (j : Nat), j ≤ R → sm (fun l => c l * S.T l j) m = sm (fun q => sm (fun l => c l * L l q) m * S0.T q j) m := by
    intro c j hj
    rw [sm_congr (g := fun l => sm (fun q => c l * (L l q * S0.T q j)) m) (fun l hl => by rw [hL l hl j hj, sm_mul]), sm_swap]
    refine sm_congr fun q _ => ?_
    rw [sm_congr (g := fun l => S0.T q j * (c l * L l q)) (fun l _ => by grind), sm_mul]; grind
  refine ⟨⟨fun i q => sm (fun l => L' i l * L l q) m, fun i hi j hj => ?_⟩, ⟨fun q => y q + sm (fun l => y' l * L l q) m, fun j hj => ?_⟩⟩
  · rw [hL' i hi j hj]; exact key (L' i) j hj
  · rw [hy' j hj, hy j hj, key y' j hj, sm_congr (f := fun l => (y l + sm (fun q => y' q * L q l) m) * S0.T l j) (g := fun l => y l * S0.T l j + sm (fun q => y' q * L q l) m * S0.T l j) (fun l _ => by grind), sm_add]; grind
theorem Eqv.piv (h : Canon m R S) {r k : Nat} (hr : r < m) (hk : k < R) (hne : S.T r k ≠ 0) : Eqv m R S (S.piv r k) ∧ Eqv m R (S.piv r k) S := by
  constructor
  · refine ⟨⟨fun i l => if i = r then (if l = r then 1 / S.T r k else 0) else (if l = i then 1 else 0) + (if l = r then - (S.T i k / S.T r k) else 0), fun i hi j hj => ?_⟩, ⟨fun l => if l = r then - (S.G k / S.T r k) else 0, fun j hj => ?_⟩⟩
    · show (if i = r then S.T r j / S.T r k else S.T i j - S.T i k * (S.T r j / S.T r k)) = _
      by_cases hir : i = r
      · rw [if_pos hir, sm_one hr (fun l hl hlr => by (try dsimp only); rw [if_pos hir, if_neg hlr]; grind)]; (try dsimp only); rw [if_pos hir, if_pos rfl]; grind
      · rw [if_neg hir, sm_congr (g := fun l => (if l = i then 1 else 0) * S.T l j + (if l = r then - (S.T i k / S.T r k) else 0) * S.T l j) (fun l _ => by (try dsimp only); rw [if_neg hir]; grind), sm_add,
          sm_one (k := i) hi (fun l hl hli => by (try dsimp only); rw [if_neg hli]; grind), sm_one (k := r) hr (fun l hl hlr => by (try dsimp only); rw [if_neg hlr]; grind)]; (try dsimp only); rw [if_pos rfl, if_pos rfl]; grind
    · show S.G j - S.G k * (S.T r j / S.T r k) = _
      rw [sm_one hr (fun l hl hlr => by (try dsimp only); rw [if_neg hlr]; grind)]; (try dsimp only); rw [if_pos rfl]; grind
  · have e1 : ∀ j, (S.piv r k).T r j = S.T r j / S.T r k := fun j => by show (if r = r then _ else _) = _; rw [if_pos rfl]
    have e2 : ∀ i j, i ≠ r → (S.piv r k).T i j = S.T i j - S.T i k * (S.T r j / S.T r k) := fun i j hi => by show (if i = r then _ else _) = _; rw [if_neg hi]
    refine ⟨⟨fun i l => (if l = i then (if i = r then 0 else 1) else 0) + (if l = r then S.T i k else 0), fun i hi j hj => ?_⟩, ⟨fun l => if l = r then S.G k else 0, fun j hj => ?_⟩⟩
    · rw [sm_congr (g := fun l => (if l = i then (if i = r then 0 else 1) else 0) * (S.piv r k).T l j + (if l = r then S.T i k else 0) * (S.piv r k).T l j) (fun l _ => by grind), sm_add,
        sm_one (k := i) hi (fun l hl hli => by (try dsimp only); rw [if_neg hli]; grind), sm_one (k := r) hr (fun l hl hlr => by (try dsimp only); rw [if_neg hlr]; grind)]; (try dsimp only); rw [if_pos rfl, if_pos rfl, e1]
      by_cases hir : i = r
      · rw [if_pos hir, hir]; grind
      · rw [if_neg hir, e2 i j hir]; grind
    · rw [sm_one hr (fun l hl hlr => by (try dsimp only); rw [if_neg hlr]; grind)]; (try dsimp only); rw [if_pos rfl, e1]
      show S.G j = S.G j - S.G k * (S.T r j / S.T r k) + S.G k * (S.T r j / S.T r k)
      grind
/-- Rows and reduced costs of one tableau, read off at the basic columns of another. -/
theorem Eqv.read (hc : Canon m R S) (h : Eqv m R S S') : (∀ i, i < m → ∀ j, j ≤ R → S'.T i j = sm (fun l => S'.T i (S.b l) * S.T l j) m) ∧ ∀ j, j ≤ R → S'.G j = S.G j + sm (fun l => S'.G (S.b l) * S.T l j) m := by
  obtain ⟨⟨L, hL⟩, ⟨y, hy⟩⟩ := h
  have key : ∀ (c : Nat → Rat) l, l < m → sm (fun q => c q * S.T q (S.b l)) m = c l := fun c l hl => by
    rw [sm_one hl (fun q hq hne => by rw [hc.unit q l hq hl, if_neg hne]; grind), hc.unit l l hl hl, if_pos rfl]; grind
  constructor
  · intro i hi j hj
    rw [hL i hi j hj]
    refine sm_congr fun l hl => ?_
    rw [hL i hi _ (Nat.le_of_lt (hc.lt l hl)), key (L i) l hl]
  · intro j hj
    rw [hy j hj]
    congr 1
    refine sm_congr fun l hl => ?_
    rw [hy _ (Nat.le_of_lt (hc.lt l hl)), hc.goal l hl, key y l hl]; grind
/-- The tableau is known from its basic columns. -/
theorem Eqv.same (hc : Canon m R S) (hc' : Canon m R S') (h : Eqv m R S S') (σ : Nat → Nat) (hσ : ∀ i, i < m → σ i < m ∧ S'.b i = S.b (σ i)) (hs : ∀ l, l < m → ∃ i, i < m ∧ S'.b i = S.b l) :
    (∀ i, i < m → ∀ j, j ≤ R → S'.T i j = S.T (σ i) j) ∧ ∀ j, j ≤ R → S'.G j = S.G j := by
  obtain ⟨h1, h2⟩ := h.read hc
  constructor
  · intro i hi j hj
    obtain ⟨s1, s2⟩ := hσ i hi
    rw [h1 i hi j hj, sm_one (k := σ i) s1 (fun l hl hne => ?_), ← s2, hc'.unit i i hi hi, if_pos rfl]
    · grind
    · obtain ⟨q, hq, he⟩ := hs l hl
      rw [← he, hc'.unit i q hi hq, if_neg (fun h => hne ?_)]
      · grind
      · subst h
        exact (hc.inj s1 hl (s2.symm.trans he)).symm
  · intro j hj
    rw [h2 j hj, sm_zero (fun l hl => ?_)]
    · grind
    · obtain ⟨q, hq, he⟩ := hs l hl
      rw [← he, hc'.goal q hq]; grind
end
end Go.Proofs.Ytpnklmgfdihjfaa
namespace Go.Proofs.Ytpnklmgfdihjfaa
set_option linter.unusedVariables false

theorem ratio_mul {a b q : Rat} (hb : 0 < b) (h : q ≤ a / b) : q * b ≤ a := by
  have h1 : 0 ≤ (a / b - q) * b := Rat.mul_nonneg (by grind) (by grind)
  have h2 : a / b * b = a := by grind
  grind
/-- One step of Bland's rule among the first columns: e enters, row r's basic column leaves. -/
structure Bl (m R cols : Nat) (S : Tab) (e r : Nat) : Prop where
  ce : e < cols
  neg : S.G e < 0
  first : ∀ j, j < e → 0 ≤ S.G j
  row : r < m
  pos : 0 < S.T r e
  least : ∀ i, i < m → 0 < S.T i e → S.T r R / S.T r e ≤ S.T i R / S.T i e ∧ (S.T i R / S.T i e ≤ S.T r R / S.T r e → S.b r ≤ S.b i)
def Feas (m R : Nat) (S : Tab) : Prop := ∀ i, i < m → 0 ≤ S.T i R
section
variable {m R cols e r : Nat} {S : Tab}
theorem piv_row (S : Tab) (r e j : Nat) : (S.piv r e).T r j = S.T r j / S.T r e := by show (if r = r then _ else _) = _; rw [if_pos rfl]
theorem piv_oth (S : Tab) {i r : Nat} (e j : Nat) (h : i ≠ r) : (S.piv r e).T i j = S.T i j - S.T i e * (S.T r j / S.T r e) := by show (if i = r then _ else _) = _; rw [if_neg h]
theorem piv_b (S : Tab) (r e : Nat) : (S.piv r e).b r = e := by show (if r = r then _ else _) = _; rw [if_pos rfl]
theorem piv_bo (S : Tab) {i r : Nat} (e : Nat) (h : i ≠ r) : (S.piv r e).b i = S.b i := by show (if i = r then _ else _) = _; rw [if_neg h]
theorem div_nonneg {a b : Rat} (ha : 0 ≤ a) (hb : 0 < b) : 0 ≤ a / b := by
  refine Classical.byContradiction fun h => ?_
  have h1 : 0 ≤ (-(a / b)) * b := Rat.mul_nonneg (by grind) (by grind)
  have h2 : a / b * b = a := by grind
  have h3 : a = 0 := by grind
  rw [h3] at h
  grind
theorem Bl.ratio (h : Bl m R cols S e r) (hf : Feas m R S) : 0 ≤ S.T r R / S.T r e := div_nonneg (hf r h.row) h.pos
theorem Bl.feas (h : Bl m R cols S e r) (hf : Feas m R S) : Feas m R (S.piv r e) := by
  intro i hi
  have hq := h.ratio hf
  by_cases hir : i = r
  · subst hir; rw [piv_row]; exact hq
  · rw [piv_oth S e R hir]
    have hi0 := hf i hi
    by_cases hp : 0 < S.T i e
    · have := ratio_mul hp (h.least i hi hp).1
      have e1 : S.T i e * (S.T r R / S.T r e) = S.T r R / S.T r e * S.T i e := by grind
      rw [e1]; grind
    · have h1 : 0 ≤ (- S.T i e) * (S.T r R / S.T r e) := Rat.mul_nonneg (by grind) hq
      grind
theorem Bl.up (h : Bl m R cols S e r) (hf : Feas m R S) : S.G R ≤ (S.piv r e).G R ∧ ((S.piv r e).G R ≤ S.G R → S.T r R = 0) := by
  have hq := h.ratio hf
  have hn := h.neg
  show S.G R ≤ S.G R - S.G e * (S.T r R / S.T r e) ∧ (S.G R - S.G e * (S.T r R / S.T r e) ≤ S.G R → _)
  have h1 : 0 ≤ (- S.G e) * (S.T r R / S.T r e) := Rat.mul_nonneg (by grind) hq
  refine ⟨by grind, fun h2 => ?_⟩
  have h3 : S.G e * (S.T r R / S.T r e) = 0 := by grind
  have h4 : S.T r R / S.T r e = 0 := by
    rcases Rat.mul_eq_zero.1 h3 with h5 | h5
    · grind
    · exact h5
  have h6 := h.pos
  have h7 : S.T r R = S.T r R / S.T r e * S.T r e := by grind
  rw [h7, h4]; grind
end
/-- A run of Bland's rule. -/
structure Bruns (m R cols : Nat) (S : Nat → Tab) (E Q : Nat → Nat) (K : Nat) : Prop where
  cr : cols ≤ R
  canon : Canon m R (S 0)
  feas : Feas m R (S 0)
  step : ∀ k, k < K → Bl m R cols (S k) (E k) (Q k)
  next : ∀ k, k < K → S (k + 1) = (S k).piv (Q k) (E k)
section
variable {m R cols K : Nat} {S : Nat → Tab} {E Q : Nat → Nat}
theorem Bruns.all (h : Bruns m R cols S E Q K) : ∀ k, k ≤ K → Canon m R (S k) ∧ Feas m R (S k)
  | 0, _ => ⟨h.canon, h.feas⟩
  | k + 1, hk => by
    obtain ⟨h1, h2⟩ := h.all k (by omega)
    have hs := h.step k (by omega)
    rw [h.next k (by omega)]
    exact ⟨h1.piv hs.row (by have := hs.ce; have := h.cr; omega) (by have := hs.pos; grind), hs.feas h2⟩
theorem Bruns.eqv (h : Bruns m R cols S E Q K) : ∀ d k, k + d ≤ K → Eqv m R (S k) (S (k + d)) ∧ Eqv m R (S (k + d)) (S k)
  | 0, k, _ => ⟨Eqv.refl _ _ _, Eqv.refl _ _ _⟩
  | d + 1, k, hk => by
    obtain ⟨h1, h2⟩ := h.eqv d k (by omega)
    have hs := h.step (k + d) (by omega)
    obtain ⟨h3, h4⟩ := Eqv.piv (h.all (k + d) (by omega)).1 hs.row (show E (k + d) < R by have := hs.ce; have := h.cr; omega) (by have := hs.pos; grind)
    rw [← Nat.add_assoc, h.next (k + d) (by omega)]
    exact ⟨h1.trans h3, h4.trans h2⟩
theorem Bruns.eqv2 (h : Bruns m R cols S E Q K) {u v : Nat} (hu : u ≤ K) (hv : v ≤ K) : Eqv m R (S u) (S v) := by
  rcases Nat.le_total u v with h1 | h1
  · have := (h.eqv (v - u) u (by omega)).1
    rwa [show u + (v - u) = v by omega] at this
  · have := (h.eqv (u - v) v (by omega)).2
    rwa [show v + (u - v) = u by omega] at this
theorem Bruns.goal_le (h : Bruns m R cols S E Q K) {u : Nat} : ∀ d, u + d ≤ K → (S u).G R ≤ (S (u + d)).G R
  | 0, _ => by simp
  | d + 1, hd => by
    have h1 := h.goal_le (u := u) d (by omega)
    have h2 := ((h.step (u + d) (by omega)).up (h.all (u + d) (by omega)).2).1
    rw [← h.next (u + d) (by omega)] at h2
    exact Rat.le_trans h1 h2
/-- x is basic. -/
def Bas (m : Nat) (S : Tab) (x : Nat) : Prop := ∃ i, i < m ∧ S.b i = x
/-- Between two states, one without and one with x: x enters. -/
theorem Bruns.enters (h : Bruns m R cols S E Q K) {x u : Nat} (hu : ¬ Bas m (S u) x) : ∀ d, u + d ≤ K → Bas m (S (u + d)) x → ∃ k, u ≤ k ∧ k < u + d ∧ E k = x
  | 0, _, hb => absurd hb hu
  | d + 1, hd, hb => by
    by_cases h1 : Bas m (S (u + d)) x
    · obtain ⟨k, h2, h3, h4⟩ := h.enters hu d (by omega) h1
      exact ⟨k, h2, by omega, h4⟩
    · refine ⟨u + d, by omega, by omega, ?_⟩
      obtain ⟨i, hi, he⟩ := hb
      rw [← Nat.add_assoc, h.next (u + d) (by omega)] at he
      by_cases hiq : i = Q (u + d)
      · rw [hiq, piv_b] at he; exact he
      · rw [piv_bo _ _ hiq] at he; exact absurd ⟨i, hi, he⟩ h1
theorem Bruns.leaves (h : Bruns m R cols S E Q K) {x u : Nat} (hu : Bas m (S u) x) : ∀ d, u + d ≤ K → ¬ Bas m (S (u + d)) x → ∃ k, u ≤ k ∧ k < u + d ∧ (S k).b (Q k) = x
  | 0, _, hb => absurd hu hb
  | d + 1, hd, hb => by
    by_cases h1 : Bas m (S (u + d)) x
    · refine ⟨u + d, by omega, by omega, ?_⟩
      obtain ⟨i, hi, he⟩ := h1
      by_cases hiq : i = Q (u + d)
      · rw [← hiq]; exact he
      · refine absurd ⟨i, hi, ?_⟩ hb
        rw [← Nat.add_assoc, h.next (u + d) (by omega), piv_bo _ _ hiq]; exact he
    · obtain ⟨k, h2, h3, h4⟩ := h.leaves hu d (by omega) h1
      exact ⟨k, h2, by omega, h4⟩
/-- A row whose basic column changes is pivoted on. -/
theorem Bruns.moved (h : Bruns m R cols S E Q K) {i u : Nat} : ∀ d, u + d ≤ K → (S u).b i ≠ (S (u + d)).b i → ∃ k, u ≤ k ∧ k < u + d ∧ Q k = i
  | 0, _, hb => absurd rfl hb
  | d + 1, hd, hb => by
    by_cases hq : Q (u + d) = i
    · exact ⟨u + d, by omega, by omega, hq⟩
    · rw [← Nat.add_assoc, h.next (u + d) (by omega), piv_bo _ _ (Ne.symm hq)] at hb
      obtain ⟨k, h2, h3, h4⟩ := h.moved d (by omega) hb
      exact ⟨k, h2, by omega, h4⟩
theorem max_at (E : Nat → Nat) {a : Nat} : ∀ d, 0 < d → ∃ q, a ≤ q ∧ q < a + d ∧ ∀ k, a ≤ k → k < a + d → E k ≤ E q
  | 0, h => by omega
  | 1, _ => ⟨a, by omega, by omega, fun k h1 h2 => by rw [show k = a by omega]; exact Nat.le_refl _⟩
  | d + 2, _ => by
    obtain ⟨q, h1, h2, h3⟩ := max_at E (a := a) (d + 1) (by omega)
    by_cases hc : E q ≤ E (a + (d + 1))
    · refine ⟨a + (d + 1), by omega, by omega, fun k k1 k2 => ?_⟩
      by_cases hk : k = a + (d + 1)
      · rw [hk]; exact Nat.le_refl _
      · exact Nat.le_trans (h3 k k1 (by omega)) hc
    · refine ⟨q, h1, by omega, fun k k1 k2 => ?_⟩
      by_cases hk : k = a + (d + 1)
      · rw [hk]; omega
      · exact h3 k k1 (by omega)
/-- No basis comes back. -/
theorem Bruns.no_cycle (h : Bruns m R cols S E Q K) {a c : Nat} (hac : a < c) (hc : c ≤ K) : ¬ ∀ i, i < m → (S a).b i = (S c).b i := by
  intro hb
  have hcr := h.cr
  obtain ⟨ca, fa⟩ := h.all a (by omega)
  obtain ⟨cc, fc⟩ := h.all c hc
  have hGR : (S c).G R = (S a).G R := (Eqv.same ca cc (h.eqv2 (by omega) hc) (fun i => i) (fun i hi => ⟨hi, (hb i hi).symm⟩) (fun l hl => ⟨l, hl, (hb l hl).symm⟩)).2 R (Nat.le_refl _)
  -- every pivot is degenerate
  have hz : ∀ k, a ≤ k → k < c → (S k).T (Q k) R = 0 := fun k k1 k2 => by
    have hu := (h.step k (by omega)).up (h.all k (by omega)).2
    refine hu.2 ?_
    have h1 := h.goal_le (u := a) (k - a) (by omega)
    rw [show a + (k - a) = k by omega] at h1
    have h2 := h.goal_le (u := k + 1) (c - (k + 1)) (by omega)
    rw [show k + 1 + (c - (k + 1)) = c by omega, hGR, h.next k (by omega)] at h2
    exact Rat.le_trans h2 h1
  -- the right side stays
  have hst : ∀ i, i < m → ∀ d, a + d ≤ c → (S (a + d)).T i R = (S a).T i R := fun i hi d => by
    induction d with
    | zero => intro _; rfl
    | succ d ih =>
      intro hd
      rw [← ih (by omega), ← Nat.add_assoc, h.next (a + d) (by omega)]
      by_cases hq : i = Q (a + d)
      · subst hq
        rw [piv_row, hz (a + d) (by omega) (by omega)]; grind
      · rw [piv_oth _ _ _ hq, hz (a + d) (by omega) (by omega)]; grind
  have hst2 : ∀ i, i < m → ∀ u v, a ≤ u → u ≤ c → a ≤ v → v ≤ c → (S u).T i R = (S v).T i R := fun i hi u v u1 u2 v1 v2 => by
    have e1 := hst i hi (u - a) (by omega)
    have e2 := hst i hi (v - a) (by omega)
    rw [show a + (u - a) = u by omega] at e1
    rw [show a + (v - a) = v by omega] at e2
    rw [e1, e2]
  have hmv : ∀ i, i < m → ∀ u v, a ≤ u → u ≤ c → a ≤ v → v ≤ c → (S u).b i ≠ (S v).b i → (S v).T i R = 0 := fun i hi u v u1 u2 v1 v2 hne => by
    have key : ∃ k, a ≤ k ∧ k < c ∧ Q k = i := by
      rcases Nat.le_total u v with h1 | h1
      · obtain ⟨k, k1, k2, k3⟩ := h.moved (i := i) (u := u) (v - u) (by omega) (by rw [show u + (v - u) = v by omega]; exact hne)
        exact ⟨k, by omega, by omega, k3⟩
      · obtain ⟨k, k1, k2, k3⟩ := h.moved (i := i) (u := v) (u - v) (by omega) (by rw [show v + (u - v) = u by omega]; exact Ne.symm hne)
        exact ⟨k, by omega, by omega, k3⟩
    obtain ⟨k, k1, k2, rfl⟩ := key
    rw [hst2 _ hi v k v1 v2 k1 (by omega)]; exact hz k k1 k2
  have hbac : ∀ x, Bas m (S a) x ↔ Bas m (S c) x := fun x => ⟨fun ⟨i, hi, he⟩ => ⟨i, hi, by rw [← hb i hi]; exact he⟩, fun ⟨i, hi, he⟩ => ⟨i, hi, by rw [hb i hi]; exact he⟩⟩
  have hent : ∀ x u v, a ≤ u → u ≤ c → a ≤ v → v ≤ c → ¬ Bas m (S u) x → Bas m (S v) x → ∃ k, a ≤ k ∧ k < c ∧ E k = x := fun x u v u1 u2 v1 v2 hu hv => by
    have fwd : ∀ u v, a ≤ u → u ≤ v → v ≤ c → ¬ Bas m (S u) x → Bas m (S v) x → ∃ k, a ≤ k ∧ k < c ∧ E k = x := fun u v u1 uv v2 hu hv => by
      obtain ⟨k, k1, k2, k3⟩ := h.enters hu (v - u) (by omega) (by rw [show u + (v - u) = v by omega]; exact hv)
      exact ⟨k, by omega, by omega, k3⟩
    rcases Nat.le_total u v with h1 | h1
    · exact fwd u v u1 h1 v2 hu hv
    · by_cases h2 : Bas m (S c) x
      · exact fwd u c u1 u2 (Nat.le_refl _) hu h2
      · exact fwd a v (Nat.le_refl _) v1 v2 (fun h3 => h2 ((hbac x).1 h3)) hv
  have hlea : ∀ x u v, a ≤ u → u ≤ c → a ≤ v → v ≤ c → ¬ Bas m (S u) x → Bas m (S v) x → ∃ k, a ≤ k ∧ k < c ∧ (S k).b (Q k) = x := fun x u v u1 u2 v1 v2 hu hv => by
    have fwd : ∀ v u, a ≤ v → v ≤ u → u ≤ c → ¬ Bas m (S u) x → Bas m (S v) x → ∃ k, a ≤ k ∧ k < c ∧ (S k).b (Q k) = x := fun v u v1 vu u2 hu hv => by
      obtain ⟨k, k1, k2, k3⟩ := h.leaves hv (u - v) (by omega) (by rw [show v + (u - v) = u by omega]; exact hu)
      exact ⟨k, by omega, by omega, k3⟩
    rcases Nat.le_total v u with h1 | h1
    · exact fwd v u v1 h1 u2 hu hv
    · by_cases h2 : Bas m (S c) x
      · exact fwd a u (Nat.le_refl _) u1 u2 hu ((hbac x).2 h2)
      · exact fwd v c v1 v2 (Nat.le_refl _) h2 hv
  have nb : ∀ k, k < K → ∀ x, (S k).G x ≠ 0 → ¬ Bas m (S k) x := fun k hk x hx ⟨i, hi, he⟩ => hx (by rw [← he]; exact (h.all k (by omega)).1.goal i hi)
  obtain ⟨q, q1, q2, hmax⟩ := max_at E (a := a) (c - a) (by omega)
  rw [show a + (c - a) = c by omega] at q2 hmax
  have sq := h.step q (by omega)
  obtain ⟨t, ht⟩ : ∃ t, t = E q := ⟨_, rfl⟩
  rw [← ht] at sq hmax
  have htn : ¬ Bas m (S q) t := nb q (by omega) t (by have := sq.neg; grind)
  have htb : Bas m (S (q + 1)) t := ⟨Q q, sq.row, by rw [h.next q (by omega), piv_b, ht]⟩
  obtain ⟨p, p1, p2, p3⟩ := hlea t q (q + 1) q1 (by omega) (by omega) (by omega) htn htb
  have sp := h.step p (by omega)
  obtain ⟨s, hs⟩ : ∃ s, s = E p := ⟨_, rfl⟩
  rw [← hs] at sp
  have cp := (h.all p (by omega)).1
  have cq := (h.all q (by omega)).1
  have hst' : s ≤ t := by rw [hs]; exact hmax p p1 (by omega)
  have hne : s ≠ t := fun he => by
    have h1 := cp.goal (Q p) sp.row
    rw [p3, ← he] at h1
    have := sp.neg; grind
  have hsR : s < R := by have := sp.ce; omega
  -- the reduced costs of q, in terms of those of p
  have hid := ((h.eqv2 (show p ≤ K by omega) (show q ≤ K by omega)).read cp).2 s (by omega)
  have h0 := sq.first s (by omega)
  obtain ⟨i, hi, hpos⟩ := sm_pos (f := fun l => (S q).G ((S p).b l) * (S p).T l s) (n := m) (by have := sp.neg; grind)
  obtain ⟨x, hx⟩ : ∃ x, x = (S p).b i := ⟨_, rfl⟩
  rw [← hx] at hpos
  have hGx : (S q).G x ≠ 0 := fun h1 => by rw [h1] at hpos; grind
  have hxn := nb q (by omega) x hGx
  obtain ⟨k, k1, k2, k3⟩ := hent x q p q1 (by omega) p1 (by omega) hxn ⟨i, hi, hx.symm⟩
  have hxt : x ≤ t := by rw [← k3]; exact hmax k k1 k2
  have hxne : x ≠ t := fun he => by
    have hir : i = Q p := cp.inj hi sp.row (by rw [p3, ← he, hx])
    have h1 := sp.pos
    rw [← hir] at h1
    have h2 := sq.neg
    rw [← he] at h2
    have h3 : 0 ≤ (-(S q).G x) * (S p).T i s := Rat.mul_nonneg (by grind) (by grind)
    grind
  have hxG := sq.first x (by omega)
  have hTp : 0 < (S p).T i s := by
    refine Classical.byContradiction fun h1 => ?_
    have h3 : 0 ≤ (S q).G x * (-(S p).T i s) := Rat.mul_nonneg hxG (by grind)
    grind
  have hiR : (S p).T i R = 0 := hmv i hi q p q1 (by omega) p1 (by omega) (fun he => hxn ⟨i, hi, by rw [he, hx]⟩)
  have hle := (sp.least i hi hTp).2 (by rw [hiR, hz p p1 p2]; grind)
  rw [p3, ← hx] at hle
  omega
end

theorem nodup_le' : ∀ (n : Nat) (l : List Nat), l.Nodup → (∀ x ∈ l, x < n) → l.length ≤ n := by
  intro n
  induction n with
  | zero =>
    intro l _ h
    cases l with
    | nil => simp
    | cons x l => have := h x (by simp); omega
  | succ n ih =>
    intro l hd h
    have h1 := ih (l.erase n) (hd.erase n) (fun x hx => by
      have h2 := (hd.mem_erase_iff).1 hx
      have := h x h2.2; have := h2.1; omega)
    rw [List.length_erase] at h1
    split at h1 <;> omega
/-- A basis as a number. -/
def code (R : Nat) (b : Nat → Nat) : Nat → Nat
  | 0 => 0
  | m + 1 => code R b m * R + b m
theorem code_lt {R : Nat} {b : Nat → Nat} : ∀ {m : Nat}, (∀ i, i < m → b i < R) → code R b m < R ^ m
  | 0, _ => by simp [code]
  | m + 1, h => by
    have h1 := code_lt (m := m) (fun i hi => h i (by omega))
    have h2 := h m (by omega)
    rw [code, Nat.pow_succ]
    have : (code R b m + 1) * R ≤ R ^ m * R := Nat.mul_le_mul_right _ h1
    rw [Nat.add_mul] at this; omega
theorem code_inj {R : Nat} {b b' : Nat → Nat} : ∀ {m : Nat}, (∀ i, i < m → b i < R) → (∀ i, i < m → b' i < R) → code R b m = code R b' m → ∀ i, i < m → b i = b' i
  | 0, _, _, _ => by intro i hi; omega
  | m + 1, h, h', he => by
    have h1 := h m (by omega)
    have h2 := h' m (by omega)
    rw [code, code] at he
    have hR : 0 < R := by omega
    have e1 := congrArg (· / R) he
    have e2 := congrArg (· % R) he
    simp only [Nat.mul_add_mod_self_right, Nat.mod_eq_of_lt h1, Nat.mod_eq_of_lt h2] at e2
    rw [Nat.mul_comm (code R b m), Nat.mul_comm (code R b' m)] at e1
    simp only [Nat.mul_add_div hR, Nat.div_eq_of_lt h1, Nat.div_eq_of_lt h2, Nat.add_zero] at e1
    intro i hi
    by_cases him : i = m
    · rw [him]; exact e2
    · exact code_inj (fun i hi => h i (by omega)) (fun i hi => h' i (by omega)) e1 i (by omega)
/-- A run has fewer steps than there are bases. -/
theorem Bruns.short {m R cols K : Nat} {S : Nat → Tab} {E Q : Nat → Nat} (h : Bruns m R cols S E Q K) : K < R ^ m := by
  have hlt : ∀ k, k ≤ K → ∀ i, i < m → (S k).b i < R := fun k hk => (h.all k hk).1.lt
  have hnd : ((List.range (K + 1)).map fun k => code R (S k).b m).Nodup := by
    rw [List.Nodup, List.pairwise_map]
    refine List.Pairwise.imp_of_mem ?_ List.pairwise_lt_range
    intro a c ha hc hac he
    rw [List.mem_range] at ha hc
    exact h.no_cycle hac (by omega) (code_inj (hlt a (by omega)) (hlt c (by omega)) he)
  have := nodup_le' (R ^ m) _ hnd (fun x hx => by
    rw [List.mem_map] at hx
    obtain ⟨k, hk, rfl⟩ := hx
    rw [List.mem_range] at hk
    exact code_lt (hlt k (by omega)))
  rw [List.length_map, List.length_range] at this
  omega
end Go.Proofs.Ytpnklmgfdihjfaa
namespace Go.Proofs.Ytpnklmgfdihjfaa
set_option linter.unusedVariables false

/-- Rows and reduced costs are quotients of integers up to H. -/
structure Hgt (m R : Nat) (S : Tab) (H : Nat) : Prop where
  row : ∃ v : Nat → Nat → Int, ∀ i, i < m → v i (S.b i) ≠ 0 ∧ ∀ j, j ≤ R → (v i j).natAbs ≤ H ∧ S.T i j * ((v i (S.b i) : Int) : Rat) = ((v i j : Int) : Rat)
  goal : ∃ (γ : Nat → Int) (d : Int), d ≠ 0 ∧ d.natAbs ≤ H ∧ ∀ j, j ≤ R → (γ j).natAbs ≤ H ∧ S.G j * ((d : Int) : Rat) = ((γ j : Int) : Rat)
theorem natAbs_two {a b c d : Int} {H : Nat} (ha : a.natAbs ≤ H) (hb : b.natAbs ≤ H) (hc : c.natAbs ≤ H) (hd : d.natAbs ≤ H) : (a * b - c * d).natAbs ≤ 2 * (H * H) := by
  have h1 : (a * b).natAbs ≤ H * H := by rw [Int.natAbs_mul]; exact Nat.mul_le_mul ha hb
  have h2 : (c * d).natAbs ≤ H * H := by rw [Int.natAbs_mul]; exact Nat.mul_le_mul hc hd
  omega
theorem intCast_ne {d : Int} (h : d ≠ 0) : ((d : Int) : Rat) ≠ 0 := fun h0 => h (by exact_mod_cast h0)
section
variable {m R : Nat} {S S' : Tab} {H : Nat}
theorem Hgt.pos (h : Hgt m R S H) : 1 ≤ H := by
  obtain ⟨γ, d, h1, h2, _⟩ := h.goal
  omega
theorem Hgt.piv (h : Hgt m R S H) (hc : Canon m R S) {r k : Nat} (hr : r < m) (hk : k < R) (hne : S.T r k ≠ 0) : Hgt m R (S.piv r k) (2 * (H * H)) := by
  have hH := h.pos
  obtain ⟨v, hv⟩ := h.row
  obtain ⟨γ, d, hd, hdH, hγ⟩ := h.goal
  obtain ⟨r1, r2⟩ := hv r hr
  have hle : ∀ x : Nat, x ≤ H → x ≤ 2 * (H * H) := fun x hx => by
    have := Nat.mul_le_mul_right H hH; omega
  have r1' := intCast_ne r1
  have hrk := (r2 k (by omega)).2
  have hvk : v r k ≠ 0 := fun h0 => by
    rw [h0] at hrk
    rcases Rat.mul_eq_zero.1 (hrk.trans (by simp)) with h1 | h1
    · exact hne h1
    · exact r1' h1
  have hvk' := intCast_ne hvk
  have hq : ∀ j, j ≤ R → S.T r j / S.T r k * ((v r k : Int) : Rat) = ((v r j : Int) : Rat) := fun j hj => by
    have h1 := (r2 j hj).2
    rw [← hrk, ← h1]; grind
  constructor
  · refine ⟨fun i j => if i = r then v r j else v i j * v r k - v i k * v r j, fun i hi => ?_⟩
    by_cases hir : i = r
    · subst hir
      simp only [if_pos, piv_b]
      refine ⟨hvk, fun j hj => ⟨hle _ (r2 j hj).1, ?_⟩⟩
      rw [piv_row]; exact hq j hj
    · simp only [if_neg hir, piv_bo S k hir]
      obtain ⟨i1, i2⟩ := hv i hi
      have h0 : v r (S.b i) = 0 := by
        have h1 := (r2 _ (Nat.le_of_lt (hc.lt i hi))).2
        rw [hc.unit r i hr hi, if_neg (Ne.symm hir)] at h1
        have h2 : ((v r (S.b i) : Int) : Rat) = 0 := by rw [← h1]; grind
        exact_mod_cast h2
      rw [h0, Int.mul_zero, Int.sub_zero]
      refine ⟨Int.mul_ne_zero i1 hvk, fun j hj => ⟨natAbs_two (i2 j hj).1 (r2 k (by omega)).1 (i2 k (by omega)).1 (r2 j hj).1, ?_⟩⟩
      rw [piv_oth S k j hir, Rat.intCast_mul, Rat.intCast_sub, Rat.intCast_mul, Rat.intCast_mul]
      have h1 := (i2 j hj).2
      have h2 := (i2 k (by omega)).2
      have h3 := hq j hj
      rw [← h1, ← h2, ← h3]; grind
  · refine ⟨fun j => γ j * v r k - γ k * v r j, d * v r k, Int.mul_ne_zero hd hvk, ?_, fun j hj => ⟨natAbs_two (hγ j hj).1 (r2 k (by omega)).1 (hγ k (by omega)).1 (r2 j hj).1, ?_⟩⟩
    · rw [Int.natAbs_mul]
      have := Nat.mul_le_mul hdH (r2 k (by omega)).1
      omega
    · show (S.G j - S.G k * (S.T r j / S.T r k)) * _ = _
      rw [Rat.intCast_mul, Rat.intCast_sub, Rat.intCast_mul, Rat.intCast_mul]
      have h1 := (hγ j hj).2
      have h2 := (hγ k (by omega)).2
      have h3 := hq j hj
      rw [← h1, ← h2, ← h3]; grind
theorem Hgt.more (h : Hgt m R S H) {H' : Nat} (hH : H ≤ H') : Hgt m R S H' := by
  obtain ⟨v, hv⟩ := h.row
  obtain ⟨γ, d, hd, hdH, hγ⟩ := h.goal
  exact ⟨⟨v, fun i hi => ⟨(hv i hi).1, fun j hj => ⟨Nat.le_trans ((hv i hi).2 j hj).1 hH, ((hv i hi).2 j hj).2⟩⟩⟩, γ, d, hd, by omega, fun j hj => ⟨Nat.le_trans (hγ j hj).1 hH, (hγ j hj).2⟩⟩
end
/-- Heights after c pivots. -/
def hs : Nat → Nat → Nat
  | 0, H => H
  | c + 1, H => hs c (2 * (H * H))
theorem hs_mono : ∀ (c : Nat) {H H' : Nat}, H ≤ H' → hs c H ≤ hs c H'
  | 0, _, _, h => h
  | c + 1, _, _, h => hs_mono c (Nat.mul_le_mul_left 2 (Nat.mul_le_mul h h))
theorem hs_grow : ∀ (c : Nat) {H : Nat}, 1 ≤ H → H ≤ hs c H
  | 0, _, _ => Nat.le_refl _
  | c + 1, H, h => by
    have h1 : H ≤ 2 * (H * H) := by have := Nat.mul_le_mul_right H h; omega
    exact Nat.le_trans h1 (hs_grow c (by omega))
theorem hs_more {c c' H : Nat} (h : c ≤ c') (hH : 1 ≤ H) : hs c H ≤ hs c' H := by
  induction h generalizing H with
  | refl => exact Nat.le_refl _
  | @step n _ ih =>
    have h1 : H ≤ 2 * (H * H) := by have := Nat.mul_le_mul_right H hH; omega
    exact Nat.le_trans (ih hH) (hs_mono n h1)
theorem inj_surj {m : Nat} {σ : Nat → Nat} (hσ : ∀ i, i < m → σ i < m) (hinj : ∀ i l, i < m → l < m → σ i = σ l → i = l) : ∀ l, l < m → ∃ i, i < m ∧ σ i = l := by
  intro l hl
  refine Classical.byContradiction fun hno => ?_
  have hnd : (l :: (List.range m).map σ).Nodup := by
    rw [List.nodup_cons]
    refine ⟨fun hm => ?_, ?_⟩
    · rw [List.mem_map] at hm
      obtain ⟨i, hi, he⟩ := hm
      exact hno ⟨i, List.mem_range.1 hi, he⟩
    · rw [List.Nodup, List.pairwise_map]
      refine List.Pairwise.imp_of_mem ?_ List.pairwise_lt_range
      intro a c ha hc hac he
      rw [List.mem_range] at ha hc
      have := hinj a c ha hc he; omega
  have := nodup_le' m _ hnd (fun x hx => by
    rw [List.mem_cons, List.mem_map] at hx
    rcases hx with rfl | ⟨i, hi, rfl⟩
    · exact hl
    · exact hσ i (List.mem_range.1 hi))
  rw [List.length_cons, List.length_map, List.length_range] at this
  omega
theorem countP_less {α : Type} (p q : α → Bool) : ∀ l : List α, (∀ x ∈ l, p x = true → q x = true) → (∃ x ∈ l, p x = false ∧ q x = true) → l.countP p < l.countP q := by
  intro l
  induction l with
  | nil => rintro _ ⟨x, hx, _⟩; simp at hx
  | cons y l ih =>
    rintro h ⟨x, hx, hp, hq⟩
    have hle : l.countP p ≤ l.countP q := List.countP_mono_left (fun x hx => h x (by simp [hx]))
    rw [List.countP_cons, List.countP_cons]
    rcases List.mem_cons.1 hx with rfl | hx
    · rw [hp, hq]; simp; omega
    · have := ih (fun x hx => h x (by simp [hx])) ⟨x, hx, hp, hq⟩
      have hy := h y (by simp)
      cases hpy : p y with
      | true => rw [hy hpy]; simp; omega
      | false => cases q y <;> simp <;> omega
/-- How many of the basic columns of the one are not basic in the other. -/
def miss (m : Nat) (b b' : Nat → Nat) : Nat := (List.range m).countP fun i => !((List.range m).any fun l => b l == b' i)
theorem miss_le (m : Nat) (b b' : Nat → Nat) : miss m b b' ≤ m := by
  have := List.countP_le_length (p := fun i => !((List.range m).any fun l => b l == b' i)) (l := List.range m)
  rwa [List.length_range] at this
theorem any_bas {m : Nat} {S : Tab} {x : Nat} : ((List.range m).any fun l => S.b l == x) = true ↔ Bas m S x := by
  rw [List.any_eq_true]
  constructor
  · rintro ⟨l, h1, h2⟩; exact ⟨l, List.mem_range.1 h1, by simpa using h2⟩
  · rintro ⟨l, h1, h2⟩; exact ⟨l, List.mem_range.2 h1, by simpa using h2⟩
theorem steinitz {m R : Nat} {F : Tab} (cF : Canon m R F) : ∀ (c : Nat) {S : Tab} {H : Nat}, Canon m R S → Eqv m R S F → Eqv m R F S → Hgt m R S H → miss m S.b F.b ≤ c → Hgt m R F (hs c H) := by
  intro c
  induction c with
  | zero =>
    intro S H cS e1 e2 hH hm
    have hall : ∀ i, i < m → Bas m S (F.b i) := fun i hi => by
      have h0 : miss m S.b F.b = 0 := by omega
      rw [miss, List.countP_eq_zero] at h0
      have := h0 i (List.mem_range.2 hi)
      rw [Bool.not_eq_true, Bool.not_eq_false'] at this
      exact any_bas.1 this
    obtain ⟨σ, hσ⟩ : ∃ σ : Nat → Nat, ∀ i, i < m → σ i < m ∧ F.b i = S.b (σ i) := by
      refine ⟨fun i => if h : i < m then Classical.choose (hall i h) else 0, fun i hi => ?_⟩
      simp only [dif_pos hi]
      have := Classical.choose_spec (hall i hi)
      exact ⟨this.1, this.2.symm⟩
    have hsj := inj_surj (fun i hi => (hσ i hi).1) (fun i l hi hl he => cF.inj hi hl (by rw [(hσ i hi).2, (hσ l hl).2, he]))
    obtain ⟨h1, h2⟩ := Eqv.same cS cF e1 σ hσ (fun l hl => by
      obtain ⟨i, hi, he⟩ := hsj l hl
      exact ⟨i, hi, by rw [(hσ i hi).2, he]⟩)
    obtain ⟨v, hv⟩ := hH.row
    obtain ⟨γ, d, hd, hdH, hγ⟩ := hH.goal
    refine ⟨⟨fun i j => v (σ i) j, fun i hi => ?_⟩, γ, d, hd, hdH, fun j hj => ⟨(hγ j hj).1, by rw [h2 j hj]; exact (hγ j hj).2⟩⟩
    obtain ⟨s1, s2⟩ := hσ i hi
    obtain ⟨k1, k2⟩ := hv (σ i) s1
    dsimp only
    rw [s2]
    exact ⟨k1, fun j hj => ⟨(k2 j hj).1, by rw [h1 i hi j hj]; exact (k2 j hj).2⟩⟩
  | succ c ih =>
    intro S H cS e1 e2 hH hm
    by_cases hm' : miss m S.b F.b ≤ c
    · exact (ih cS e1 e2 hH hm').more (hs_more (Nat.le_succ c) hH.pos)
    · have hpos : 0 < miss m S.b F.b := by omega
      rw [miss, List.countP_pos_iff] at hpos
      obtain ⟨i0, hi0, hb0⟩ := hpos
      rw [List.mem_range] at hi0
      rw [Bool.not_eq_true'] at hb0
      have hn0 : ¬ Bas m S (F.b i0) := fun h => by rw [any_bas.2 h] at hb0; cases hb0
      have hkR := cF.lt i0 hi0
      obtain ⟨r, hr, hrk, hrb⟩ : ∃ r, r < m ∧ S.T r (F.b i0) ≠ 0 ∧ ¬ Bas m F (S.b r) := by
        refine Classical.byContradiction fun hno => ?_
        have h1 := (e1.read cS).1 i0 hi0 (F.b i0) (Nat.le_of_lt hkR)
        rw [cF.unit i0 i0 hi0 hi0, if_pos rfl, sm_zero (fun l hl => ?_)] at h1
        · grind
        · by_cases hz : S.T l (F.b i0) = 0
          · rw [hz]; grind
          · have hbl : Bas m F (S.b l) := Classical.byContradiction fun h2 => hno ⟨l, hl, hz, h2⟩
            obtain ⟨q, hq, he⟩ := hbl
            rw [← he, cF.unit i0 q hi0 hq, if_neg (fun h2 => hn0 ⟨l, hl, by rw [← he, h2]⟩)]; grind
      obtain ⟨p1, p2⟩ := Eqv.piv cS hr hkR hrk
      have cP := cS.piv hr hkR hrk
      refine ih cP (p2.trans e1) (e2.trans p1) (hH.piv cS hr hkR hrk) ?_
      have hlt : miss m (S.piv r (F.b i0)).b F.b < miss m S.b F.b := by
        refine countP_less _ _ _ (fun i hi hp => ?_) ⟨i0, List.mem_range.2 hi0, ?_, ?_⟩
        · rw [Bool.not_eq_true'] at hp ⊢
          rw [← Bool.not_eq_true] at hp ⊢
          intro h1
          refine hp (any_bas.2 ?_)
          obtain ⟨l, hl, he⟩ := any_bas.1 h1
          have hlr : l ≠ r := by
            rintro rfl
            exact hrb ⟨i, List.mem_range.1 hi, he.symm⟩
          exact ⟨l, hl, by rw [piv_bo S _ hlr]; exact he⟩
        · rw [Bool.not_eq_false']
          exact any_bas.2 ⟨r, hr, piv_b S r _⟩
        · rw [Bool.not_eq_true']; exact hb0
      omega
/-- A number of height H. -/
def Small (H : Nat) (x : Rat) : Prop := x.num.natAbs ≤ H ∧ x.den ≤ H
theorem small_of {x : Rat} {a d : Int} {H : Nat} (hd : d ≠ 0) (ha : a.natAbs ≤ H) (hdH : d.natAbs ≤ H) (h : x * ((d : Int) : Rat) = ((a : Int) : Rat)) : Small H x := by
  have hd' := intCast_ne hd
  have e : x = ((a : Int) : Rat) / ((d : Int) : Rat) := by rw [← h]; grind
  have h1 := frac_le a d hd
  rw [← e] at h1
  exact ⟨Nat.le_trans h1.1 ha, Nat.le_trans h1.2 hdH⟩
theorem Hgt.small {m R : Nat} {S : Tab} {H : Nat} (h : Hgt m R S H) (hc : Canon m R S) : (∀ i, i < m → ∀ j, j ≤ R → Small H (S.T i j)) ∧ ∀ j, j ≤ R → Small H (S.G j) := by
  obtain ⟨v, hv⟩ := h.row
  obtain ⟨γ, d, hd, hdH, hγ⟩ := h.goal
  exact ⟨fun i hi j hj => small_of (hv i hi).1 ((hv i hi).2 j hj).1 ((hv i hi).2 _ (Nat.le_of_lt (hc.lt i hi))).1 ((hv i hi).2 j hj).2, fun j hj => small_of hd (hγ j hj).1 hdH (hγ j hj).2⟩
end Go.Proofs.Ytpnklmgfdihjfaa
