/-
What a make of a row of numbers or bools comes to, over this seat's tables.
Contracts of law26.Few and slices.Clone.
The reduction of a hypergraph, plainly: which step comes next, and runs of steps.
Contracts of hypergraph.absorb and hypergraph.isolate.
Contract of hypergraph.Reduce.
-/
import Derived.Test.YtjofdlafblpclaaDoorK1
import Derived.Deep.LoopGhost
namespace Go.Proofs.YtjofdlafblpclaaDoor
open Go.RowKit
theorem info_bool : (Tryd.prog.info? 4).map (fun i => (i.zero, i.size, i.bytes)) = some (some (.bool false), 1, 1) := by kernel_rfl
theorem info_u32 : (Tryd.prog.info? 42).map (fun i => (i.zero, i.size, i.bytes)) = some (some (.int .u32 0), 1, 4) := by kernel_rfl
theorem info_int : (Tryd.prog.info? 3).map (fun i => (i.zero, i.size, i.bytes)) = some (some (.int .i64 0), 1, 8) := by kernel_rfl
theorem mk_bool (n : Nat) (hn : n ≤ 1000000) (W : World) : (Instr.makeSlice 74 (.int .i64 (n : Int)) (.int .i64 (n : Int))).run Tryd.prog W = .ok (.slice (some ⟨W.heap.size, 0, none⟩) n n) (W.alloc (.cells (brow (List.replicate n false)) 4)) := by
  obtain ⟨i, hi, hz, hs, hb⟩ := info_parts info_bool
  have h := run_make_rowN (P := Tryd.prog) 74 4 i (.bool false) Tryd.underlying74 hi hz .i64 .i64 n n (Nat.le_refl _) (by rw [hb]; omega) (by omega) W
  rw [hs, Nat.mul_one] at h
  rw [h, ← brow_make]; rfl
theorem mk_u32 (n : Nat) (hn : n ≤ 1000000) (W : World) : (Instr.makeSlice 22 (.int .i64 (n : Int)) (.int .i64 (n : Int))).run Tryd.prog W = .ok (.slice (some ⟨W.heap.size, 0, none⟩) n n) (W.alloc (.cells (urow (List.replicate n 0)) 42)) := by
  obtain ⟨i, hi, hz, hs, hb⟩ := info_parts info_u32
  have h := run_make_rowN (P := Tryd.prog) 22 42 i (.int .u32 0) Tryd.underlying22 hi hz .i64 .i64 n n (Nat.le_refl _) (by rw [hb]; omega) (by omega) W
  rw [hs, Nat.mul_one] at h
  rw [h, ← urow_make]; rfl
theorem mk_int (n : Nat) (hn : n ≤ 1000000) (W : World) : (Instr.makeSlice 33 (.int .i64 (n : Int)) (.int .i64 (n : Int))).run Tryd.prog W = .ok (.slice (some ⟨W.heap.size, 0, none⟩) n n) (W.alloc (.cells (irow (List.replicate n 0)) 3)) := by
  obtain ⟨i, hi, hz, hs, hb⟩ := info_parts info_int
  have h := run_make_rowN (P := Tryd.prog) 33 3 i (.int .i64 0) Tryd.underlying33 hi hz .i64 .i64 n n (Nat.le_refl _) (by rw [hb]; omega) (by omega) W
  rw [hs, Nat.mul_one] at h
  rw [h, ← irow_make]; rfl

section
variable {ops : Array Oper} {rest : List Oper} {o : Oper} {a : Act} {w : World} {Q : Exit → Act → World → Prop}
/-- append(v, y): one number onto a row of the call's own. -/
theorem app_u32 (hgd : o.guard = none) (s x : Operand) (ho : o.op = .call { callee := .builtin .append, args := #[s, x], argTypes := #[22, 22] })
    (base : Nat) (v : Value) (k : Nat) (L : List Nat) (hs : a.eval s = v) (hown : w.ownsRow base 42 1 v k (U32 L)) (g y : Nat) (hx : a.eval x = .slice (some ⟨g, 0, none⟩) 1 1) (hb : Blk w g 42 #[.int .u32 (y : Int)])
    (hk : k ≤ 1000000) (hbase : base ≤ w.heap.size)
    (h : ∀ v' w', w'.ownsRow base 42 1 v' (k + 1) (U32 (L ++ [y])) → w.grownBy w' v.ownBlock → (v'.ownBlock = v.ownBlock ∨ v'.ownBlock = some w.heap.size) → wpList Tryd.prog ops Q rest (a.put o.dst v') w') : wpList Tryd.prog ops Q (o :: rest) a w := by
  obtain ⟨i, hi, hz, hs1, hby⟩ := info_parts info_u32
  have hr : Reads w w.heap.size 1 (some ⟨g, 0, none⟩) 1 [.int .u32 (y : Int)] := ⟨rfl, fun _ => ⟨_, rfl, hb.lt, fun j u hu => by
    have e : (Addr.add ⟨g, 0, none⟩ j) = ⟨g, j, none⟩ := by unfold Addr.add; split <;> simp_all
    rw [e, hb.cell]; simpa using hu⟩⟩
  refine wpList_append_any w hgd s x 22 ho base 42 i _ 1 4 Tryd.underlying22 hi hz hs1 hby rfl (by omega) v k (U32 L) hs hown w.heap.size _ 1 1 _ hx hr (by simp; rfl) (by simp only [maxLen]; omega) (by omega) hbase ?_
  intro v' w' h1 h2 h3
  exact h v' w' (by simpa [U32] using h1) h2 h3
theorem app_int (hgd : o.guard = none) (s x : Operand) (ho : o.op = .call { callee := .builtin .append, args := #[s, x], argTypes := #[33, 33] })
    (base : Nat) (v : Value) (k : Nat) (L : List Int) (hs : a.eval s = v) (hown : w.ownsRow base 3 1 v k (I64 L)) (g : Nat) (y : Int) (hx : a.eval x = .slice (some ⟨g, 0, none⟩) 1 1) (hb : Blk w g 3 #[.int .i64 y])
    (hk : k ≤ 1000000) (hbase : base ≤ w.heap.size)
    (h : ∀ v' w', w'.ownsRow base 3 1 v' (k + 1) (I64 (L ++ [y])) → w.grownBy w' v.ownBlock → (v'.ownBlock = v.ownBlock ∨ v'.ownBlock = some w.heap.size) → wpList Tryd.prog ops Q rest (a.put o.dst v') w') : wpList Tryd.prog ops Q (o :: rest) a w := by
  obtain ⟨i, hi, hz, hs1, hby⟩ := info_parts info_int
  have hr : Reads w w.heap.size 1 (some ⟨g, 0, none⟩) 1 [.int .i64 y] := ⟨rfl, fun _ => ⟨_, rfl, hb.lt, fun j u hu => by
    have e : (Addr.add ⟨g, 0, none⟩ j) = ⟨g, j, none⟩ := by unfold Addr.add; split <;> simp_all
    rw [e, hb.cell]; simpa using hu⟩⟩
  refine wpList_append_any w hgd s x 33 ho base 3 i _ 1 8 Tryd.underlying33 hi hz hs1 hby rfl (by omega) v k (I64 L) hs hown w.heap.size _ 1 1 _ hx hr (by simp; rfl) (by simp only [maxLen]; omega) (by omega) hbase ?_
  intro v' w' h1 h2 h3
  exact h v' w' (by simpa [I64] using h1) h2 h3
end
end Go.Proofs.YtjofdlafblpclaaDoor
namespace Go.Proofs.YtjofdlafblpclaaDoor
open Go.RowKit

theorem own_lower {w : World} {base base' : Nat} {e : TypeId} {size n : Nat} {v : Value} {xs : List Value} (h : w.ownsRow base e size v n xs) (hb : base' ≤ base) : w.ownsRow base' e size v n xs := by
  refine ⟨h.1, ?_⟩
  rcases h.2 with h0 | ⟨g', cap, cur, rfl, h1, h2⟩
  · exact .inl h0
  · exact .inr ⟨g', cap, cur, rfl, Nat.le_trans hb h1, h2⟩
/-- A row keeps what it holds where only another row, of another element type, has grown. -/
theorem own_grown_own {w w' : World} {base base' : Nat} {e e' : TypeId} {size size' n n' : Nat} {v v' : Value} {xs xs' : List Value} (h : w.ownsRow base e size v n xs) (h' : w.ownsRow base' e' size' v' n' xs') (hne : e ≠ e') (hg : w.grownBy w' v'.ownBlock) : w'.ownsRow base e size v n xs := by
  refine ⟨h.1, ?_⟩
  rcases h.2 with h0 | ⟨g, cap, cur, rfl, h1, h2, h3⟩
  · exact .inl h0
  · refine .inr ⟨g, cap, cur, rfl, h1, ?_, h3⟩
    refine (hg.block g (Blk.lt' h2) ?_).trans h2
    rcases h'.2 with ⟨rfl, _⟩ | ⟨g', cap', cur', rfl, _, h2', _⟩
    · simp [Value.ownBlock]
    · simp only [Value.ownBlock]
      intro he
      injection he with he
      subst he
      rw [h2] at h2'
      injection h2' with h2'
      injection h2' with _ ht
      exact hne ht

def fewB (n : Int) (es : List Nat) : Bool := decide (0 ≤ n ∧ n ≤ 6 ∧ es.length ≤ 8 ∧ checkCode n es = 0)

theorem eq_nil (A : Option Addr) (n c : Nat) (w : World) : (binOp .eql 22 (.slice A n c) (.slice none 0 0)).run Tryd.prog w = .ok (.bool A.isNone) w := by
  simp only [binOp]
  simp [Op.equal, Op.maxDepth, Lib.run_equalIn_slice_nil w 9999 22 42 A n c 0 0 Tryd.underlying22]

set_option maxHeartbeats 1000000 in
theorem clone_u32 (A : Option Addr) (es : List Nat) (n c : Nat) (w : World) (hr : Es w w.heap.size A n es) (hn : n ≤ 1000000) :
    Calls Tryd.prog 31 #[.slice A n c] w fun e w' => ∃ A' c', e = .returned (.slice A' n c') ∧ w'.ownsRow w.heap.size 42 1 (.slice A' n c') n (U32 es) ∧ Below w.heap.size w w' := by
  have HR := Lib.hid hr; clear hr
  cases A with
  | none =>
    have h0 : n = 0 := by
      rcases Nat.eq_zero_or_pos n with h | h
      · exact h
      · obtain ⟨ad, he, _⟩ := HR.out.1.2 h
        cases he
    subst h0
    have HE := Lib.hid (show es = [] from List.eq_nil_of_length_eq_zero HR.out.len.symm)
    have hnil := eq_nil none 0 c
    go_enter Tryd.func31, Tryd.ntmps31
    go_wp2_with fail
    go_ret
    rw [HE.out]
    exact ⟨none, 0, rfl, own_nil _ _ _, Below.refl _ _⟩
  | some ad =>
    obtain ⟨i, hi, hz, hs1, hby⟩ := info_parts info_u32
    have hnil := eq_nil (some ad) n c
    go_enter Tryd.func31, Tryd.ntmps31
    go_wp2_with (at_builtin; refine wpList_append_any _ rfl _ _ 22 rfl w.heap.size 42 i _ 1 4 Tryd.underlying22 hi hz hs1 hby rfl (by omega) (.slice (some ⟨w.heap.size, 0, none⟩) 0 0) 0 [] rfl (own_empty w 42) w.heap.size (some ad) n c (U32 es) rfl (HR.out.1.alloc (Nat.le_refl _) _) (one_U32 es) (by simp only [maxLen]; omega) (by omega) (by simp) ?_; intro v' w1 hown' hgr hor; rw [Nat.zero_add, List.nil_append] at hown'; obtain ⟨A', c', rfl⟩ := own_form hown'; have HW := Lib.hid hown'; have HG := Lib.hid hgr; clear hown' hgr hor)
    go_ret
    exact ⟨A', c', rfl, HW.out, Below.appended (al _ _) (own_empty w 42) HG.out (by simp) (Nat.le_refl _)⟩

end Go.Proofs.YtjofdlafblpclaaDoor
namespace Go.Proofs.YtjofdlafblpclaaDoor

def bget (l : List Bool) (k : Nat) : Bool := l.getD k false
/-- Edge e is removed into edge f. -/
def absorbs (r : List Nat) (g : List Bool) (e f : Nat) : Bool := decide (e ≠ f) && (!bget g e && (!bget g f && decide (andn (nth r e) (nth r f) = 0)))
/-- The first pair of edges of which one is removed into the other. -/
def AbsSpec (r : List Nat) (g : List Bool) : Option (Nat × Nat) → Prop
  | none => ∀ e f, e < r.length → f < r.length → absorbs r g e f = false
  | some (e, f) => e < r.length ∧ f < r.length ∧ absorbs r g e f = true ∧ (∀ e' f', e' < e → f' < r.length → absorbs r g e' f' = false) ∧ ∀ f', f' < f → absorbs r g e f' = false
/-- In how many edges a vertex is. -/
def occ (r : List Nat) (v : Nat) : Nat := r.countP fun e => e.testBit v
/-- The first vertex that is in one edge only, and that edge. -/
def IsoSpec (n : Nat) (r : List Nat) : Option (Nat × Nat) → Prop
  | none => ∀ v, v < n → occ r v ≠ 1
  | some (e, v) => v < n ∧ e < r.length ∧ (nth r e).testBit v = true ∧ occ r v = 1 ∧ ∀ v', v' < v → occ r v' ≠ 1
theorem AbsSpec.unique {r : List Nat} {g : List Bool} : ∀ {o o' : Option (Nat × Nat)}, AbsSpec r g o → AbsSpec r g o' → o = o'
  | none, none, _, _ => rfl
  | none, some (e, f), h, h' => by have h3 := h'.2.2.1; rw [h e f h'.1 h'.2.1] at h3; cases h3
  | some (e, f), none, h, h' => by have h3 := h.2.2.1; rw [h' e f h.1 h.2.1] at h3; cases h3
  | some (e, f), some (e', f'), h, h' => by
    obtain ⟨h1, h2, h3, h4, h5⟩ := h
    obtain ⟨k1, k2, k3, k4, k5⟩ := h'
    have he : e = e' := by
      rcases Nat.lt_trichotomy e e' with hlt | rfl | hlt
      · rw [k4 e f hlt h2] at h3; cases h3
      · rfl
      · rw [h4 e' f' hlt k2] at k3; cases k3
    subst he
    have hf : f = f' := by
      rcases Nat.lt_trichotomy f f' with hlt | rfl | hlt
      · rw [k5 f hlt] at h3; cases h3
      · rfl
      · rw [h5 f' hlt] at k3; cases k3
    subst hf; rfl
theorem countP_one {r : List Nat} {p : Nat → Bool} : ∀ {e e' : Nat}, e < r.length → e' < r.length → p (nth r e) = true → p (nth r e') = true → r.countP p = 1 → e = e' := by
  induction r with
  | nil => intro e e' h; simp at h
  | cons x r ih =>
    intro e e' h h' hp hp' hc
    rw [List.countP_cons] at hc
    have key : ∀ k, k < r.length → p (nth r k) = true → 0 < r.countP p := fun k hk hpk => List.countP_pos_iff.2 ⟨_, nth_mem hk, hpk⟩
    match e, e' with
    | 0, 0 => rfl
    | 0, k + 1 =>
      have h1 : p x = true := hp
      have := key k (by simpa using h') hp'
      rw [h1, if_pos rfl] at hc; omega
    | k + 1, 0 =>
      have h1 : p x = true := hp'
      have := key k (by simpa using h) hp
      rw [h1, if_pos rfl] at hc; omega
    | k + 1, k' + 1 =>
      have hk := key k (by simpa using h) hp
      have : r.countP p = 1 := by omega
      rw [ih (by simpa using h) (by simpa using h') hp hp' this]
theorem IsoSpec.unique {n : Nat} {r : List Nat} : ∀ {o o' : Option (Nat × Nat)}, IsoSpec n r o → IsoSpec n r o' → o = o'
  | none, none, _, _ => rfl
  | none, some (e, v), h, h' => absurd h'.2.2.2.1 (h v h'.1)
  | some (e, v), none, h, h' => absurd h.2.2.2.1 (h' v h.1)
  | some (e, v), some (e', v'), h, h' => by
    obtain ⟨h1, h2, h3, h4, h5⟩ := h
    obtain ⟨k1, k2, k3, k4, k5⟩ := h'
    have hv : v = v' := by
      rcases Nat.lt_trichotomy v v' with hlt | rfl | hlt
      · exact absurd h4 (k5 v hlt)
      · rfl
      · exact absurd k4 (h5 v' hlt)
    subst hv
    rw [countP_one h2 k2 h3 k3 h4]

/-- Runs of the reduction: the steps (edge, into, vertex) and what is left. -/
inductive Run (n : Nat) (r0 : List Nat) (g0 : List Bool) : List (Int × Int × Int) → List Nat → List Bool → Prop
  | nil : Run n r0 g0 [] r0 g0
  | abs {l r g} {e f : Nat} : Run n r0 g0 l r g → AbsSpec r g (some (e, f)) → Run n r0 g0 (l ++ [((e : Int), (f : Int), -1)]) (r.set e 0) (g.set e true)
  | iso {l r g} {e v : Nat} : Run n r0 g0 l r g → AbsSpec r g none → IsoSpec n r (some (e, v)) → Run n r0 g0 (l ++ [((e : Int), -1, (v : Int))]) (r.set e (andn (nth r e) (2 ^ v))) g
theorem Run.lengths {n : Nat} {r0 r : List Nat} {g0 g : List Bool} {l : List (Int × Int × Int)} (h : Run n r0 g0 l r g) : r.length = r0.length ∧ g.length = g0.length := by
  induction h with
  | nil => exact ⟨rfl, rfl⟩
  | abs _ _ ih => simpa using ih
  | iso _ _ _ ih => simpa using ih

/-- What the reduction lowers with each step. -/
def bitsOf (n x : Nat) : Nat := (List.range n).countP fun v => x.testBit v
def meas (n : Nat) (r : List Nat) (g : List Bool) : Nat := g.countP (! ·) + (r.map (bitsOf n)).sum
theorem bitsOf_zero (n : Nat) : bitsOf n 0 = 0 := by simp [bitsOf]
theorem bitsOf_le (n x : Nat) : bitsOf n x ≤ n := by
  have := List.countP_le_length (p := fun v => x.testBit v) (l := List.range n)
  rw [List.length_range] at this
  exact this
theorem countP_lt_of {α : Type} (p q : α → Bool) : ∀ l : List α, (∀ x ∈ l, p x = true → q x = true) → (∃ x ∈ l, p x = false ∧ q x = true) → l.countP p < l.countP q := by
  intro l
  induction l with
  | nil => rintro _ ⟨x, hx, _⟩; simp at hx
  | cons y l ih =>
    rintro h ⟨x, hx, hp, hq⟩
    have hle : l.countP p ≤ l.countP q := List.countP_mono_left (fun x hx => h x (by simp [hx]))
    rw [List.countP_cons, List.countP_cons]
    rcases List.mem_cons.1 hx with rfl | hx
    · rw [hp, hq]; simp; omega
    · have := ih (fun x hx => h x (by simp [hx])) ⟨x, hx, hp, hq⟩
      have hy := h y (by simp)
      cases hpy : p y with
      | true => rw [hy hpy]; simp; omega
      | false => cases q y <;> simp <;> omega
theorem sum_set (f : Nat → Nat) : ∀ (r : List Nat) (e x : Nat), e < r.length → ((r.set e x).map f).sum + f (nth r e) = (r.map f).sum + f x := by
  intro r
  induction r with
  | nil => intro e x h; simp at h
  | cons y r ih =>
    intro e x h
    cases e with
    | zero => simp [nth]; omega
    | succ e =>
      have := ih e x (by simpa using h)
      simp only [List.set_cons_succ, List.map_cons, List.sum_cons]
      have h2 : nth (y :: r) (e + 1) = nth r e := by simp [nth]
      rw [h2]; omega
theorem countP_set_true : ∀ (g : List Bool) (e : Nat), e < g.length → bget g e = false → (g.set e true).countP (! ·) + 1 = g.countP (! ·) := by
  intro g
  induction g with
  | nil => intro e h; simp at h
  | cons b g ih =>
    intro e h hb
    cases e with
    | zero =>
      have : b = false := by simpa [bget] using hb
      subst this
      simp
    | succ e =>
      have := ih e (by simpa using h) (by simpa [bget] using hb)
      simp only [List.set_cons_succ, List.countP_cons]
      omega
theorem absorbs_parts {r : List Nat} {g : List Bool} {e f : Nat} (h : absorbs r g e f = true) : e ≠ f ∧ bget g e = false ∧ bget g f = false ∧ andn (nth r e) (nth r f) = 0 := by
  simp [absorbs] at h
  exact ⟨h.1, h.2.1, h.2.2.1, h.2.2.2⟩
theorem meas_abs {n : Nat} {r : List Nat} {g : List Bool} {e f : Nat} (hl : g.length = r.length) (h : AbsSpec r g (some (e, f))) : meas n (r.set e 0) (g.set e true) < meas n r g := by
  obtain ⟨h1, h2, h3, _, _⟩ := h
  have h4 := countP_set_true g e (by omega) (absorbs_parts h3).2.1
  have h5 := sum_set (bitsOf n) r e 0 h1
  rw [bitsOf_zero] at h5
  unfold meas
  omega
theorem meas_iso {n : Nat} (hn : n ≤ 32) {r : List Nat} {g : List Bool} {e v : Nat} (hr : ∀ x ∈ r, x < 2 ^ 32) (h : IsoSpec n r (some (e, v))) : meas n (r.set e (andn (nth r e) (2 ^ v))) g < meas n r g := by
  obtain ⟨h1, h2, h3, _, _⟩ := h
  have hx := hr _ (nth_mem h2)
  have h5 := sum_set (bitsOf n) r e (andn (nth r e) (2 ^ v)) h2
  have h6 : bitsOf n (andn (nth r e) (2 ^ v)) < bitsOf n (nth r e) := by
    apply countP_lt_of
    · intro u _ hu
      rw [testBit_andn (pow2_lt32 (by omega)) hx] at hu
      simp at hu
      exact hu.1
    · exact ⟨v, by simpa using h1, by rw [testBit_andn (pow2_lt32 (by omega)) hx]; simp [Nat.testBit_two_pow_self], h3⟩
  unfold meas
  omega
theorem meas_le {n : Nat} {r : List Nat} {g : List Bool} : meas n r g ≤ g.length + r.length * n := by
  have h1 : g.countP (! ·) ≤ g.length := List.countP_le_length
  have h2 : ∀ l : List Nat, (l.map (bitsOf n)).sum ≤ l.length * n := by
    intro l
    induction l with
    | nil => simp
    | cons x l ih =>
      have := bitsOf_le n x
      simp only [List.map_cons, List.sum_cons, List.length_cons, Nat.add_mul]
      omega
  have := h2 r
  unfold meas
  omega
end Go.Proofs.YtjofdlafblpclaaDoor
namespace Go.Proofs.YtjofdlafblpclaaDoor
open Go.RowKit

/-- The cells of a step. -/
def stepC (e f v : Int) : Array Value := #[.int .i64 e, .int .i64 f, .int .i64 v]
def absC : Option (Nat × Nat) → Array Value
  | none => stepC 0 0 0
  | some (e, f) => stepC e f (-1)
def isoC : Option (Nat × Nat) → Array Value
  | none => stepC 0 0 0
  | some (e, v) => stepC e (-1) v
def RetAbs (r : List Nat) (g : List Bool) (w : World) (e : Ending) (w' : World) : Prop := ∃ o, AbsSpec r g o ∧ e = .returned (.tuple #[.agg (absC o), .bool o.isSome]) ∧ Below w.heap.size w w'
def RetIso (n : Nat) (r : List Nat) (w : World) (e : Ending) (w' : World) : Prop := ∃ o, IsoSpec n r o ∧ e = .returned (.tuple #[.agg (isoC o), .bool o.isSome]) ∧ Below w.heap.size w w'
/-- A slice of bools: a block of the call's own, or none. -/
def Bs (w : World) (A : Option Addr) (len : Nat) (g : List Bool) : Prop := len = g.length ∧ ∃ b, A = some ⟨b, 0, none⟩ ∧ Blk w b 4 (brow g)
theorem bget_bnth (g : List Bool) (k : Nat) : bget g k = bnth g k := rfl

theorem results_step {P : Program} {fn : Func} {p t : Tmp} {ty : TypeId} (h : fn.results = #[.cell p ty, .tmp t]) (tmps : Array Value) (w : World) (g : Nat) (t' : TypeId) (cs : Array Value) (fr : Nat × Nat) (d : TypeDesc)
    (hp : tmps.getD p undef = .pointer (some ⟨g, 0, none⟩)) (hg : w.heap[g]? = some (.cells cs t' fr))
    (hu : P.underlying ty = some d) (hd : (match d with | .struct _ | .array _ _ => true | _ => false) = true) (hi : (P.info? ty).map (·.size) = some cs.size) :
    (results fn tmps).run P w = .ok (.tuple #[.agg cs, tmps.getD t undef]) w := by
  have hp' : tmps[p]?.getD undef = .pointer (some ⟨g, 0, none⟩) := by simpa using hp
  simp [results, h, hp', asAddr, run_loadVar_row w g t' ty cs fr d hg hu hd hi]
theorem step_size (a b c : Value) : (Tryd.prog.info? 76).map (·.size) = some (#[a, b, c] : Array Value).size := by kernel_rfl
theorem three_set {w : World} {g : Nat} {t : TypeId} {x y z : Int} (h : Blk w g t (stepC x y z)) (a b c : Int) : Blk (((w.setCell ⟨g, 0, none⟩ (.int .i64 a)).setCell ⟨g, 1, none⟩ (.int .i64 b)).setCell ⟨g, 2, none⟩ (.int .i64 c)) g t (stepC a b c) := ((h.set_ 0 _).set_ 1 _).set_ 2 _
theorem three_below {B : Nat} {a w : World} (h : Below B a w) {g : Nat} (hg : B ≤ g) (x y z : Value) : Below B a (((w.setCell ⟨g, 0, none⟩ x).setCell ⟨g, 1, none⟩ y).setCell ⟨g, 2, none⟩ z) :=
  ((h.setCell (p := ⟨g, 0, none⟩) hg x).setCell (p := ⟨g, 1, none⟩) hg y).setCell (p := ⟨g, 2, none⟩) hg z

set_option maxHeartbeats 2000000 in
theorem absorb_any (A : Option Addr) (r : List Nat) (len c : Nat) (gb cb : Nat) (g : List Bool) (w : World) (hr : Es w w.heap.size A len r) (hg : Blk w gb 4 (brow g)) (hl : g.length = r.length) :
    Calls Tryd.prog 47 #[.slice A len c, .slice (some ⟨gb, 0, none⟩) len cb] w (RetAbs r g w) := by
  have hle := hr.le
  have HLEN := Lib.hid hr.len
  have HR := Lib.hid hr; clear hr
  have HG := Lib.hid hg; clear hg
  have HGL := Lib.hid hl; clear hl
  go_enter Tryd.func47, Tryd.ntmps47
  go_wp2_with fail
  go_loopw [6, 7, 10, 15] (fun _ _ i _ wr => ∃ a : Nat, a ≤ len ∧ i = .int .i64 a ∧ Hid ((∀ e' f', e' < a → f' < r.length → absorbs r g e' f' = false) ∧ Blk wr w.heap.size 76 (stepC 0 0 0) ∧ Below w.heap.size w wr)) (fun _ _ i _ _ => len - (intOf i).toNat)
  case atStart => exact ⟨0, Nat.zero_le _, rfl, Lib.hid ⟨fun e' f' h => absurd h (by omega), Blk.new _ _ _, al _ _⟩⟩
  case round =>
    obtain ⟨a, ha, rfl, HI⟩ := hrel
    by_cases hlt : a < len
    · go_wp2_with fail
      obtain ⟨wo, rfl⟩ : ∃ wo : World, wo = wr := ⟨_, rfl⟩
      go_loopw [7, 15] (fun _ i wr => ∃ b : Nat, b ≤ len ∧ i = .int .i64 b ∧ Hid ((∀ f', f' < b → absorbs r g a f' = false) ∧ Blk wr w.heap.size 76 (stepC 0 0 0) ∧ Below w.heap.size w wr)) (fun _ i _ => len - (intOf i).toNat)
      case atStart => exact ⟨0, Nat.zero_le _, rfl, Lib.hid ⟨fun f' h => absurd h (by omega), HI.out.2⟩⟩
      case round =>
        obtain ⟨b, hb, rfl, HJ⟩ := hrel
        by_cases hlt2 : b < len
        · obtain ⟨ad, rfl, hb1, hca⟩ := (HR.out.below HJ.out.2.2).at_ hlt
          obtain ⟨ad', he', hb2, hcb⟩ := (HR.out.below HJ.out.2.2).at_ hlt2
          obtain rfl : ad = ad' := by injection he'
          clear he'
          have hgb := HG.out.below HJ.out.2.2 HG.out.lt
          have ga : wr.cell? ⟨gb, a, none⟩ = some (.bool (bnth g a)) := by rw [hgb.cell, brow_get (by have h1 := HGL.out; have h2 := HLEN.out; omega)]
          have gbb : wr.cell? ⟨gb, b, none⟩ = some (.bool (bnth g b)) := by rw [hgb.cell, brow_get (by have h1 := HGL.out; have h2 := HLEN.out; omega)]
          clear hgb
          have i1 : (0 : Int) ≤ (a : Int) := by omega
          have i2 : (a : Int) < (len : Int) := by omega
          have i3 : (0 : Int) ≤ (b : Int) := by omega
          have i4 : (b : Int) < (len : Int) := by omega
          have hea := Lib.hid (HR.out.lt hlt)
          have heb := Lib.hid (HR.out.lt hlt2)
          have hand := bits_andNot _ _ hea.out heb.out
          have HAN := Lib.hid hand; clear hand
          have hdef := Lib.hid (show absorbs r g a b = (decide (a ≠ b) && (!bnth g a && (!bnth g b && decide (andn (nth r a) (nth r b) = 0)))) from rfl)
          by_cases h1 : a = b
          · have t1 : ((a : Int) != (b : Int)) = false := by simp [h1]
            have H1 := Lib.hid h1; clear h1
            go_wp2_with fail
            go_quiet (fail)
            go_wp2_with fail
            refine ⟨⟨b + 1, by omega, by go_num, Lib.hid ⟨fun f' hf' => ?_, HJ.out.2.1.drewN _, below_drewN HJ.out.2.2 _⟩⟩, by simp [intOf]; omega⟩
            by_cases hfb : f' = b
            · rw [hfb, hdef.out]; simp [H1.out]
            · exact HJ.out.1 f' (by omega)
          · have t1 : ((a : Int) != (b : Int)) = true := by simp; omega
            have H1 := Lib.hid h1; clear h1
            cases h2 : bnth g a with
            | true =>
              rw [h2] at ga
              have H2 := Lib.hid h2; clear h2
              go_wp2_with fail
              go_quiet (fail)
              go_wp2_with fail
              refine ⟨⟨b + 1, by omega, by go_num, Lib.hid ⟨fun f' hf' => ?_, HJ.out.2.1.drewN _, below_drewN HJ.out.2.2 _⟩⟩, by simp [intOf]; omega⟩
              by_cases hfb : f' = b
              · rw [hfb, hdef.out]; simp [H2.out]
              · exact HJ.out.1 f' (by omega)
            | false =>
              rw [h2] at ga
              have H2 := Lib.hid h2; clear h2
              cases h3 : bnth g b with
              | true =>
                rw [h3] at gbb
                have H3 := Lib.hid h3; clear h3
                go_wp2_with fail
                go_quiet (fail)
                go_wp2_with fail
                refine ⟨⟨b + 1, by omega, by go_num, Lib.hid ⟨fun f' hf' => ?_, HJ.out.2.1.drewN _, below_drewN HJ.out.2.2 _⟩⟩, by simp [intOf]; omega⟩
                by_cases hfb : f' = b
                · rw [hfb, hdef.out]; simp [H3.out]
                · exact HJ.out.1 f' (by omega)
              | false =>
                rw [h3] at gbb
                have H3 := Lib.hid h3; clear h3
                by_cases h4 : andn (nth r a) (nth r b) = 0
                · have t4 : (bits .andNot .u32 (nth r a : Int) (nth r b : Int) == 0) = true := by rw [HAN.out, h4]; rfl
                  have H4 := Lib.hid h4; clear h4
                  go_wp2_with fail
                  go_quiet (fail)
                  have hst := HJ.out.2.1.drewN nq
                  obtain ⟨wo, hwo⟩ : ∃ wo : World, wo = wr.drewN nq := ⟨_, rfl⟩
                  rw [← hwo] at hst ⊢
                  have k0 : wo.cell? ⟨w.heap.size, 0, none⟩ = some (.int .i64 0) := (hst.cell 0).trans rfl
                  have k1 : wo.cell? ⟨w.heap.size, 1, none⟩ = some (.int .i64 0) := (hst.cell 1).trans rfl
                  have k2 : wo.cell? ⟨w.heap.size, 2, none⟩ = some (.int .i64 0) := (hst.cell 2).trans rfl
                  have f0 := hst.frozen 0; have f1 := hst.frozen 1; have f2 := hst.frozen 2
                  have HST := Lib.hid hst; clear hst
                  have HBW := Lib.hid (show Below w.heap.size w wo by rw [hwo]; exact below_drewN HJ.out.2.2 _)
                  clear hwo hca hcb ga gbb
                  go_wp2_with fail
                  refine bodyPost_ret (v := .tuple #[.agg (absC (some (a, b))), .bool true]) ?_ rfl ⟨some (a, b), ⟨?_, ?_, ?_, HI.out.1, HJ.out.1⟩, rfl, three_below HBW.out (Nat.le_refl _) _ _ _⟩
                  · exact results_step Tryd.results47 _ _ _ _ _ (0, 0) _ rfl (three_set HST.out a b (-1)) Tryd.underlying76 rfl (step_size _ _ _)
                  · have := HLEN.out; omega
                  · have := HLEN.out; omega
                  · rw [hdef.out, H2.out, H3.out, H4.out]; simp [H1.out]
                · have t4 : (bits .andNot .u32 (nth r a : Int) (nth r b : Int) == 0) = false := by rw [HAN.out, beq_eq_false_iff_ne]; omega
                  have H4 := Lib.hid h4; clear h4
                  go_wp2_with fail
                  go_quiet (fail)
                  go_wp2_with fail
                  refine ⟨⟨b + 1, by omega, by go_num, Lib.hid ⟨fun f' hf' => ?_, HJ.out.2.1.drewN _, below_drewN HJ.out.2.2 _⟩⟩, by simp [intOf]; omega⟩
                  by_cases hfb : f' = b
                  · rw [hfb, hdef.out]; simp [H4.out]
                  · exact HJ.out.1 f' (by omega)
        · go_wp2_with fail
          refine ⟨⟨a + 1, by omega, by go_num, Lib.hid ⟨fun e' f' he hf => ?_, HJ.out.2⟩⟩, by simp [intOf]; omega⟩
          by_cases hea : e' = a
          · rw [hea]; exact HJ.out.1 f' (by have := HLEN.out; omega)
          · exact HI.out.1 e' f' (by omega) hf
    · have hst := HI.out.2.1
      have k0 : wr.cell? ⟨w.heap.size, 0, none⟩ = some (.int .i64 0) := (hst.cell 0).trans rfl
      have k1 : wr.cell? ⟨w.heap.size, 1, none⟩ = some (.int .i64 0) := (hst.cell 1).trans rfl
      have k2 : wr.cell? ⟨w.heap.size, 2, none⟩ = some (.int .i64 0) := (hst.cell 2).trans rfl
      have f0 := hst.frozen 0; have f1 := hst.frozen 1; have f2 := hst.frozen 2
      have HST := Lib.hid hst; clear hst
      go_wp2_with fail
      refine bodyPost_ret (v := .tuple #[.agg (absC none), .bool false]) ?_ rfl ⟨none, fun e f he hf => HI.out.1 e f (by have := HLEN.out; omega) hf, rfl, three_below HI.out.2.2 (Nat.le_refl _) _ _ _⟩
      exact results_step Tryd.results47 _ _ _ _ _ (0, 0) _ rfl (three_set HST.out 0 0 0) Tryd.underlying76 rfl (step_size _ _ _)

set_option maxHeartbeats 2000000 in
theorem isolate_any (n : Nat) (A : Option Addr) (r : List Nat) (len c : Nat) (w : World) (hr : Es w w.heap.size A len r) (hn : n ≤ 32) :
    Calls Tryd.prog 48 #[.int .i64 n, .slice A len c] w (RetIso n r w) := by
  have hle := hr.le
  have HLEN := Lib.hid hr.len
  have HR := Lib.hid hr; clear hr
  go_enter Tryd.func48, Tryd.ntmps48
  go_wp2_with fail
  go_loop [6, 7, 8, 9, 11, 16] (fun _ _ _ _ i _ => ∃ v : Nat, v ≤ n ∧ i = .int .i64 v ∧ Hid (∀ v', v' < v → occ r v' ≠ 1)) (fun _ _ _ _ i _ => n - (intOf i).toNat)
  case atStart => exact ⟨0, Nat.zero_le _, rfl, Lib.hid fun v' h => absurd h (by omega)⟩
  case round =>
    obtain ⟨v, hv, rfl, HI⟩ := hrel
    by_cases hlt : v < n
    · go_wp2_with fail
      go_loop [7, 8, 9, 16] (fun q x _ i => ∃ (k d : Nat), k ≤ len ∧ d ≤ len ∧ i = .int .i64 k ∧ q = .int .i64 ((r.take k).countP (fun e => e.testBit v) : Nat) ∧ x = .int .i64 d ∧ Hid (0 < (r.take k).countP (fun e => e.testBit v) → d < len ∧ (nth r d).testBit v = true)) (fun _ _ _ i => len - (intOf i).toNat)
      case atStart => exact ⟨0, 0, Nat.zero_le _, Nat.zero_le _, rfl, rfl, rfl, Lib.hid fun h => absurd h (by simp)⟩
      case round =>
        obtain ⟨k, d, hk, hd, rfl, rfl, rfl, HJ⟩ := hrel
        have hcl : (r.take k).countP (fun e => e.testBit v) ≤ k := Nat.le_trans List.countP_le_length (List.length_take_le _ _)
        generalize hq : (r.take k).countP (fun e => e.testBit v) = q at *
        have HQ := Lib.hid hq; clear hq
        by_cases hkl : k < len
        · obtain ⟨ad, rfl, hb1, hca⟩ := (HR.out.alloc (Nat.le_refl _) (.cells #[.int .i64 0, .int .i64 0, .int .i64 0] 76)).at_ hkl
          have hek := Lib.hid (HR.out.lt hkl)
          have hkr : k < r.length := by have := HLEN.out; omega
          have HST := Lib.hid (show (r.take (k + 1)).countP (fun e => e.testBit v) = (r.take k).countP (fun e => e.testBit v) + if (nth r k).testBit v then 1 else 0 by
            rw [List.take_succ_eq_append_getElem hkr, List.countP_append, nth_eq hkr]; simp [List.countP_cons])
          cases hb : (nth r k).testBit v with
          | true =>
            have ht : (bits .and .u32 ((nth r k : Int) / 2 ^ v) 1 == 1) = true := by rw [bit_test _ _ hek.out]; exact hb
            have HB := Lib.hid hb; clear hb
            go_wp2_with fail
            refine ⟨⟨k + 1, k, by omega, by omega, by go_num, ?_, rfl, Lib.hid fun _ => ⟨hkl, HB.out⟩⟩, by simp [intOf]; omega⟩
            rw [HST.out, HB.out, HQ.out]; simp
          | false =>
            have ht : (bits .and .u32 ((nth r k : Int) / 2 ^ v) 1 == 1) = false := by rw [bit_test _ _ hek.out]; exact hb
            have HB := Lib.hid hb; clear hb
            go_wp2_with fail
            refine ⟨⟨k + 1, d, by omega, by omega, by go_num, ?_, rfl, Lib.hid fun h => HJ.out ?_⟩, by simp [intOf]; omega⟩
            · rw [HST.out, HB.out, HQ.out]; simp
            · rw [HST.out, HB.out, HQ.out] at h; simpa using h
        · have HOC := Lib.hid (show occ r v = q by
            have h1 := HQ.out
            rw [List.take_of_length_le (by have := HLEN.out; omega)] at h1
            exact h1)
          by_cases hq1 : q = 1
          · have ht : ((q : Int) == 1) = true := by rw [hq1]; rfl
            have HQ1 := Lib.hid hq1; clear hq1
            go_wp2_with fail
            refine bodyPost_ret (v := .tuple #[.agg (isoC (some (d, v))), .bool true]) ?_ rfl ⟨some (d, v), ⟨hlt, ?_, ?_, ?_, HI.out⟩, rfl, al _ _⟩
            · exact results_step Tryd.results48 _ _ _ _ _ (0, 0) _ rfl (Blk.new _ _ _) Tryd.underlying76 rfl (step_size _ _ _)
            · have := (HJ.out (by have := HQ1.out; omega)).1; have := HLEN.out; omega
            · exact (HJ.out (by have := HQ1.out; omega)).2
            · rw [HOC.out, HQ1.out]
          · have ht : ((q : Int) == 1) = false := by rw [beq_eq_false_iff_ne]; omega
            have HQ1 := Lib.hid hq1; clear hq1
            go_wp2_with fail
            refine ⟨⟨v + 1, by omega, by go_num, Lib.hid fun v' hv' => ?_⟩, by simp [intOf]; omega⟩
            by_cases hvv : v' = v
            · rw [hvv, HOC.out]; exact HQ1.out
            · exact HI.out v' (by omega)
    · go_wp2_with fail
      refine bodyPost_ret (v := .tuple #[.agg (isoC none), .bool false]) ?_ rfl ⟨none, fun v' hv' => HI.out v' (by omega), rfl, al _ _⟩
      exact results_step Tryd.results48 _ _ _ _ _ (0, 0) _ rfl (Blk.new _ _ _) Tryd.underlying76 rfl (step_size _ _ _)
end Go.Proofs.YtjofdlafblpclaaDoor
namespace Go.Proofs.YtjofdlafblpclaaDoor
open Go.RowKit

def S3 (l : List (Int × Int × Int)) : List Value := l.flatMap fun t => [Value.int .i64 t.1, Value.int .i64 t.2.1, Value.int .i64 t.2.2]
theorem S3_append (l r : List (Int × Int × Int)) : S3 (l ++ r) = S3 l ++ S3 r := by simp [S3, List.flatMap_append]
theorem info_step : (Tryd.prog.info? 76).map (fun i => (i.zero, i.size, i.bytes)) = some (some (.agg #[.int .i64 0, .int .i64 0, .int .i64 0]), 3, 24) := by kernel_rfl
section
variable {ops : Array Oper} {rest : List Oper} {o : Oper} {a : Act} {w : World} {Q : Exit → Act → World → Prop}
/-- append(v, s): one step onto a row of the call's own. -/
theorem app_step (hgd : o.guard = none) (s x : Operand) (ho : o.op = .call { callee := .builtin .append, args := #[s, x], argTypes := #[52, 52] })
    (base : Nat) (v : Value) (l : List (Int × Int × Int)) (hs : a.eval s = v) (hown : w.ownsRow base 76 3 v l.length (S3 l)) (g : Nat) (t : Int × Int × Int) (hx : a.eval x = .slice (some ⟨g, 0, none⟩) 1 1) (hb : Blk w g 76 (stepC t.1 t.2.1 t.2.2))
    (hk : l.length ≤ 1000000) (hbase : base ≤ w.heap.size)
    (h : ∀ v' w', w'.ownsRow base 76 3 v' (l ++ [t]).length (S3 (l ++ [t])) → w.grownBy w' v.ownBlock → (v'.ownBlock = v.ownBlock ∨ v'.ownBlock = some w.heap.size) → wpList Tryd.prog ops Q rest (a.put o.dst v') w') : wpList Tryd.prog ops Q (o :: rest) a w := by
  obtain ⟨i, hi, hz, hs1, hby⟩ := info_parts info_step
  have hr : Reads w w.heap.size 3 (some ⟨g, 0, none⟩) 1 (S3 [t]) := ⟨rfl, fun _ => ⟨_, rfl, hb.lt, fun j u hu => by
    have e : (Addr.add ⟨g, 0, none⟩ j) = ⟨g, j, none⟩ := by unfold Addr.add; split <;> simp_all
    rw [e, hb.cell]; simpa [S3, stepC] using hu⟩⟩
  refine wpList_append_any w hgd s x 52 ho base 76 i _ 3 24 Tryd.underlying52 hi hz hs1 hby rfl (by omega) v l.length (S3 l) hs hown w.heap.size _ 1 1 _ hx hr (by simp [S3]; exact ⟨rfl, rfl, rfl⟩) (by simp only [maxLen]; omega) (by omega) hbase ?_
  intro v' w' h1 h2 h3
  exact h v' w' (by rw [S3_append, List.length_append]; exact h1) h2 h3
end
theorem own_nilS (w : World) (base : Nat) (e : TypeId) : w.ownsRow base e 3 (.slice none 0 0) 0 [] := ⟨rfl, .inl ⟨rfl, rfl⟩⟩

/-- What stands at the head of Reduce's loop. -/
def RedSt (w : World) (n : Nat) (es : List Nat) (A : Option Addr) (c : Nat) (A4 : Option Addr) (c4 gb : Nat) (k : Nat) (v : Value) (wr : World) (l : List (Int × Int × Int)) (r : List Nat) (g : List Bool) : Prop :=
  (Run n es (List.replicate es.length false) l r g ∧ meas n r g ≤ k ∧ l.length + meas n r g ≤ 2112 ∧ (∀ x ∈ r, x < 2 ^ n)) ∧
  wr.ownsRow (w.heap.size + 1) 42 1 (.slice A4 es.length c4) es.length (U32 r) ∧ Blk wr gb 4 (brow g) ∧ wr.ownsRow (w.heap.size + 1) 76 3 v l.length (S3 l) ∧
  GB wr w.heap.size 24 (.int .i64 n) (.slice A es.length c) ∧ Below w.heap.size w wr ∧ w.heap.size + 1 ≤ wr.heap.size ∧ w.heap.size + 1 ≤ gb
theorem RedSt.new {w : World} {n : Nat} {es : List Nat} {A : Option Addr} {c : Nat} {A4 : Option Addr} {c4 gb k : Nat} {v : Value} {wr w' : World} {l : List (Int × Int × Int)} {r : List Nat} {g : List Bool} (h : RedSt w n es A c A4 c4 gb k v wr l r g) (hb : Below wr.heap.size wr w') : RedSt w n es A c A4 c4 gb k v w' l r g :=
  ⟨h.1, own_below h.2.1 hb, h.2.2.1.below hb h.2.2.1.lt, own_below h.2.2.2.1 hb, h.2.2.2.2.1.new hb, bthen h.2.2.2.2.2.1 hb h.2.2.2.2.2.1.size, Nat.le_trans h.2.2.2.2.2.2.1 hb.size, h.2.2.2.2.2.2.2⟩
theorem set_lt {r : List Nat} {n e x : Nat} (h : ∀ y ∈ r, y < 2 ^ n) (hx : x < 2 ^ n) : ∀ y ∈ r.set e x, y < 2 ^ n := by
  intro y hy
  rcases List.mem_or_eq_of_mem_set hy with h1 | rfl
  · exact h y h1
  · exact hx
theorem U32_set (r : List Nat) (e x : Nat) : (U32 r).set e (.int .u32 (x : Int)) = U32 (r.set e x) := by simp [U32, List.map_set]
/-- What stands beside the row of steps. -/
def RedM (w : World) (n : Nat) (es : List Nat) (A : Option Addr) (c : Nat) (A4 : Option Addr) (c4 gb : Nat) (v : Value) (l : List (Int × Int × Int)) (r : List Nat) (g : List Bool) (wr : World) : Prop :=
  wr.ownsRow (w.heap.size + 1) 42 1 (.slice A4 es.length c4) es.length (U32 r) ∧ Blk wr gb 4 (brow g) ∧ wr.ownsRow (w.heap.size + 1) 76 3 v l.length (S3 l) ∧
  GB wr w.heap.size 24 (.int .i64 n) (.slice A es.length c) ∧ Below w.heap.size w wr ∧ w.heap.size + 1 ≤ wr.heap.size ∧ w.heap.size + 1 ≤ gb
section
variable {w : World} {n : Nat} {es : List Nat} {A : Option Addr} {c : Nat} {A4 : Option Addr} {c4 gb : Nat} {v : Value} {l : List (Int × Int × Int)} {r : List Nat} {g : List Bool} {wr : World}
theorem RedM.alloc (h : RedM w n es A c A4 c4 gb v l r g wr) (o : Obj) : RedM w n es A c A4 c4 gb v l r g (wr.alloc o) :=
  ⟨h.1.alloc o, h.2.1.alloc o, h.2.2.1.alloc o, h.2.2.2.1.alloc o, h.2.2.2.2.1.alloc h.2.2.2.2.1.size o, by have := h.2.2.2.2.2.1; simp; omega, h.2.2.2.2.2.2⟩
theorem RedM.drew (h : RedM w n es A c A4 c4 gb v l r g wr) : RedM w n es A c A4 c4 gb v l r g wr.drew := ⟨h.1, h.2.1, h.2.2.1, h.2.2.2.1, h.2.2.2.2.1.drew, h.2.2.2.2.2⟩
theorem RedM.row {g4 : Nat} (h : RedM w n es A c (some ⟨g4, 0, none⟩) c4 gb v l r g wr) (e x : Nat) (h4 : w.heap.size + 1 ≤ g4) (hne : g4 ≠ gb) : RedM w n es A c (some ⟨g4, 0, none⟩) c4 gb v l (r.set e x) g (wr.setCell ⟨g4, e, none⟩ (.int .u32 (x : Int))) := by
  obtain ⟨h1, h2⟩ := World.ownsRow.stored h.1 e (.int .u32 (x : Int))
  rw [U32_set] at h1
  exact ⟨h1, h.2.1.far (p := ⟨g4, e, none⟩) (Ne.symm hne) _, own_grown_own h.2.2.1 h.1 (by decide) h2, h.2.2.2.1.far (p := ⟨g4, e, none⟩) (by show w.heap.size ≠ g4; omega) _, h.2.2.2.2.1.setCell (p := ⟨g4, e, none⟩) (by show w.heap.size ≤ g4; omega) _, by have := h.2.2.2.2.2.1; simpa [World.setCell] using this, h.2.2.2.2.2.2⟩
theorem RedM.gone (h : RedM w n es A c A4 c4 gb v l r g wr) (e : Nat) : RedM w n es A c A4 c4 gb v l r (g.set e true) (wr.setCell ⟨gb, e, none⟩ (.bool true)) := by
  have hb := h.2.1.set_ e (.bool true)
  rw [brow_set] at hb
  exact ⟨own_far h.1 h.2.1 (by decide) e _, hb, own_far h.2.2.1 h.2.1 (by decide) e _, h.2.2.2.1.far (p := ⟨gb, e, none⟩) (by have := h.2.2.2.2.2.2; show w.heap.size ≠ gb; omega) _, h.2.2.2.2.1.setCell (p := ⟨gb, e, none⟩) (by have := h.2.2.2.2.2.2; show w.heap.size ≤ gb; omega) _, by have := h.2.2.2.2.2.1; simpa [World.setCell] using this, h.2.2.2.2.2.2⟩
theorem RedM.step {w' : World} {v' : Value} {t : Int × Int × Int} (h : RedM w n es A c A4 c4 gb v l r g wr) (h1 : w'.ownsRow (w.heap.size + 1) 76 3 v' (l ++ [t]).length (S3 (l ++ [t]))) (h2 : wr.grownBy w' v.ownBlock) : RedM w n es A c A4 c4 gb v' (l ++ [t]) r g w' :=
  ⟨own_grown_own h.1 h.2.2.1 (by decide) h2, h.2.1.appended h.2.2.1 h2 (by decide), h1, h.2.2.2.1.appended h.2.2.1 h2 (by decide), Below.appended h.2.2.2.2.1 h.2.2.1 h2 h.2.2.2.2.1.size (by omega), Nat.le_trans h.2.2.2.2.2.1 h2.size, h.2.2.2.2.2.2⟩
end
def RetRed (w : World) (n : Nat) (es : List Nat) (e : Ending) (w' : World) : Prop :=
  ∃ l r g A6 c6 A4 c4, Run n es (List.replicate es.length false) l r g ∧ AbsSpec r g none ∧ IsoSpec n r none ∧ e = .returned (.tuple #[.slice A6 l.length c6, .slice A4 es.length c4]) ∧
    w'.ownsRow (w.heap.size + 1) 76 3 (.slice A6 l.length c6) l.length (S3 l) ∧ Es w' w'.heap.size A4 es.length r ∧ Below w.heap.size w w'

set_option maxRecDepth 100000 in
set_option maxHeartbeats 4000000 in
theorem reduce_ok (n : Nat) (A : Option Addr) (es : List Nat) (len c : Nat) (w : World) (hr : Es w w.heap.size A len es) (hcc : checkCode n es = 0) :
    Calls Tryd.prog 28 #[.agg #[.int .i64 n, .slice A len c]] w (RetRed w n es) := by
  obtain ⟨_, hn, hl64, hbd⟩ := checkCode_zero hcc
  have hlen := hr.len
  subst hlen
  have hbd2 : ∀ e ∈ es, e < 2 ^ n := by simpa using hbd
  have HBD := Lib.hid hbd2; clear hbd hbd2
  have HCC := Lib.hid hcc; clear hcc
  have HR := Lib.hid hr; clear hr
  have hmk := mk_bool es.length (by omega)
  have HW := Lib.hid (al w (.cells #[.int .i64 n, .slice A es.length c] 24))
  have HG := Lib.hid (GB.made w 24 (.int .i64 n) (.slice A es.length c))
  go_enter Tryd.func28, Tryd.ntmps28
  go_wp2_with fail
  refine (check_any n A es es.length c _ (HR.out.new HW.out)).mono ?_
  rintro e w1 ⟨rfl, hb⟩
  rw [HCC.out]
  have HG1 := Lib.hid (HG.out.new hb)
  have HB1 := Lib.hid (bthen HW.out hb (by simp)); clear hb
  have g0 := HG1.out.c0; have g1 := HG1.out.c1; have glt := HG1.out.lt
  go_wp2_with fail
  refine (clone_u32 A es es.length c _ (HR.out.new HB1.out) (by omega)).mono ?_
  rintro e w2 ⟨A4, c4, rfl, hown, hb⟩
  have HG2 := Lib.hid (HG1.out.new hb)
  have HO2 := Lib.hid (own_lower (base' := w.heap.size + 1) hown glt)
  have HB2 := Lib.hid (bthen HB1.out hb HB1.out.size)
  have hz2 : w.heap.size + 1 ≤ w2.heap.size := Nat.le_trans glt hb.size
  clear hb hown g0 g1 hmk
  have hmk := mk_bool es.length (by omega)
  go_wp2_with fail
  clear hmk
  go_loopg [6, 7, 8] (meas n es (List.replicate es.length false)) (fun k v _ _ wr => ∃ l r g A6 c6, v = .slice A6 l.length c6 ∧ Hid (RedSt w n es A c A4 c4 w2.heap.size k v wr l r g))
  case atStart =>
    refine ⟨[], es, List.replicate es.length false, none, 0, rfl, Lib.hid ⟨⟨.nil, Nat.le_refl _, ?_, HBD.out⟩, HO2.out.alloc _, Blk.new _ _ _, own_nilS _ _ _, HG2.out.alloc _, HB2.out.alloc (by omega) _, by simp; omega, hz2⟩⟩
    have := meas_le (n := n) (r := es) (g := List.replicate es.length false)
    rw [List.length_replicate] at this
    have h2 : es.length * n ≤ 64 * 32 := Nat.mul_le_mul (by omega) (by omega)
    simp; omega
  case round =>
    obtain ⟨l, r, g, A6, c6, rfl, HI⟩ := hrel
    have hll : l.length ≤ 2112 := by have := HI.out.1.2.2.1; omega
    obtain ⟨hrl, hgl⟩ := HI.out.1.1.lengths
    rw [List.length_replicate] at hgl
    have hE : Es wr wr.heap.size A4 es.length r := ⟨Reads.of_own HI.out.2.1, ⟨hrl.symm, by omega⟩, fun e he => Nat.lt_of_lt_of_le (HI.out.1.2.2.2 e he) (Nat.le_trans (two_pow_le (show n ≤ 32 by omega)) (by decide))⟩
    have HE := Lib.hid hE; clear hE
    have HRL := Lib.hid hrl; have HGL := Lib.hid hgl; clear hrl hgl
    go_wp2_with fail
    refine (absorb_any A4 r es.length c4 w2.heap.size es.length g wr HE.out HI.out.2.2.1 (by rw [HRL.out, HGL.out])).mono ?_
    rintro e w3 ⟨o, ho, rfl, hb⟩
    have HS := Lib.hid (HI.out.new hb)
    have hz3 := hb.size
    have HBW3 := Lib.hid hb; clear hb
    cases o with
    | some p =>
      obtain ⟨e, f⟩ := p
      have HO := Lib.hid ho
      have he : e < es.length := by have := ho.1; have h2 := HRL.out; omega
      clear ho
      obtain ⟨g4, cap, hv, hb4, hg4⟩ := HS.out.2.1.form (by omega)
      injection hv with hv1 _ hv2
      subst hv1; subst hv2
      have hgb := HS.out.2.2.1.lt
      have hne : g4 ≠ w2.heap.size := by
        have h := own_blk_ne HS.out.2.1 HS.out.2.2.1 (by decide)
        simp only [Value.ownBlock] at h
        intro h2; exact h (by rw [h2])
      have x1 : w3.cell? ⟨g4, e, none⟩ = some (.int .u32 (nth r e : Int)) := by
        rw [HS.out.2.1.cellAt e (by omega)]
        have h1 : e < r.length := by have := HRL.out; omega
        simp [U32, nth, List.getD, h1]
      have x2 := HS.out.2.1.frozenAt e
      have x3 : w3.cell? ⟨w2.heap.size, e, none⟩ = some (.bool (bnth g e)) := by rw [HS.out.2.2.1.cell, brow_get (by have := HGL.out; omega)]
      have x4 := HS.out.2.2.1.frozen e
      simp only [absC, stepC, Option.isSome]
      have HM := Lib.hid (show RedM w n es A c (some ⟨g4, 0, none⟩) c4 w2.heap.size (.slice A6 l.length c6) l r g w3 from HS.out.2)
      have hm4 := (HM.out.row e 0 hb4 hne).gone e
      have HM4 := Lib.hid hm4; clear hm4
      have hm6 := (HM4.out.alloc (.cells #[.int .i64 e, .int .i64 f, .int .i64 (-1)] 76)).alloc (.cells #[.int .i64 e, .int .i64 f, .int .i64 (-1)] 76)
      have HM6 := Lib.hid hm6; clear hm6
      have hbn := Blk.new (((w3.setCell ⟨g4, e, none⟩ (.int .u32 ((0 : Nat) : Int))).setCell ⟨w2.heap.size, e, none⟩ (.bool true)).alloc (.cells #[.int .i64 e, .int .i64 f, .int .i64 (-1)] 76)) 76 (stepC e f (-1))
      rw [World.size_alloc] at hbn
      have hsz : ((w3.setCell ⟨g4, e, none⟩ (.int .u32 ((0 : Nat) : Int))).setCell ⟨w2.heap.size, e, none⟩ (.bool true)).heap.size = w3.heap.size := by simp [World.setCell]
      rw [hsz] at hbn
      have HBN := Lib.hid hbn; clear hbn hsz
      go_wp2_with (at_builtin; refine app_step rfl _ _ rfl (w.heap.size + 1) (Value.slice A6 l.length c6) l rfl HM6.out.2.2.1 (w3.heap.size + 1) ((e : Int), (f : Int), -1) rfl HBN.out (by omega) HM6.out.2.2.2.2.2.1 ?_; intro v' w5 hown' hgr hor; obtain ⟨A7, c7, rfl⟩ := own_form hown'; have HM7 := Lib.hid (HM6.out.step hown' hgr); clear hown' hgr hor)
      go_roundg (meas n (r.set e 0) (g.set e true))
      case measure =>
        have h1 := meas_abs (n := n) (by rw [HGL.out, HRL.out]) HO.out
        have h2 := HI.out.1.2.1
        omega
      case rel =>
        have hL : (l ++ [((e : Int), (f : Int), (-1 : Int))]).length = l.length + 1 := by simp
        refine ⟨l ++ [((e : Int), (f : Int), -1)], r.set e 0, g.set e true, A7, c7, by rw [hL], Lib.hid ⟨⟨HI.out.1.1.abs HO.out, Nat.le_refl _, ?_, set_lt HI.out.1.2.2.2 (pow2_pos n)⟩, ?_⟩⟩
        · have h1 := meas_abs (n := n) (by rw [HGL.out, HRL.out]) HO.out
          have h2 := HI.out.1.2.2.1
          rw [hL]; omega
        · have h := HM7.out
          rw [hL] at h
          exact ⟨h.1, h.2.1, h.2.2.1, h.2.2.2⟩
    | none =>
      have HO := Lib.hid ho; clear ho
      have g0 := HS.out.2.2.2.2.1.c0
      have glt3 := HS.out.2.2.2.2.1.lt
      have hz3 := HS.out.2.2.2.2.2.2.1
      have HM := Lib.hid (show RedM w n es A c A4 c4 w2.heap.size (.slice A6 l.length c6) l r g w3 from HS.out.2)
      have HE3 := Lib.hid (HE.out.new HBW3.out)
      simp only [absC, stepC, Option.isSome]
      go_wp2_with fail
      refine (isolate_any n A4 r es.length c4 _ (HE3.out.new (al _ _)) (by omega)).mono ?_
      rintro e w4 ⟨o, ho, rfl, hb⟩
      have hb' := bthen (al w3 (.cells #[.int .i64 0, .int .i64 0, .int .i64 0] 76)) hb (by simp)
      have hst : Blk w4 w3.heap.size 76 (stepC 0 0 0) := (Blk.new w3 76 (stepC 0 0 0)).below hb (by simp)
      have HBP := Lib.hid hb'
      clear hb hb' g0 HM
      have k0 : w4.cell? ⟨w3.heap.size, 0, none⟩ = some (.int .i64 0) := (hst.cell 0).trans rfl
      have k1 : w4.cell? ⟨w3.heap.size, 1, none⟩ = some (.int .i64 0) := (hst.cell 1).trans rfl
      have k2 : w4.cell? ⟨w3.heap.size, 2, none⟩ = some (.int .i64 0) := (hst.cell 2).trans rfl
      have f0 := hst.frozen 0; have f1 := hst.frozen 1; have f2 := hst.frozen 2
      have HST := Lib.hid hst; clear hst
      cases o with
      | none =>
        have HO2 := Lib.hid ho; clear ho
        simp only [isoC, stepC, Option.isSome]
        go_wp2_with fail
        go_ret2
        have hbw := three_below HBP.out (Nat.le_refl _) (.int .i64 0) (.int .i64 0) (.int .i64 0)
        have hM := HS.out.new hbw
        exact ⟨l, r, g, A6, c6, A4, c4, HI.out.1.1, HO.out, HO2.out, rfl, hM.2.2.2.1, HE3.out.new hbw, hM.2.2.2.2.2.1⟩
      | some p =>
        obtain ⟨e, v⟩ := p
        have HIS := Lib.hid ho
        have he : e < es.length := by have := ho.2.1; have h2 := HRL.out; omega
        have hvn : v < n := ho.1
        clear ho
        simp only [isoC, stepC, Option.isSome]
        go_wp2_with fail
        obtain ⟨wq, hwq⟩ : ∃ wq : World, wq = ((w4.setCell ⟨w3.heap.size, 0, none⟩ (.int .i64 e)).setCell ⟨w3.heap.size, 1, none⟩ (.int .i64 (-1))).setCell ⟨w3.heap.size, 2, none⟩ (.int .i64 v) := ⟨_, rfl⟩
        rw [← hwq]
        have hbw : Below w3.heap.size w3 wq := by rw [hwq]; exact three_below HBP.out (Nat.le_refl _) _ _ _
        have hst : Blk wq w3.heap.size 76 (stepC e (-1) v) := by rw [hwq]; exact three_set HST.out e (-1) v
        have HM := Lib.hid (show RedM w n es A c A4 c4 w2.heap.size (.slice A6 l.length c6) l r g wq from (HS.out.new hbw).2)
        clear k0 k1 k2 f0 f1 f2 HST hwq hbw
        obtain ⟨g4, cap, hv, hb4, hg4⟩ := HM.out.1.form (by omega)
        injection hv with hv1 _ hv2
        subst hv1; subst hv2
        have hgb := HM.out.2.1.lt
        have hslt := hst.lt
        have hne : g4 ≠ w2.heap.size := by
          have h := own_blk_ne HM.out.1 HM.out.2.1 (by decide)
          simp only [Value.ownBlock] at h
          intro h2; exact h (by rw [h2])
        have hne2 : g4 ≠ w3.heap.size := by
          have h := own_blk_ne HM.out.1 hst (by decide)
          simp only [Value.ownBlock] at h
          intro h2; exact h (by rw [h2])
        have hre : e < r.length := by have := HRL.out; omega
        have hrx : nth r e < 4294967296 := HE.out.2.2 _ (nth_mem hre)
        have x1 : wq.cell? ⟨g4, e, none⟩ = some (.int .u32 (nth r e : Int)) := by
          rw [HM.out.1.cellAt e (by omega)]
          simp [U32, nth, List.getD, hre]
        have x2 := HM.out.1.frozenAt e
        have k0 : wq.cell? ⟨w3.heap.size, 0, none⟩ = some (.int .i64 e) := (hst.cell 0).trans rfl
        have k1 : wq.cell? ⟨w3.heap.size, 1, none⟩ = some (.int .i64 (-1)) := (hst.cell 1).trans rfl
        have k2 : wq.cell? ⟨w3.heap.size, 2, none⟩ = some (.int .i64 v) := (hst.cell 2).trans rfl
        have HST := Lib.hid hst; clear hst
        have HRX := Lib.hid hrx; clear hrx
        have i1 : (0 : Int) ≤ (e : Int) := by omega
        have i2 : (e : Int) < (es.length : Int) := by omega
        go_region
        rw [shl_mod v (by omega), bits_andNot _ _ HRX.out (pow2_lt32 (by omega))]
        obtain ⟨wz, hwz⟩ : ∃ wz : World, wz = (wq.setCell ⟨g4, e, none⟩ (.int .u32 (andn (nth r e) (2 ^ v) : Nat))).drew := ⟨_, rfl⟩
        rw [← hwz]
        have HMZ := Lib.hid (show RedM w n es A c (some ⟨g4, 0, none⟩) c4 w2.heap.size (.slice A6 l.length c6) l (r.set e (andn (nth r e) (2 ^ v))) g wz by rw [hwz]; exact (HM.out.row e _ hb4 hne).drew)
        have hsz : Blk wz w3.heap.size 76 (stepC e (-1) v) := by rw [hwz]; exact (HST.out.far (p := ⟨g4, e, none⟩) (Ne.symm hne2) _).drew
        clear hwz x1 x2 k0 k1 k2 HM HST i1 i2
        have k0 : wz.cell? ⟨w3.heap.size, 0, none⟩ = some (.int .i64 e) := (hsz.cell 0).trans rfl
        have k1 : wz.cell? ⟨w3.heap.size, 1, none⟩ = some (.int .i64 (-1)) := (hsz.cell 1).trans rfl
        have k2 : wz.cell? ⟨w3.heap.size, 2, none⟩ = some (.int .i64 v) := (hsz.cell 2).trans rfl
        clear hsz
        have HM6 := Lib.hid (HMZ.out.alloc (.cells #[.int .i64 e, .int .i64 (-1), .int .i64 v] 76))
        go_wp2_with (at_builtin; refine app_step rfl _ _ rfl (w.heap.size + 1) (Value.slice A6 l.length c6) l rfl HM6.out.2.2.1 wz.heap.size ((e : Int), -1, (v : Int)) rfl (Blk.new _ _ _) (by omega) HM6.out.2.2.2.2.2.1 ?_; intro v' w5 hown' hgr hor; obtain ⟨A7, c7, rfl⟩ := own_form hown'; have HM7 := Lib.hid (HM6.out.step hown' hgr); clear hown' hgr hor)
        have hms := meas_iso (n := n) (g := g) (by omega) HE.out.2.2 HIS.out
        go_roundg (meas n (r.set e (andn (nth r e) (2 ^ v))) g)
        case measure =>
          have h2 := HI.out.1.2.1
          omega
        case rel =>
          have hL : (l ++ [((e : Int), (-1 : Int), (v : Int))]).length = l.length + 1 := by simp
          refine ⟨l ++ [((e : Int), -1, (v : Int))], r.set e (andn (nth r e) (2 ^ v)), g, A7, c7, by rw [hL], Lib.hid ⟨⟨HI.out.1.1.iso HO.out HIS.out, Nat.le_refl _, ?_, set_lt HI.out.1.2.2.2 ?_⟩, ?_⟩⟩
          · have h2 := HI.out.1.2.2.1
            rw [hL]; omega
          · exact Nat.lt_of_le_of_lt Nat.and_le_left (HI.out.1.2.2.2 _ (nth_mem hre))
          · have h := HM7.out
            rw [hL] at h
            exact ⟨h.1, h.2.1, h.2.2.1, h.2.2.2⟩

end Go.Proofs.YtjofdlafblpclaaDoor
