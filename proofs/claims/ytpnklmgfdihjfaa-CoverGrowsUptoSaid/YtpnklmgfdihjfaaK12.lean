/-
Contract of Solve. Regions printed by gen/sx.py.
rat.Text, said of values; equal strings.
law28.awake: the example of the document.
Plain: fractions of a common denominator.
Contract of the reference's Valid.
law28.great.
append([]T{}, xs...): a copy of a row; a row of Rats behind a row of Rats.
A valid problem of the laws: what Solve answers, in 140 words.
Rows of one Rat as values; a problem with another objective.
Regions that draw their order in which some operations (appends to own rows) change older blocks: each operation is met once.
Appends to own rows as values; a problem that is made row by row (the dual one).
The state of cover.packing's second loop, and what its writes make of it. Printed by a program of mine (see gen/scv.py).
-/
import Derived.Test.YtpnklmgfdihjfaaK11
import Derived.Test.YtpnklmgfdihjfaaK10
import Derived.Test.YtpnklmgfdihjfaaK5
import Derived.Test.YtpnklmgfdihjfaaK9
namespace Go.Proofs.Ytpnklmgfdihjfaa
open Go.RowKit
set_option linter.unusedVariables false
set_option linter.unusedSimpArgs false

theorem rowx_rv {n b : Nat} {x : Nat → Rat} {w : World} : ∀ e w', RowX n b x w e w' → ∃ v, e = .returned v ∧ (∃ g0 : Nat, v = .slice (some ⟨g0, 0, none⟩) n n ∧ RB w' g0 n (PN w' b x)) ∧ Below w.heap.size w w' :=
  fun _ _ ⟨g, h1, _, h3, h4⟩ => ⟨_, h1, ⟨g, rfl, h3⟩, h4⟩
/-- A solution as a value. -/
def SolV (n m b : Nat) (q : Res) (v : Value) (w : World) : Prop := ∃ AX kX cX AY kY cY AR kR cR s A k c B m' d, v = .agg #[.int .i64 (q.out : Int), .slice AX kX cX, .slice AY kY cY, .slice AR kR cR, .bool s, .slice A k c, .slice B m' d] ∧
  ((q.out = 0 ∧ kX = n ∧ kY = m ∧ kR = 0) ∨ (q.out = 1 ∧ kX = 0 ∧ kY = m ∧ kR = 0) ∨ (q.out = 2 ∧ kX = n ∧ kY = 0 ∧ kR = n)) ∧
  Rs w w.heap.size AX kX (PN w b q.X) ∧ Rs w w.heap.size AY kY (PN w b q.Y) ∧ Rs w w.heap.size AR kR (PN w b q.Ray) ∧ Rv b q.v (.agg #[.bool s, .slice A k c, .slice B m' d]) w
theorem Rs.nil (w : World) (B : Nat) (P : Nat → Value → Prop) : Rs w B none 0 P := ⟨[], ⟨rfl, fun h => absurd h (by omega)⟩, ⟨rfl, fun j hj => absurd hj (by omega)⟩⟩
theorem wp_build3 {o : Oper} {a : Act} {w : World} {K : Act → World → Prop} {Q : Exit → Act → World → Prop} {t : TypeId} {i j k : Nat} {x y z : Operand} {u v r : Value} {cells : Array Value} (ho : o.op = .build t #[(i, x), (j, y), (k, z)]) (hx : a.eval x = u) (hy : a.eval y = v) (hz : a.eval z = r)
    (hf : Try.prog.built t [(i, u), (j, v), (k, r)] = some cells) (d : Tmp) (hd : o.dst = some d) (h : K (a.put (some d) (.agg cells)) w) : o.wp Try.prog a w K Q := by
  rw [← hd] at h
  have e : (#[(i, x), (j, y), (k, z)].map fun (i, x) => (i, a.eval x)).toList = [(i, u), (j, v), (k, r)] := by simp [hx, hy, hz]
  refine wp_build t _ ho (by rw [e, hf]; rfl) ?_
  rw [e, hf]; exact h
theorem wp_build4 {o : Oper} {a : Act} {w : World} {K : Act → World → Prop} {Q : Exit → Act → World → Prop} {t : TypeId} {i j k l : Nat} {x y z q : Operand} {u v r s : Value} {cells : Array Value} (ho : o.op = .build t #[(i, x), (j, y), (k, z), (l, q)]) (hx : a.eval x = u) (hy : a.eval y = v) (hz : a.eval z = r) (hq : a.eval q = s)
    (hf : Try.prog.built t [(i, u), (j, v), (k, r), (l, s)] = some cells) (d : Tmp) (hd : o.dst = some d) (h : K (a.put (some d) (.agg cells)) w) : o.wp Try.prog a w K Q := by
  rw [← hd] at h
  have e : (#[(i, x), (j, y), (k, z), (l, q)].map fun (i, x) => (i, a.eval x)).toList = [(i, u), (j, v), (k, r), (l, s)] := by simp [hx, hy, hz, hq]
  refine wp_build t _ ho (by rw [e, hf]; rfl) ?_
  rw [e, hf]; exact h
/-- Operations i and j in any order, k behind i: each yields a value and turns nothing else. -/
theorem wpAny_three {P : Program} {ops : Array Oper} {a : Act} {w : World} {Q : Exit → Act → World → Prop} {i j k fuel : Nat} {listed : Array Bool} {oi oj ok : Oper} (hr : Region.ready .any ops listed = [i, j]) (hri : Region.ready .any ops (listed.setIfInBounds i true) = [j, k]) (hrj : Region.ready .any ops (listed.setIfInBounds j true) = [i])
    (hrij : Region.ready .any ops ((listed.setIfInBounds i true).setIfInBounds j true) = [k]) (hrik : Region.ready .any ops ((listed.setIfInBounds i true).setIfInBounds k true) = [j])
    (hoi : ops[i]? = some oi) (hoj : ops[j]? = some oj) (hok : ops[k]? = some ok) (gi : oi.guard = none) (gj : oj.guard = none) (gk : ok.guard = none) (di dj dk : Tmp) (ei : oi.dst = some di) (ej : oj.dst = some dj) (ek : ok.dst = some dk) (u v x : Value)
    (hi : gives P oi a.eval w (fun y w' => y = u ∧ w' = w)) (hi' : gives P oi (a.put (some dj) v).eval w (fun y w' => y = u ∧ w' = w)) (hj : gives P oj a.eval w (fun y w' => y = v ∧ w' = w)) (hj' : gives P oj (a.put (some di) u).eval w (fun y w' => y = v ∧ w' = w))
    (hj'' : gives P oj ((a.put (some di) u).put (some dk) x).eval w (fun y w' => y = v ∧ w' = w)) (hk : gives P ok ((a.put (some di) u).put (some dj) v).eval w (fun y w' => y = x ∧ w' = w)) (hk' : gives P ok (a.put (some di) u).eval w (fun y w' => y = x ∧ w' = w))
    (hc : (a.put (some dj) v).put (some di) u = (a.put (some di) u).put (some dj) v) (hc' : ((a.put (some di) u).put (some dk) x).put (some dj) v = ((a.put (some di) u).put (some dj) v).put (some dk) x)
    (hl : (listed.setIfInBounds j true).setIfInBounds i true = (listed.setIfInBounds i true).setIfInBounds j true) (hl' : ((listed.setIfInBounds i true).setIfInBounds k true).setIfInBounds j true = ((listed.setIfInBounds i true).setIfInBounds j true).setIfInBounds k true)
    (h : wpAny P .any ops Q fuel (((listed.setIfInBounds i true).setIfInBounds j true).setIfInBounds k true) (((a.put (some di) u).put (some dj) v).put (some dk) x) w) : wpAny P .any ops Q (fuel + 3) listed a w := by
  have hK : wpAny P .any ops Q (fuel + 1) ((listed.setIfInBounds i true).setIfInBounds j true) ((a.put (some di) u).put (some dj) v) w := by
    refine wpAny_next hrij hok gk (wp_of_gives hk ?_)
    rintro y w' ⟨rfl, rfl⟩
    rw [ek]
    exact h
  refine ⟨fun h0 => absurd (hr.symm.trans h0) (by simp), fun q hq => ?_⟩
  rw [hr] at hq
  simp only [List.mem_cons, List.not_mem_nil, or_false] at hq
  rcases hq with rfl | rfl
  · unfold wpOp
    simp only [hoi]
    rw [if_pos (by simp [Region.wanted, gi])]
    refine .inl (wp_of_gives hi ?_)
    rintro y w' ⟨rfl, rfl⟩
    rw [ei]
    refine ⟨fun h0 => absurd (hri.symm.trans h0) (by simp), fun q' hq' => ?_⟩
    rw [hri] at hq'
    simp only [List.mem_cons, List.not_mem_nil, or_false] at hq'
    rcases hq' with rfl | rfl
    · unfold wpOp
      simp only [hoj]
      rw [if_pos (by simp [Region.wanted, gj])]
      refine .inl (wp_of_gives hj' ?_)
      rintro y w' ⟨rfl, rfl⟩
      rw [ej]
      exact hK
    · unfold wpOp
      simp only [hok]
      rw [if_pos (by simp [Region.wanted, gk])]
      refine .inl (wp_of_gives hk' ?_)
      rintro y w' ⟨rfl, rfl⟩
      rw [ek]
      refine wpAny_next hrik hoj gj (wp_of_gives hj'' ?_)
      rintro y w' ⟨rfl, rfl⟩
      rw [ej, hc', hl']
      exact h
  · unfold wpOp
    simp only [hoj]
    rw [if_pos (by simp [Region.wanted, gj])]
    refine .inl (wp_of_gives hj ?_)
    rintro y w' ⟨rfl, rfl⟩
    rw [ej]
    refine wpAny_next hrj hoi gi (wp_of_gives hi' ?_)
    rintro y w' ⟨rfl, rfl⟩
    rw [ei, hc, hl]
    exact hK
theorem asg_w {o : Oper} {a : Act} {w : World} {x : Operand} {v : Value} (ho : o.op = .assign x) (h : a.eval x = v) : gives Try.prog o a.eval w (fun y w' => y = v ∧ w' = w) := gives_assign x ho ⟨h, rfl⟩
theorem ext_w {o : Oper} {a : Act} {w : World} {t : Tmp} {i : Nat} {vs : Array Value} {x : Value} (ho : o.op = .extract (.tmp t) i) (h : tv a t = .tuple vs) (hx : vs[i]? = some x) : gives Try.prog o a.eval w (fun v w' => v = x ∧ w' = w) := by
  refine gives_val x ?_ ⟨rfl, rfl⟩
  unfold execOp
  rw [ho]
  simp only [eval_tmp, h]
  go_simp
theorem wp_move {o : Oper} {a : Act} {w : World} {K : Act → World → Prop} {Q : Exit → Act → World → Prop} (t : Tmp) (x : Operand) (ho : o.op = .move x) (hd : o.dst = some t) (v : Value) (hv : a.eval x = v) (h : K (a.put (some t) v) w) : o.wp Try.prog a w K Q := by
  rw [← hd, ← hv] at h
  unfold Oper.wp execOp
  rw [ho]
  exact h
theorem wp_call2 {P : Program} {o : Oper} {a : Act} {w : World} {K : Act → World → Prop} {Q : Exit → Act → World → Prop} {f : FuncId} {x y : Operand} {ts : Array TypeId} (ho : o.op = .call { callee := .value (.func f), args := #[x, y], argTypes := ts }) (hf : callsB P f = true) (d : Tmp) (hd : o.dst = some d) (u v : Value) (hu : a.eval x = u) (hv : a.eval y = v)
    (h : Calls P f #[u, v] w (fun e w'' => ∃ v, e = .returned v ∧ K (a.put (some d) v) w'')) : Oper.wp P o a w K Q := by
  rw [← hd, ← hu, ← hv] at h
  exact wp_of_gives (K := fun v w' => K (a.put o.dst v) w') (gives_call2 f x y ts ho hf h) (fun _ _ h => h)
/-- The cells of a solution are set. -/
theorem store_sol {o : Oper} {a : Act} {w : World} {t u : Tmp} {g : Nat} {v0 v1 v2 v3 v4 v5 v6 u0 u1 u2 u3 u4 u5 u6 : Value} {K : Act → World → Prop} {Q : Exit → Act → World → Prop} (ho : o.op = .store 79 (.tmp t) (.tmp u)) (hd : o.dst = none) (ht : a.eval (.tmp t) = .pointer (some ⟨g, 0, none⟩)) (hu : a.eval (.tmp u) = .agg #[u0, u1, u2, u3, u4, u5, u6])
    (hr : Blk w g 79 #[v0, v1, v2, v3, v4, v5, v6]) (hcl : ∀ u ∈ [v0, v1, v2, v3, v4, v5, v6], ∀ x, u ≠ .int .u32 x) (h1 : #[u0, u1, u2, u3, u4, u5, u6].all (·.oneCell') = true) (h2 : ∀ u ∈ [u0, u1, u2, u3, u4, u5, u6], ∀ x, u ≠ .int .u32 x)
    (next : ∀ w', KeepsN w w' → w.grownBy w' (some g) → w'.heap.size = w.heap.size → Blk w' g 79 #[u0, u1, u2, u3, u4, u5, u6] → K a w') : o.wp Try.prog a w K Q := by
  refine wp_store_mid 79 (.tmp t) (.tmp u) ho g 0 #[u0, u1, u2, u3, u4, u5, u6] ht hu (fun i hi => ⟨?_, hr.frozen _⟩) (by kernel_rfl) h1 ?_
  · rw [hr.cell]
    have hi7 : i < 7 := by simpa using hi
    rw [Nat.zero_add, Array.getElem?_eq_getElem hi7]; rfl
  · rw [hd]
    have b0 : Blk (w.setCell ⟨g, 0, none⟩ u0) g 79 #[u0, v1, v2, v3, v4, v5, v6] := hr.set_ 0 u0
    have b1 : Blk ((w.setCell ⟨g, 0, none⟩ u0).setCell ⟨g, 1, none⟩ u1) g 79 #[u0, u1, v2, v3, v4, v5, v6] := b0.set_ 1 u1
    have b2 : Blk (((w.setCell ⟨g, 0, none⟩ u0).setCell ⟨g, 1, none⟩ u1).setCell ⟨g, 2, none⟩ u2) g 79 #[u0, u1, u2, v3, v4, v5, v6] := b1.set_ 2 u2
    have b3 : Blk ((((w.setCell ⟨g, 0, none⟩ u0).setCell ⟨g, 1, none⟩ u1).setCell ⟨g, 2, none⟩ u2).setCell ⟨g, 3, none⟩ u3) g 79 #[u0, u1, u2, u3, v4, v5, v6] := b2.set_ 3 u3
    have b4 : Blk (((((w.setCell ⟨g, 0, none⟩ u0).setCell ⟨g, 1, none⟩ u1).setCell ⟨g, 2, none⟩ u2).setCell ⟨g, 3, none⟩ u3).setCell ⟨g, 4, none⟩ u4) g 79 #[u0, u1, u2, u3, u4, v5, v6] := b3.set_ 4 u4
    have b5 : Blk ((((((w.setCell ⟨g, 0, none⟩ u0).setCell ⟨g, 1, none⟩ u1).setCell ⟨g, 2, none⟩ u2).setCell ⟨g, 3, none⟩ u3).setCell ⟨g, 4, none⟩ u4).setCell ⟨g, 5, none⟩ u5) g 79 #[u0, u1, u2, u3, u4, u5, v6] := b4.set_ 5 u5
    have b6 : Blk (((((((w.setCell ⟨g, 0, none⟩ u0).setCell ⟨g, 1, none⟩ u1).setCell ⟨g, 2, none⟩ u2).setCell ⟨g, 3, none⟩ u3).setCell ⟨g, 4, none⟩ u4).setCell ⟨g, 5, none⟩ u5).setCell ⟨g, 6, none⟩ u6) g 79 #[u0, u1, u2, u3, u4, u5, u6] := b5.set_ 6 u6
    have q0 : ∀ x, v0 ≠ .int .u32 x := hcl v0 (by simp)
    have q1 : ∀ x, v1 ≠ .int .u32 x := hcl v1 (by simp)
    have q2 : ∀ x, v2 ≠ .int .u32 x := hcl v2 (by simp)
    have q3 : ∀ x, v3 ≠ .int .u32 x := hcl v3 (by simp)
    have q4 : ∀ x, v4 ≠ .int .u32 x := hcl v4 (by simp)
    have q5 : ∀ x, v5 ≠ .int .u32 x := hcl v5 (by simp)
    have q6 : ∀ x, v6 ≠ .int .u32 x := hcl v6 (by simp)
    have kp := ((((((KeepsN.blk hr (i := 0) (by show 0 < 7; omega) (by intro x; simpa using q0 x) u0).trans
      (KeepsN.blk b0 (i := 1) (by show 1 < 7; omega) (by intro x; simpa using q1 x) u1)).trans
      (KeepsN.blk b1 (i := 2) (by show 2 < 7; omega) (by intro x; simpa using q2 x) u2)).trans
      (KeepsN.blk b2 (i := 3) (by show 3 < 7; omega) (by intro x; simpa using q3 x) u3)).trans
      (KeepsN.blk b3 (i := 4) (by show 4 < 7; omega) (by intro x; simpa using q4 x) u4)).trans
      (KeepsN.blk b4 (i := 5) (by show 5 < 7; omega) (by intro x; simpa using q5 x) u5)).trans
      (KeepsN.blk b5 (i := 6) (by show 6 < 7; omega) (by intro x; simpa using q6 x) u6)
    exact next _ kp (only_setCells _ _ _ (World.grownBy.refl w _)) (by show (((((((w.setCell _ _).setCell _ _).setCell _ _).setCell _ _).setCell _ _).setCell _ _).setCell _ _).heap.size = _; simp only [size_setCell]) b6
theorem built_inf (z : Int) (A : Option Addr) (n c : Nat) (s : Bool) (A0 B0 : Option Addr) (k0 q0 m0 d0 : Nat) : Try.prog.built 79 [(0, .int .i64 z), (2, .slice A n c), (4, .agg #[.bool s, .slice A0 k0 q0, .slice B0 m0 d0])] = some #[.int .i64 z, .slice none 0 0, .slice A n c, .slice none 0 0, .bool s, .slice A0 k0 q0, .slice B0 m0 d0] := by kernel_rfl
theorem built_unb (z : Int) (A A' : Option Addr) (n c n' c' : Nat) (s : Bool) (A0 B0 : Option Addr) (k0 q0 m0 d0 : Nat) : Try.prog.built 79 [(0, .int .i64 z), (1, .slice A n c), (3, .slice A' n' c'), (4, .agg #[.bool s, .slice A0 k0 q0, .slice B0 m0 d0])] = some #[.int .i64 z, .slice A n c, .slice none 0 0, .slice A' n' c', .bool s, .slice A0 k0 q0, .slice B0 m0 d0] := by kernel_rfl
theorem built_opt (z : Int) (A A' : Option Addr) (n c n' c' : Nat) (s : Bool) (A0 B0 : Option Addr) (k0 q0 m0 d0 : Nat) : Try.prog.built 79 [(0, .int .i64 z), (1, .slice A n c), (2, .slice A' n' c'), (4, .agg #[.bool s, .slice A0 k0 q0, .slice B0 m0 d0])] = some #[.int .i64 z, .slice A n c, .slice A' n' c', .slice none 0 0, .bool s, .slice A0 k0 q0, .slice B0 m0 d0] := by kernel_rfl
set_option maxRecDepth 100000 in
set_option maxHeartbeats 8000000 in
theorem Solve_ok (n m N b cC cA cB : Nat) (AC AA AB : Option Addr) (Ar : Nat → Option Addr) (ln cp : Nat → Nat) (A : Nat → Nat → Rat) (C B : Nat → Rat) (D a : Nat) (w : World) (hP : PrW w b n m m AC AA AB Ar ln cp A C B) (hl : ∀ i, i < m → ln i = n) (hN : N = n + m + 2) (hn64 : n ≤ 64) (hm64 : m ≤ 64) (hb2 : 2 ≤ b) (hb0 : b ≤ 1000) (hFr : FracP n m D a A B C) (hbit : bitsT m a < 32 * b) :
    Calls Try.prog 34 #[.agg #[.slice AC n cC, .slice AA m cA, .slice AB m cB]] w (RV w (fun v w' => ∃ u q, v = .tuple #[u, .int .i64 0] ∧ SolveIs n m A B C q ∧ SolV n m b q u w')) := by
  have HP := Lib.hid hP; clear hP
  have HL := Lib.hid hl; clear hl
  have HFr := Lib.hid hFr; clear hFr
  have HBt := Lib.hid hbit; clear hbit
  have hN2 : N ≤ 1000 := by omega
  have HN := Lib.hid hN; clear hN
  have n1 : ¬ ((n : Int) > 64) := by omega
  have n2 : ¬ ((m : Int) > 64) := by omega
  go_enter Try.func34, Try.ntmps34
  go_upto_region 1 with (fail)
  have TQ := Lib.hid ((Blk.new w 75 #[.slice AC n cC, .slice AA m cA, .slice AB m cB]).keep (al _ (.cells #[.int .i64 0, .slice none 0 0, .slice none 0 0, .slice none 0 0, .bool false, .slice none 0 0, .slice none 0 0] 79)))
  have TS := Lib.hid (Blk.new (w.alloc (.cells #[.slice AC n cC, .slice AA m cA, .slice AB m cB] 75)) 79 #[.int .i64 0, .slice none 0 0, .slice none 0 0, .slice none 0 0, .bool false, .slice none 0 0, .slice none 0 0])
  have HB := Lib.hid (bthen (al w (.cells #[.slice AC n cC, .slice AA m cA, .slice AB m cB] 75)) (al _ (.cells #[.int .i64 0, .slice none 0 0, .slice none 0 0, .slice none 0 0, .bool false, .slice none 0 0, .slice none 0 0] 79)) (by simp))
  rw [show (w.alloc (.cells #[.slice AC n cC, .slice AA m cA, .slice AB m cB] 75)).heap.size = w.heap.size + 1 from Array.size_push _] at TS
  generalize (w.alloc (.cells #[.slice AC n cC, .slice AA m cA, .slice AB m cB] 75)).alloc (.cells #[.int .i64 0, .slice none 0 0, .slice none 0 0, .slice none 0 0, .bool false, .slice none 0 0, .slice none 0 0] 79) = w1 at *
  obtain ⟨gs, hgs⟩ : ∃ gs, gs = w.heap.size + 1 := ⟨_, rfl⟩
  obtain ⟨gq, hgq⟩ : ∃ gq, gq = w.heap.size := ⟨_, rfl⟩
  rw [← hgs] at TS ⊢
  rw [← hgq] at TQ ⊢
  have HG := Lib.hid (show w.heap.size ≤ gs by omega); clear hgs hgq
  have c0 := Blk.at0 TQ.out (Below.refl _ _); have c1 := Blk.at1 TQ.out (Below.refl _ _); have c2 := Blk.at2 TQ.out (Below.refl _ _)
  go_wp2_with fail
  refine (valid_any n m m cC cA cB AC AA AB Ar ln cp w1 (HP.out.new HB.out).a (by omega)).mono ?_
  rintro e w2 ⟨t, rfl, hb, ht⟩
  obtain rfl : t = true := ht.2 ⟨rfl, HL.out⟩
  clear ht c0 c1 c2
  have TQ2 := Lib.hid (TQ.out.keep hb); have TS2 := Lib.hid (TS.out.keep hb); have HB2 := Lib.hid (bthen HB.out hb HB.out.size)
  clear TQ TS HB hb
  have c0 := Blk.at0 TQ2.out (Below.refl _ _); have c1 := Blk.at1 TQ2.out (Below.refl _ _); have c2 := Blk.at2 TQ2.out (Below.refl _ _)
  go_wp2_with fail
  refine (newTableau_any n m N b cC cA cB AC AA AB Ar ln cp A C B w2 (HP.out.new HB2.out) HL.out HN.out hN2 hb2 hb0).mono ?_
  rintro e w3 ⟨p, cr, cb, Atr, Atb, rs, rfl, hT, hb⟩
  clear c0 c1 c2
  have TQ := Lib.hid (TQ2.out.keep hb); have TS := Lib.hid (TS2.out.keep hb)
  have HQs := Lib.hid (And.intro TQ2.out.lt TS2.out.lt)
  have HB := Lib.hid (bthen HB2.out hb HB2.out.size); have HT := Lib.hid hT
  clear hb hT
  obtain ⟨bs, hbs⟩ : ∃ bs, bs = w2.heap.size := ⟨_, rfl⟩
  rw [← hbs] at HT HQs
  have HW := Lib.hid (show w.heap.size ≤ bs from by rw [hbs]; exact HB2.out.size); clear hbs HB2 TQ2 TS2
  go_wp2_with fail
  refine (feasible_any bs p n m N b 0 0 cr cb none Atr Atb rs A B w3 HT.out (fun hm F c e1 e2 => by have h := HFr.out.fit1 HBt.out hm c e1 e2; rw [← HN.out] at h; exact h) hN2 hb0 hb2).mono ?_
  rintro e w4 ⟨ok, S, rs4, rfl, hph, hb, hk⟩
  have HPh := Lib.hid hph; clear hph
  have TQ4 := Lib.hid (show Blk w4 gq 75 #[.slice AC n cC, .slice AA m cA, .slice AB m cB] from TQ.out.below hb HQs.out.1)
  have TS4 := Lib.hid (show Blk w4 gs 79 #[.int .i64 0, .slice none 0 0, .slice none 0 0, .slice none 0 0, .bool false, .slice none 0 0, .slice none 0 0] from TS.out.below hb HQs.out.2)
  have HB4 := Lib.hid (show Below w.heap.size w w4 from HB.out.trans (hb.mono HW.out))
  have HK := Lib.hid hk
  clear TQ TS HB hb HT hk
  cases ok with
  | false =>
    obtain ⟨gg, hT⟩ : ∃ gg : Nat, TabW bs w4 p n m N b gg Atr cr Atb cb rs4 S := by
      rcases HK.out with ⟨h, _⟩ | ⟨_, h⟩
      · cases h
      · exact h
    have HT := Lib.hid hT; clear hT HK
    go_upto_region 7 with (fail)
    refine wp_region_joins (kss := [[], [(0, 27)], []]) [(4, .pointer (some ⟨p, 0, none⟩))] [EV (.pointer (some ⟨p, 0, none⟩)), fun v w' => ∃ g0 : Nat, v = .slice (some ⟨g0, 0, none⟩) m m ∧ RB w' g0 m (PN w' b (fun j => S.G (n + j))), Rv (2) (((0 : Int) : Rat))] 3 (by kernel_rfl) ⟨rfl, trivial⟩ [false, false, false] ?_ ?_ ?_
    · exact ⟨eI, fun _ _ _ ⟨g0, h1, h2⟩ hb => ⟨g0, h1, h2.newN hb⟩, fun _ _ _ h hb => h.new hb, trivial⟩
    · refine ⟨?_, ?_, ?_, trivial⟩
      · exact fun _ _ _ he hd => ob_mv rfl rfl he.1
      · exact fun aa ww hb he hd => ob_plain rfl (gives_call1 _ _ _ rfl (by kernel_rfl) (by rw [show aa.eval (.tmp 27) = .pointer (some ⟨p, 0, none⟩) from hd.1]; exact (dual_any bs p n m N b gg cr cb Atr Atb rs4 S _ (TabW.new HT.out hb) hN2 hb0 hb2).mono rowx_rv))
      · exact fun aa ww hb he hd => ob_plain rfl (gives_call1 _ _ _ rfl (by kernel_rfl) (int_w (0) (by omega) (by omega) _ rfl _))
    intro vs w5 hb hR
    have r28 := hR 1 (by decide)
    have r29 : Rv (2) (((0 : Int) : Rat)) (vs 2) w5 := hR 2 (by decide)
    clear hR
    simp only [putsL, Nat.zero_add, Nat.reduceAdd, List.take_succ_cons, List.take_zero, Act.put, List.setIfInBounds_toArray, List.set_cons_zero, List.set_cons_succ]
    obtain ⟨gd, e28, hY⟩ := (show ∃ g0 : Nat, vs 1 = .slice (some ⟨g0, 0, none⟩) m m ∧ RB w5 g0 m (PN w5 b (fun j => S.G (n + j))) from r28)
    have r29' : Rv b 0 (vs 2) w5 := by
      have h := r29
      rw [show ((0 : Int) : Rat) = 0 from by simp] at h
      exact Rv.more h hb2
    obtain ⟨s, A0, k0, q0, B0, m0, d0, e29⟩ := r29'.rw.agg
    rw [e28, e29]
    rw [e29] at r29'
    clear r28 r29 e28 e29
    show wpOps _ _ _ [3, 4, 5] _ _
    refine wpOps_next rfl rfl (wp_build3 rfl rfl rfl rfl (built_inf 1 (some ⟨gd, 0, none⟩) m m s A0 B0 k0 q0 m0 d0) 30 rfl ?_)
    simp only [Act.put, List.setIfInBounds_toArray, List.set_cons_zero, List.set_cons_succ]
    refine wpOps_next rfl rfl (store_sol rfl rfl rfl rfl (TS4.out.keep hb) (by simp) (by simp [Value.oneCell']) (by simp) ?_)
    intro w6 kp hg hsz hS
    refine wpOps_next rfl rfl (wp_assign 3 (.const (.int .i64 0)) rfl rfl (.int .i64 0) rfl ?_)
    simp only [Act.put, List.setIfInBounds_toArray, List.set_cons_zero, List.set_cons_succ]
    show Exit.then _ _ _ _ _
    have hne : gd ≠ gs := by obtain ⟨cs, hc, -⟩ := hY; exact Blk.ne_ hc (TS4.out.keep hb) (by decide)
    have HY := Lib.hid (hY.grown hg hne (Q := PN w6 b (fun j => S.G (n + j))) (fun j v _ hv => PN.keep hv kp))
    have HV := Lib.hid (r29'.keepN kp)
    have HB6 := Lib.hid ((bthen HB4.out hb HB4.out.size).grown hg (bthen HB4.out hb HB4.out.size).size (fun x hx => by cases hx; exact HG.out))
    have HS := Lib.hid hS
    clear hY r29' hb kp hg hsz hS hne
    go_wp2_with fail
    refine bodyPost_ret (v := .tuple #[.agg #[.int .i64 1, .slice none 0 0, .slice (some ⟨gd, 0, none⟩) m m, .slice none 0 0, .bool s, .slice A0 k0 q0, .slice B0 m0 d0], .int .i64 0]) (results_cell_tmp Try.results34 _ _ _ _ _ (0, 0) _ rfl HS.out Try.underlying79 rfl rfl) rfl ?_
    exact ⟨_, rfl, ⟨_, resInf n m S, rfl, ⟨S, false, HPh.out, .inl ⟨rfl, rfl⟩⟩, none, 0, 0, _, m, m, none, 0, 0, s, A0, k0, q0, B0, m0, d0, rfl, .inr (.inl ⟨rfl, rfl, rfl, rfl⟩), Rs.nil _ _ _, Rs.of_rb HY.out, Rs.nil _ _ _, HV.out⟩, HB6.out⟩
  | true =>
    obtain ⟨A3, n3, d3, hT⟩ : ∃ (A3 : Option Addr) (n3 d3 : Nat), Tab0 bs w4 p n m N b A3 n3 d3 Atr cr Atb cb rs4 S := by
      rcases HK.out with ⟨_, h⟩ | ⟨h, _⟩
      · exact h
      · cases h
    have HT := Lib.hid hT; clear hT HK
    have c0 := Blk.at0 TQ4.out (Below.refl _ _)
    go_wp2_with fail
    have HGd := Lib.hid HPh.out.good
    have HOb := Lib.hid (HPh.out.obj C)
    refine (objective_any bs p n m N b n3 d3 cr cb cC A3 Atr Atb AC rs4 S C w4 HT.out (fun w' hb => HP.out.c.newW ((HB4.out.trans (hb.mono HW.out)))) (fun i hi j hj => HFr.out.fitG HBt.out HGd.out.1 HGd.out.2.2.1 HGd.out.2.2.2.1 i hi j (by rw [← HN.out]; exact hj)) hN2 hb0 hb2).mono ?_
    rintro e w5 ⟨gg5, rfl, hT5, hb⟩
    have HT5 := Lib.hid hT5
    have TQ5 := Lib.hid (show Blk w5 gq 75 #[.slice AC n cC, .slice AA m cA, .slice AB m cB] from TQ4.out.below hb HQs.out.1)
    have TS5 := Lib.hid (show Blk w5 gs 79 #[.int .i64 0, .slice none 0 0, .slice none 0 0, .slice none 0 0, .bool false, .slice none 0 0, .slice none 0 0] from TS4.out.below hb HQs.out.2)
    have HB5 := Lib.hid (show Below w.heap.size w w5 from HB4.out.trans (hb.mono HW.out))
    clear c0 hT5 hb HT TQ4 TS4 HB4
    have c0 := HT5.out.c0; have c1 := HT5.out.c1; have pl := HT5.out.blk.lt
    go_upto_region 9 with (fail)
    refine wp_region_join (kss := [[], [], [(1, 37)], [(2, 38)], [(3, 39)], [], [(5, 41)], [(6, 42)], [(7, 43)], [(4, 40), (8, 44)]]) [(4, .pointer (some ⟨p, 0, none⟩))] [EV (.pointer (some ⟨p, 0, none⟩)), EV (.pointer (some ⟨p, 0, none⟩)), EV (.pointer (some ⟨p, 0, none⟩)), EV (.pointer (some ⟨p, 0, none⟩)), EV (.int .i64 ((n : Int))), EV (.pointer (some ⟨p, 0, none⟩)), EV (.pointer (some ⟨p, 0, none⟩)), EV (.pointer (some ⟨p, 1, none⟩)), EV (.int .i64 ((m : Int))), EV (.int .i64 (((n + m : Nat) : Int)))] 10 [] (by kernel_rfl) (by kernel_rfl) ⟨rfl, trivial⟩ [false, false, false, false, false, false, false, false, false, false] ?_ ?_ ?_ ?_
    · exact fun i hi => absurd hi (by simp)
    · exact ⟨eI, eI, eI, eI, eI, eI, eI, eI, eI, eI, trivial⟩
    · refine ⟨?_, ?_, ?_, ?_, ?_, ?_, ?_, ?_, ?_, ?_, trivial⟩
      · exact fun _ _ _ he hd => ob_mv rfl rfl he.1
      · exact fun _ _ _ he hd => ob_mv rfl rfl he.1
      · exact fun aa ww hb he hd => ob_plain rfl (nil_c rfl hd.1)
      · exact fun aa ww hb he hd => ob_plain rfl (fld_tab rfl (by decide) hd.1)
      · exact fun aa ww hb he hd => ob_plain rfl (load_c3 rfl hd.1 (TabW.new HT5.out hb).c0)
      · exact fun _ _ _ he hd => ob_mv rfl rfl he.1
      · exact fun aa ww hb he hd => ob_plain rfl (nil_c rfl hd.1)
      · exact fun aa ww hb he hd => ob_plain rfl (fld_tab rfl (by decide) hd.1)
      · exact fun aa ww hb he hd => ob_plain rfl (load_c3 rfl hd.1 (TabW.new HT5.out hb).c1)
      · exact fun aa ww hb he hd => ob_plain rfl (gives_add_nat n m (n + m) rfl hd.1 hd.2.1 (by first | rfl | omega) (by omega))
    intro vs w6 hb hR _
    have e36 : vs 0 = .pointer (some ⟨p, 0, none⟩) := hR 0 (by decide)
    have e45 : vs 9 = .int .i64 (((n + m : Nat) : Int)) := hR 9 (by decide)
    clear hR
    simp only [putsL, Nat.zero_add, Nat.reduceAdd, List.take_succ_cons, List.take_zero, Act.put, List.setIfInBounds_toArray, List.set_cons_zero, List.set_cons_succ]
    rw [e36, e45]
    clear e36 e45
    have HT6 := Lib.hid (HT5.out.new hb)
    show wpAny _ _ _ _ 6 _ _ _
    refine wpAny_next (i := 10) (by kernel_rfl) rfl rfl (wp_call2 rfl (by kernel_rfl) 46 rfl _ _ rfl rfl ?_)
    refine (maximize_any bs p n m N b gg5 cr cb (n + m) Atr Atb rs4 ⟨S.T, objG S C n m, S.b⟩ w6 HT6.out (n + m + 1) rfl (by omega) HOb.out.1 HOb.out.2.1 (fun S' q1 q2 q3 => by have h := HFr.out.fit2 HBt.out q1 (HOb.out.2.2.1.trans q2) (q3.trans HOb.out.2.2.2); rw [← HN.out] at h; exact h) hN2 hb0 (by omega)).mono ?_
    rintro e w7 ⟨K, S5, gg, rs7, z, t, rfl, hrun, hend, hT7, hb7⟩
    refine ⟨_, rfl, ?_⟩
    simp only [Act.put, List.setIfInBounds_toArray, List.set_cons_zero, List.set_cons_succ]
    refine wpAny_next (i := 11) (by kernel_rfl) rfl rfl (wp_move 35 _ rfl rfl (.tuple #[.int .i64 z, .bool t]) rfl ?_)
    simp only [Act.put, List.setIfInBounds_toArray, List.set_cons_zero, List.set_cons_succ]
    have PUT2 : True := trivial
    refine wpAny_three (i := 12) (j := 13) (k := 14) (by kernel_rfl) (by kernel_rfl) (by kernel_rfl) (by kernel_rfl) (by kernel_rfl) rfl rfl rfl rfl rfl rfl 47 48 5 rfl rfl rfl (.int .i64 z) (.bool t) (.int .i64 z) (ext_w rfl rfl rfl) (ext_w rfl rfl rfl) (ext_w rfl rfl rfl) (ext_w rfl rfl rfl) (ext_w rfl rfl rfl) (asg_w rfl rfl) (asg_w rfl rfl) (by simp only [Act.put, List.setIfInBounds_toArray, List.set_cons_zero, List.set_cons_succ]) (by simp only [Act.put, List.setIfInBounds_toArray, List.set_cons_zero, List.set_cons_succ]) (by kernel_rfl) (by kernel_rfl) ?_
    clear PUT2
    simp only [Act.put, List.setIfInBounds_toArray, List.set_cons_zero, List.set_cons_succ]
    refine wpAny_next (i := 15) (by kernel_rfl) rfl rfl (wp_assign 6 _ rfl rfl (.bool t) rfl ?_)
    simp only [Act.put, List.setIfInBounds_toArray, List.set_cons_zero, List.set_cons_succ]
    refine wpAny_end (by kernel_rfl) (calm_normal ?_) _
    have HRun := Lib.hid hrun; have HEnd := Lib.hid hend
    have HT := Lib.hid hT7
    have hb7' : Below bs w5 w7 := (hb.mono HT5.out.low.2.1).trans hb7
    have TQ := Lib.hid (show Blk w7 gq 75 #[.slice AC n cC, .slice AA m cA, .slice AB m cB] from TQ5.out.below hb7' HQs.out.1)
    have TS := Lib.hid (show Blk w7 gs 79 #[.int .i64 0, .slice none 0 0, .slice none 0 0, .slice none 0 0, .bool false, .slice none 0 0, .slice none 0 0] from TS5.out.below hb7' HQs.out.2)
    have HB := Lib.hid (show Below w.heap.size w w7 from HB5.out.trans (hb7'.mono HW.out))
    clear hrun hend hT7 hb hb7 hb7' TQ5 TS5 HB5 HT5 HT6 c0 c1 pl
    cases t with
    | false =>
      obtain ⟨kk, rfl, hkk0, hend1⟩ : ∃ kk : Nat, z = ((kk : Nat) : Int) ∧ kk < n + m ∧ MxEnd m (n + m) S5 ((kk : Nat) : Int) false := by
        rcases HEnd.out with ⟨h, _⟩ | ⟨_, j, hz, h1, h2⟩
        · cases h
        · exact ⟨j, hz, h1, by rw [← hz]; exact HEnd.out⟩
      have hkk : kk < N := by have := HN.out; omega
      go_upto_region 11 with (fail)
      refine wp_region_joins (kss := [[], [(0, 51)], [], [], [(2, 53), (3, 54)], []]) [(4, .pointer (some ⟨p, 0, none⟩)), (5, .int .i64 (((kk : Nat) : Int)))] [EV (.pointer (some ⟨p, 0, none⟩)), fun v w' => ∃ g0 : Nat, v = .slice (some ⟨g0, 0, none⟩) n n ∧ RB w' g0 n (PN w' b (basX S5 (fun i => S5.T i (n + m + 1)) (fun _ => 0) n m)), EV (.pointer (some ⟨p, 0, none⟩)), EV (.int .i64 (((kk : Nat) : Int))), fun v w' => ∃ g0 : Nat, v = .slice (some ⟨g0, 0, none⟩) n n ∧ RB w' g0 n (PN w' b (basX S5 (fun i => -(S5.T i kk)) (fun j => if j = kk then 1 else 0) n m)), Rv (2) (((0 : Int) : Rat))] 6 (by kernel_rfl) ⟨rfl, rfl, trivial⟩ [false, false, false, false, false, false] ?_ ?_ ?_
      · exact ⟨eI, fun _ _ _ ⟨g0, h1, h2⟩ hb => ⟨g0, h1, h2.newN hb⟩, eI, eI, fun _ _ _ ⟨g0, h1, h2⟩ hb => ⟨g0, h1, h2.newN hb⟩, fun _ _ _ h hb => h.new hb, trivial⟩
      · refine ⟨?_, ?_, ?_, ?_, ?_, ?_, trivial⟩
        · exact fun _ _ _ he hd => ob_mv rfl rfl he.1
        · exact fun aa ww hb he hd => ob_plain rfl (gives_call1 _ _ _ rfl (by kernel_rfl) (by rw [show aa.eval (.tmp 51) = .pointer (some ⟨p, 0, none⟩) from hd.1]; exact (point_any bs p n m N b gg cr cb Atr Atb rs7 S5 _ (TabW.new HT.out hb) hN2 hb0 hb2).mono rowx_rv))
        · exact fun _ _ _ he hd => ob_mv rfl rfl he.1
        · exact fun _ _ _ he hd => ob_mv rfl rfl he.2.1
        · exact fun aa ww hb he hd => ob_plain rfl (gives_call2 _ _ _ _ rfl (by kernel_rfl) (by rw [show aa.eval (.tmp 53) = .pointer (some ⟨p, 0, none⟩) from hd.1, show aa.eval (.tmp 54) = .int .i64 ((kk : Nat) : Int) from hd.2.1]; exact (ray_any bs p n m N b gg cr cb kk Atr Atb rs7 S5 _ (TabW.new HT.out hb) hkk hN2 hb0 hb2).mono rowx_rv))
        · exact fun aa ww hb he hd => ob_plain rfl (gives_call1 _ _ _ rfl (by kernel_rfl) (int_w (0) (by omega) (by omega) _ rfl _))
      intro vs w8 hb hR
      have r52 := hR 1 (by decide)
      have r55 := hR 4 (by decide)
      have r56 : Rv (2) (((0 : Int) : Rat)) (vs 5) w8 := hR 5 (by decide)
      clear hR
      simp only [putsL, Nat.zero_add, Nat.reduceAdd, List.take_succ_cons, List.take_zero, Act.put, List.setIfInBounds_toArray, List.set_cons_zero, List.set_cons_succ]
      obtain ⟨g1, e52, hX⟩ := (show ∃ g0 : Nat, vs 1 = .slice (some ⟨g0, 0, none⟩) n n ∧ RB w8 g0 n (PN w8 b (basX S5 (fun i => S5.T i (n + m + 1)) (fun _ => 0) n m)) from r52)
      obtain ⟨g2, e55, hY⟩ := (show ∃ g0 : Nat, vs 4 = .slice (some ⟨g0, 0, none⟩) n n ∧ RB w8 g0 n (PN w8 b (basX S5 (fun i => -(S5.T i kk)) (fun j => if j = kk then 1 else 0) n m)) from r55)
      have rV : Rv b 0 (vs 5) w8 := by
        have h := r56
        rw [show ((0 : Int) : Rat) = 0 from by simp] at h
        exact Rv.more h hb2
      obtain ⟨s, A0, k0, q0, B0, m0, d0, e56⟩ := rV.rw.agg
      rw [e52, e55, e56]
      rw [e56] at rV
      clear r52 r55 r56 e52 e55 e56
      show wpOps _ _ _ [6, 7, 8] _ _
      refine wpOps_next rfl rfl (wp_build4 rfl rfl rfl rfl rfl (built_unb 2 (some ⟨g1, 0, none⟩) (some ⟨g2, 0, none⟩) n n n n s A0 B0 k0 q0 m0 d0) 57 rfl ?_)
      simp only [Act.put, List.setIfInBounds_toArray, List.set_cons_zero, List.set_cons_succ]
      refine wpOps_next rfl rfl (store_sol rfl rfl rfl rfl (TS.out.keep hb) (by simp) (by simp [Value.oneCell']) (by simp) ?_)
      intro w9 kp hg hsz hS
      refine wpOps_next rfl rfl (wp_assign 3 (.const (.int .i64 0)) rfl rfl (.int .i64 0) rfl ?_)
      simp only [Act.put, List.setIfInBounds_toArray, List.set_cons_zero, List.set_cons_succ]
      show Exit.then _ _ _ _ _
      have hne1 : g1 ≠ gs := by obtain ⟨cs, hc, -⟩ := hX; exact Blk.ne_ hc (TS.out.keep hb) (by decide)
      have hne2 : g2 ≠ gs := by obtain ⟨cs, hc, -⟩ := hY; exact Blk.ne_ hc (TS.out.keep hb) (by decide)
      have HX := Lib.hid (hX.grown hg hne1 (Q := PN w9 b (basX S5 (fun i => S5.T i (n + m + 1)) (fun _ => 0) n m)) (fun j v _ hv => PN.keep hv kp))
      have HY := Lib.hid (hY.grown hg hne2 (Q := PN w9 b (basX S5 (fun i => -(S5.T i kk)) (fun j => if j = kk then 1 else 0) n m)) (fun j v _ hv => PN.keep hv kp))
      have HV := Lib.hid (rV.keepN kp)
      have HB9 := Lib.hid ((bthen HB.out hb HB.out.size).grown hg (bthen HB.out hb HB.out.size).size (fun x hx => by cases hx; exact HG.out))
      have HS := Lib.hid hS
      clear hX hY rV hb kp hg hsz hS hne1 hne2
      go_wp2_with fail
      refine bodyPost_ret (v := .tuple #[.agg #[.int .i64 2, .slice (some ⟨g1, 0, none⟩) n n, .slice none 0 0, .slice (some ⟨g2, 0, none⟩) n n, .bool s, .slice A0 k0 q0, .slice B0 m0 d0], .int .i64 0]) (results_cell_tmp Try.results34 _ _ _ _ _ (0, 0) _ rfl HS.out Try.underlying79 rfl rfl) rfl ?_
      exact ⟨_, rfl, ⟨_, resUnb n m S5 kk, rfl, ⟨S, true, HPh.out, .inr ⟨rfl, K, S5, ((kk : Nat) : Int), false, HRun.out, hend1, .inr ⟨rfl, rfl⟩⟩⟩, some ⟨g1, 0, none⟩, n, n, none, 0, 0, some ⟨g2, 0, none⟩, n, n, s, A0, k0, q0, B0, m0, d0, rfl, .inr (.inr ⟨rfl, rfl, rfl, rfl⟩), Rs.of_rb HX.out, Rs.nil _ _ _, Rs.of_rb HY.out, HV.out⟩, HB9.out⟩
    | true =>
      have hrtN : n + m + 1 < N := by have := HN.out; omega
      have hmm : m ≤ 1000 := by omega
      go_upto_region 12 with (fail)
      refine wp_region_join (kss := [[], [(0, 58)], [], [(2, 60)], [], [(4, 62)], [(5, 63)], [(6, 64)], [], [(8, 66)], [(7, 65), (9, 67)], [(10, 68)]]) [(4, .pointer (some ⟨p, 0, none⟩))] [EV (.pointer (some ⟨p, 0, none⟩)), fun v w' => ∃ g0 : Nat, v = .slice (some ⟨g0, 0, none⟩) n n ∧ RB w' g0 n (PN w' b (basX S5 (fun i => S5.T i (n + m + 1)) (fun _ => 0) n m)), EV (.pointer (some ⟨p, 0, none⟩)), fun v w' => ∃ g0 : Nat, v = .slice (some ⟨g0, 0, none⟩) m m ∧ RB w' g0 m (PN w' b (fun j => S5.G (n + j))), EV (.pointer (some ⟨p, 0, none⟩)), EV (.pointer (some ⟨p, 0, none⟩)), EV (.pointer (some ⟨p, 3, none⟩)), EV (.slice (some (⟨gg, 0, none⟩)) N N), EV (.pointer (some ⟨p, 0, none⟩)), EV (.int .i64 (((n + m + 1 : Nat) : Int))), EV (.pointer (some (Addr.add (⟨gg, 0, none⟩) ((n + m + 1) * 3)))), Rv (b) ((S5.G) (n + m + 1))] 12 [] (by kernel_rfl) (by kernel_rfl) ⟨rfl, trivial⟩ [false, false, false, false, false, false, false, false, false, false, false, false] ?_ ?_ ?_ ?_
      · exact fun i hi => absurd hi (by simp)
      · exact ⟨eI, fun _ _ _ ⟨g0, h1, h2⟩ hb => ⟨g0, h1, h2.newN hb⟩, eI, fun _ _ _ ⟨g0, h1, h2⟩ hb => ⟨g0, h1, h2.newN hb⟩, eI, eI, eI, eI, eI, eI, eI, fun _ _ _ h hb => h.new hb, trivial⟩
      · refine ⟨?_, ?_, ?_, ?_, ?_, ?_, ?_, ?_, ?_, ?_, ?_, ?_, trivial⟩
        · exact fun _ _ _ he hd => ob_mv rfl rfl he.1
        · exact fun aa ww hb he hd => ob_plain rfl (gives_call1 _ _ _ rfl (by kernel_rfl) (by rw [show aa.eval (.tmp 58) = .pointer (some ⟨p, 0, none⟩) from hd.1]; exact (point_any bs p n m N b gg cr cb Atr Atb rs7 S5 _ (TabW.new HT.out hb) hN2 hb0 hb2).mono rowx_rv))
        · exact fun _ _ _ he hd => ob_mv rfl rfl he.1
        · exact fun aa ww hb he hd => ob_plain rfl (gives_call1 _ _ _ rfl (by kernel_rfl) (by rw [show aa.eval (.tmp 60) = .pointer (some ⟨p, 0, none⟩) from hd.1]; exact (dual_any bs p n m N b gg cr cb Atr Atb rs7 S5 _ (TabW.new HT.out hb) hN2 hb0 hb2).mono rowx_rv))
        · exact fun _ _ _ he hd => ob_mv rfl rfl he.1
        · exact fun aa ww hb he hd => ob_plain rfl (nil_c rfl hd.1)
        · exact fun aa ww hb he hd => ob_plain rfl (fld_tab rfl (by decide) hd.1)
        · exact fun aa ww hb he hd => ob_plain rfl (load_c28 rfl hd.1 (TabW.new HT.out hb).c3)
        · exact fun _ _ _ he hd => ob_mv rfl rfl he.1
        · exact fun aa ww hb he hd => ob_plain rfl (gives_call1 _ _ _ rfl (by kernel_rfl) (by rw [show aa.eval (.tmp 66) = .pointer (some ⟨p, 0, none⟩) from hd.1]; exact rv_one (right_any (TabW.new HT.out hb).blk (by omega) (by omega))))
        · exact fun aa ww hb he hd => ob_plain rfl (idx_rs (by omega) rfl hd.1 hd.2.1)
        · exact fun aa ww hb he hd => ob_plain rfl (load_rn rfl hd.1 (Rs.of_rb (TabW.new HT.out hb).goal) (by omega))
      intro vs w8 hb hR _
      have r59 := hR 1 (by decide)
      have r61 := hR 3 (by decide)
      have r69 : Rv (b) ((S5.G) (n + m + 1)) (vs 11) w8 := hR 11 (by decide)
      clear hR
      simp only [putsL, Nat.zero_add, Nat.reduceAdd, List.take_succ_cons, List.take_zero, Act.put, List.setIfInBounds_toArray, List.set_cons_zero, List.set_cons_succ]
      obtain ⟨g1, e59, hX⟩ := (show ∃ g0 : Nat, vs 1 = .slice (some ⟨g0, 0, none⟩) n n ∧ RB w8 g0 n (PN w8 b (basX S5 (fun i => S5.T i (n + m + 1)) (fun _ => 0) n m)) from r59)
      obtain ⟨g2, e61, hY⟩ := (show ∃ g0 : Nat, vs 3 = .slice (some ⟨g0, 0, none⟩) m m ∧ RB w8 g0 m (PN w8 b (fun j => S5.G (n + j))) from r61)
      have rV : Rv b (S5.G (n + m + 1)) (vs 11) w8 := r69
      obtain ⟨s, A0, k0, q0, B0, m0, d0, e69⟩ := rV.rw.agg
      rw [e59, e61, e69]
      rw [e69] at rV
      clear r59 r61 r69 e59 e61 e69
      show wpAny _ _ _ _ 3 _ _ _
      refine wpAny_next (i := 12) (by kernel_rfl) rfl rfl (wp_build4 rfl rfl rfl rfl rfl (built_opt 0 (some ⟨g1, 0, none⟩) (some ⟨g2, 0, none⟩) n n m m s A0 B0 k0 q0 m0 d0) 70 rfl ?_)
      simp only [Act.put, List.setIfInBounds_toArray, List.set_cons_zero, List.set_cons_succ]
      refine wpAny_next (i := 13) (by kernel_rfl) rfl rfl (store_sol rfl rfl rfl rfl (TS.out.keep hb) (by simp) (by simp [Value.oneCell']) (by simp) ?_)
      intro w9 kp hg hsz hS
      refine wpAny_next (i := 14) (by kernel_rfl) rfl rfl (wp_assign 3 (.const (.int .i64 0)) rfl rfl (.int .i64 0) rfl ?_)
      simp only [Act.put, List.setIfInBounds_toArray, List.set_cons_zero, List.set_cons_succ]
      refine wpAny_end (by kernel_rfl) (calm_normal ?_) _
      have hne1 : g1 ≠ gs := by obtain ⟨cs, hc, -⟩ := hX; exact Blk.ne_ hc (TS.out.keep hb) (by decide)
      have hne2 : g2 ≠ gs := by obtain ⟨cs, hc, -⟩ := hY; exact Blk.ne_ hc (TS.out.keep hb) (by decide)
      have HX := Lib.hid (hX.grown hg hne1 (Q := PN w9 b (basX S5 (fun i => S5.T i (n + m + 1)) (fun _ => 0) n m)) (fun j v _ hv => PN.keep hv kp))
      have HY := Lib.hid (hY.grown hg hne2 (Q := PN w9 b (fun j => S5.G (n + j))) (fun j v _ hv => PN.keep hv kp))
      have HV := Lib.hid (rV.keepN kp)
      have HB9 := Lib.hid ((bthen HB.out hb HB.out.size).grown hg (bthen HB.out hb HB.out.size).size (fun x hx => by cases hx; exact HG.out))
      have HS := Lib.hid hS
      clear hX hY rV hb kp hg hsz hS hne1 hne2
      go_wp2_with fail
      refine bodyPost_ret (v := .tuple #[.agg #[.int .i64 0, .slice (some ⟨g1, 0, none⟩) n n, .slice (some ⟨g2, 0, none⟩) m m, .slice none 0 0, .bool s, .slice A0 k0 q0, .slice B0 m0 d0], .int .i64 0]) (results_cell_tmp Try.results34 _ _ _ _ _ (0, 0) _ rfl HS.out Try.underlying79 rfl rfl) rfl ?_
      exact ⟨_, rfl, ⟨_, resOpt n m S5, rfl, ⟨S, true, HPh.out, .inr ⟨rfl, K, S5, z, true, HRun.out, HEnd.out, .inl ⟨rfl, rfl⟩⟩⟩, some ⟨g1, 0, none⟩, n, n, some ⟨g2, 0, none⟩, m, m, none, 0, 0, s, A0, k0, q0, B0, m0, d0, rfl, .inl ⟨rfl, rfl, rfl, rfl⟩, Rs.of_rb HX.out, Rs.of_rb HY.out, Rs.nil _ _ _, HV.out⟩, HB9.out⟩
end Go.Proofs.Ytpnklmgfdihjfaa
namespace Go.Proofs.Ytpnklmgfdihjfaa
open Go.RowKit
set_option linter.unusedSimpArgs false

end Go.Proofs.Ytpnklmgfdihjfaa
namespace Go.Proofs.Ytpnklmgfdihjfaa
open Go.RowKit
set_option linter.unusedVariables false
set_option linter.unusedSimpArgs false

end Go.Proofs.Ytpnklmgfdihjfaa
namespace Go.Proofs.Ytpnklmgfdihjfaa
set_option linter.unusedVariables false

end Go.Proofs.Ytpnklmgfdihjfaa
namespace Go.Proofs.Ytpnklmgfdihjfaa
open Go.RowKit
set_option linter.unusedVariables false
set_option linter.unusedSimpArgs false

end Go.Proofs.Ytpnklmgfdihjfaa
namespace Go.Proofs.Ytpnklmgfdihjfaa
open Go.RowKit
set_option linter.unusedVariables false
set_option linter.unusedSimpArgs false

end Go.Proofs.Ytpnklmgfdihjfaa
namespace Go.Proofs.Ytpnklmgfdihjfaa
open Go.RowKit
set_option linter.unusedVariables false
set_option linter.unusedSimpArgs false

section
variable {P : Program} (w : World)
end
section
variable {o : Oper} {a : Act} {w : World}
theorem RL.cl {P : Nat → Value → Prop} {n : Nat} {xs : List Value} (h : RL P n xs) : ∀ u ∈ xs, ClV u ∧ u.oneCell' = true := by
  intro u hu
  obtain ⟨l, hl⟩ := List.mem_iff_getElem?.1 hu
  have hlt := (List.getElem?_eq_some_iff.1 hl).1
  rw [h.1] at hlt
  obtain ⟨s, A, k, c, B, m, d, h0, h1, h2, _⟩ := h.2 (l / 3) (by omega)
  have : l = l / 3 * 3 ∨ l = l / 3 * 3 + 1 ∨ l = l / 3 * 3 + 2 := by omega
  rcases this with e | e | e <;> rw [e] at hl
  · rw [h0] at hl; cases hl; exact ⟨fun x hx => (by cases hx), rfl⟩
  · rw [h1] at hl; cases hl; exact ⟨fun x hx => (by cases hx), rfl⟩
  · rw [h2] at hl; cases hl; exact ⟨fun x hx => (by cases hx), rfl⟩
end
section
variable {o : Oper} {a : Act} {w : World} {t : Tmp}
end
/-- A row of one Rat is put behind an own row of Rats. -/
theorem wp_push_one {o : Oper} {a : Act} {w : World} {K : Act → World → Prop} {Q : Exit → Act → World → Prop} (s x : Operand) (ho : o.op = .call { callee := .builtin .append, args := #[s, x], argTypes := #[28, 28] })
    (base : Nat) (v : Value) (n : Nat) (P : Nat → Value → Prop) (hs : a.eval s = v) (hown : OR w base v n P) (B : Nat) (A : Option Addr) (c : Nat) (P1 : Nat → Value → Prop) (hx : a.eval x = .slice A 1 c) (hr : Rs w B A 1 P1)
    (hk : n ≤ 1000000) (hbase : base ≤ w.heap.size)
    (h : ∀ v' w', (∀ R : Nat → Value → Prop, (∀ j u, j < n → P j u → R j u) → (∀ u, P1 0 u → R n u) → OR w' base v' (n + 1) R) → w.grownBy w' v.ownBlock → (v'.ownBlock = v.ownBlock ∨ v'.ownBlock = some w.heap.size) → KeepsN w w' → K (a.put o.dst v') w') : o.wp Try.prog a w K Q := by
  obtain ⟨i, hi, hz, hs1, hby⟩ := info_parts info_rat
  obtain ⟨xs, h1, h2⟩ := hown
  obtain ⟨ys, hr, hl⟩ := hr
  refine wp_append_clean s x 28 ho base 31 i _ 3 56 Try.underlying28 hi hz hs1 hby rfl (by omega) (by intro u hu z hz'; simp [Value.cells] at hu; rcases hu with rfl | rfl <;> cases hz') v n xs hs h1 B A 1 c ys hx hr (fun u hu => (hl.cl u hu).2) (fun u hu => (hl.cl u hu).1) (by simp only [maxLen]; omega) (by omega) hbase ?_
  intro v' w' g1 g2 g3 g4
  refine h v' w' (fun R hR hn => ⟨_, g1, ?_⟩) g2 g3 g4
  obtain ⟨s, A, k, c, B, m, d, q0, q1, q2, q3⟩ := hl.2 0 (by omega)
  have hlen := hl.1
  match ys, hlen, q0, q1, q2 with
  | [y0, y1, y2], _, q0, q1, q2 =>
    simp at q0 q1 q2
    subst q0; subst q1; subst q2
    exact (h2.mono hR).app (hn _ q3)
end Go.Proofs.Ytpnklmgfdihjfaa
namespace Go.Proofs.Ytpnklmgfdihjfaa
open Go.RowKit
set_option linter.unusedVariables false
set_option linter.unusedSimpArgs false

section
variable {w w' : World} {b b' n m k : Nat} {AC AA AB : Option Addr} {Ar : Nat → Option Addr} {ln cp : Nat → Nat} {A : Nat → Nat → Rat} {C B : Nat → Rat}
theorem Rs.wider {A : Option Addr} {f : Nat → Rat} (h : Rs w w.heap.size A n (PW w b f)) (hb : b ≤ b') : Rs w w.heap.size A n (PW w b' f) := h.mono fun _ _ _ hv => Rw.more hv hb
theorem PrW.more (h : PrW w b n m k AC AA AB Ar ln cp A C B) (hb : b ≤ b') : PrW w b' n m k AC AA AB Ar ln cp A C B :=
  ⟨h.c.wider hb, h.a, fun i hi => (h.row i hi).wider hb, h.bb.wider hb⟩
end
theorem bitsT_mono {m m' a : Nat} (h : m ≤ m') : bitsT m a ≤ bitsT m' a := by
  have h1 : 2 ^ m ≤ 2 ^ m' := Nat.pow_le_pow_right (by decide) h
  have h2 : 2 ^ m * (a + 1) ≤ 2 ^ m' * (a + 1) := Nat.mul_le_mul_right _ h1
  unfold bitsT
  have := Nat.mul_le_mul h (show a + (2 ^ m * (a + 1) - 1) + 1 ≤ a + (2 ^ m' * (a + 1) - 1) + 1 by omega)
  omega
section
variable {n m : Nat} {A : Nat → Nat → Rat} {B C : Nat → Rat}
variable {w : World} {b k : Nat} {AC AA AB : Option Addr} {Ar : Nat → Option Addr} {ln cp : Nat → Nat}
end
end Go.Proofs.Ytpnklmgfdihjfaa
namespace Go.Proofs.Ytpnklmgfdihjfaa
open Go.RowKit
set_option linter.unusedVariables false
set_option linter.unusedSimpArgs false

section
variable {o : Oper} {a : Act} {w : World} {t : Tmp}
theorem gives_bs_rat {s : Bool} {A B : Option Addr} {k c m d : Nat} (ho : o.op = .buildSlice 28 1 #[(0, .tmp t)]) (h : tv a t = .agg #[.bool s, .slice A k c, .slice B m d]) : gives Try.prog o a.eval w (fun v w' => v = .slice (some ⟨w.heap.size, 0, none⟩) 1 1 ∧ Blk w' w.heap.size 31 #[.bool s, .slice A k c, .slice B m d] ∧ Below w.heap.size w w') := by
  have hh : a.tmps[t]?.getD undef = .agg #[.bool s, .slice A k c, .slice B m d] := by simpa [tv] using h
  have hr : (execOp a.eval o).run Try.prog w = .ok (.value (.slice (some ⟨w.heap.size, 0, none⟩) 1 1)) (w.alloc (.cells #[.bool s, .slice A k c, .slice B m d] 31)) := by
    unfold execOp
    rw [ho]
    go_simp
  unfold gives
  rw [hr]
  exact ⟨rfl, Blk.new _ _ _, al _ _⟩
/-- .. of normal form. -/
def OneN (b : Nat) (x : Rat) (v : Value) (w : World) : Prop := ∃ A0, v = .slice A0 1 1 ∧ Rs w w.heap.size A0 1 (PN w b (fun _ => x))
theorem OneN.new {b : Nat} {x : Rat} {v : Value} {w w' : World} (h : OneN b x v w) (hb : Below w.heap.size w w') : OneN b x v w' := by obtain ⟨A0, h1, h2⟩ := h; exact ⟨A0, h1, Rs.newN h2 hb⟩
theorem one_rl {P : Nat → Value → Prop} {s : Bool} {A B : Option Addr} {k c m d : Nat} (h : P 0 (.agg #[.bool s, .slice A k c, .slice B m d])) : RL P 1 [.bool s, .slice A k c, .slice B m d] :=
  (RL.nil P).app h
theorem gives_one_n {b : Nat} {x : Rat} (ho : o.op = .buildSlice 28 1 #[(0, .tmp t)]) (h : Rv b x (tv a t) w) : gives Try.prog o a.eval w (fun v w' => OneN b x v w' ∧ Below w.heap.size w w') := by
  have h0 := h
  obtain ⟨s, A, k, c, B, m, d, e, -⟩ := h
  refine gives_mono (gives_bs_rat ho e) ?_
  rintro v w' ⟨rfl, h1, h2⟩
  rw [e] at h0
  exact ⟨⟨_, rfl, Rs.of_rb ⟨_, h1, one_rl (P := PN w' b (fun _ => x)) (h0.new h2)⟩⟩, h2⟩
end
section
variable {w : World} {b b' n m k : Nat} {AC AC' AA AB : Option Addr} {Ar : Nat → Option Addr} {ln cp : Nat → Nat} {A : Nat → Nat → Rat} {C C' B : Nat → Rat}
end
end Go.Proofs.Ytpnklmgfdihjfaa
namespace Go.Proofs.Ytpnklmgfdihjfaa
open Go.RowKit
set_option linter.unusedVariables false

section
variable {P : Program} {env : List (Tmp × Value)} {R : List (Value → World → Prop)} {m : Nat} {I : World → Prop} {sp : List (Nat × (World → World → Prop))} {kl ek : List (Nat × Nat)} {E : Nat → World → Prop}
end
end Go.Proofs.Ytpnklmgfdihjfaa
namespace Go.Proofs.Ytpnklmgfdihjfaa
open Go.RowKit
set_option linter.unusedVariables false
set_option linter.unusedSimpArgs false

section
variable {o : Oper} {a : Act} {w : World}
end
/-- A row's block is not that one. -/
def apB (row : Option Nat) (v : Value) : Prop := v.ownBlock = none ∨ v.ownBlock ≠ row
section
variable {w w' : World} {base n : Nat} {v : Value} {P Q : Nat → Value → Prop} {row : Option Nat}
theorem OR.kept (h : OR w base v n P) (hg : w.grownBy w' row) (hne : apB row v) (hq : ∀ j u, j < n → P j u → Q j u) : OR w' base v n Q := by
  obtain ⟨ys, h1, h2⟩ := h
  exact ⟨ys, h1.kept hg hne, h2.mono hq⟩
theorem OR.lt (h : OR w base v n P) : ∀ k, v.ownBlock = some k → base ≤ k ∧ k < w.heap.size := by
  obtain ⟨ys, h1, h2⟩ := h
  exact h1.own.lt
theorem own_own_ne {base' size n' size' : Nat} {e e' : TypeId} {u : Value} {xs ys : List Value} (h : w.ownsRow base e size v n xs) (h' : w.ownsRow base' e' size' u n' ys) (hne : e ≠ e') : apB u.ownBlock v := by
  rcases h.2 with ⟨rfl, _⟩ | ⟨g, cap, cur, rfl, h1, h2, h3⟩
  · exact .inl rfl
  · refine .inr ?_
    rcases h'.2 with ⟨rfl, _⟩ | ⟨g', cap', cur', rfl, _, h2', _⟩
    · simp [Value.ownBlock]
    · simp only [Value.ownBlock]
      intro he
      injection he with he
      subst he
      rw [h2] at h2'
      injection h2' with h2'
      injection h2' with _ ht
      exact hne ht
theorem apB.of_lt {k : Nat} (h : ∀ g, v.ownBlock = some g → g < k) (hr : ∀ g, row = some g → k ≤ g) : apB row v := by
  by_cases h0 : v.ownBlock = none
  · exact .inl h0
  · refine .inr fun e => ?_
    cases hv : v.ownBlock with
    | none => exact h0 hv
    | some g => have := h g hv; have := hr g (by rw [← e]; exact hv); omega
theorem apB.of_ge {k : Nat} (h : ∀ g, v.ownBlock = some g → k ≤ g) (hr : ∀ g, row = some g → g < k) : apB row v := by
  by_cases h0 : v.ownBlock = none
  · exact .inl h0
  · refine .inr fun e => ?_
    cases hv : v.ownBlock with
    | none => exact h0 hv
    | some g => have := h g hv; have := hr g (by rw [← e]; exact hv); omega
theorem apB.congr {u u' : Value} (h : apB u.ownBlock v) (e : u'.ownBlock = u.ownBlock) : apB u'.ownBlock v := by unfold apB at *; rw [e]; exact h
end
theorem app_apart2 {v v' u : Value} {w : World} (h : v'.ownBlock = v.ownBlock ∨ v'.ownBlock = some w.heap.size) (ha : apB v.ownBlock u) (hu : ∀ g, u.ownBlock = some g → g < w.heap.size) : apB v'.ownBlock u := by
  rcases h with h | h
  · exact ha.congr h
  · rw [h]
    exact apB.of_lt (k := w.heap.size) hu (fun g hg => by cases hg; exact Nat.le_refl _)
section
variable {base S0 m J g g7 : Nat} {w0 w5 w w' : World} {rv : Nat → Value} {rf : Nat → Nat → Rat} {cs c7 : Array Value}
end
section
variable {base m j g g7 dc da db : Nat} {w0 w5 w w' : World} {DC DA DB : Option Addr} {Dr : Nat → Option Addr} {dp : Nat → Nat} {A : Nat → Nat → Rat} {B C : Nat → Rat} {c7 : Array Value}
end
end Go.Proofs.Ytpnklmgfdihjfaa
namespace Go.Proofs.Ytpnklmgfdihjfaa
open Go.RowKit
set_option linter.unusedVariables false

def mints (l : List Nat) : List Value := l.map (fun x : Nat => Value.int .i64 (x : Int))
theorem mints_snoc {w : World} {base : Nat} {v : Value} {n x : Nat} {l : List Nat} (h : OwnC w base 3 1 v n (mints l ++ [.int .i64 (x : Int)])) : OwnC w base 3 1 v n (mints (l ++ [x])) := by
  unfold mints at *; rw [List.map_append]; exact h
theorem own_map_ne {w : World} {base size n g : Nat} {e : TypeId} {u : Value} {xs : List Value} {ks : List Nat} (h : w.ownsRow base e size u n xs) (hm : MpB w g ks) : apB (some g) u := by
  rcases h.2 with ⟨rfl, _⟩ | ⟨g', cap, cur, rfl, h1, h2, h3⟩
  · exact .inl rfl
  · refine .inr ?_
    simp only [Value.ownBlock]
    intro he
    injection he with he
    subst he
    obtain ⟨es, c, q, _⟩ := hm
    have := q.symm.trans h2
    injection this with this
    cases this
structure PkS (w0 : World) (bs bs2 g2 g4 g7 gm n len ce kn : Nat) (AE A1 A2 : Option Addr) (c1 c2 : Nat) (L keys F : List Nat) (AF : Option Addr) (cf ka : Nat) (DA : Option Addr) (da J : Nat) (Dr : Nat → Option Addr) (dp : Nat → Nat) (rf : Nat → Nat → Rat) (kb : Nat) (DB : Option Addr) (db : Nat) (w : World) : Prop where
  m : OwnC w bs 3 1 (.slice A1 kn c1) kn (mints L)
  ml : ∀ g, (Value.slice A1 kn c1).ownBlock = some g → g < bs2
  c : OR w bs (.slice A2 kn c2) kn (PN w 2 (fun _ => 1))
  cl : ∀ g, (Value.slice A2 kn c2).ownBlock = some g → g < bs2
  hg : Blk w g2 24 #[.int .i64 (n : Int), .slice AE len ce]
  hq : Blk w g4 75 #[.slice none 0 0, .slice none 0 0, .slice none 0 0]
  u : Blk w g7 75 #[.slice A2 kn c2, .slice DA ka da, .slice DB kb db]
  mp : MpB w gm keys
  f : OwnC w bs2 3 1 (.slice AF F.length cf) F.length (mints F)
  al : OwnC w bs2 28 1 (.slice DA ka da) ka (rwL Dr (fun _ => kn) dp ka)
  rr : ∀ j, j < J → OR w bs2 (.slice (Dr j) kn (dp j)) kn (PN w 2 (rf j))
  b : OR w bs2 (.slice DB kb db) kb (PN w 2 (fun _ => 1))
  ap : ∀ j, j < J → apB (Value.slice DB kb db).ownBlock (.slice (Dr j) kn (dp j))
  hb : Below w0.heap.size w0 w
  sz : bs2 ≤ w.heap.size
  lo : bs2 ≤ gm ∧ g2 < bs2 ∧ g4 < bs2 ∧ g7 < bs2 ∧ w0.heap.size ≤ g7 ∧ w0.heap.size ≤ bs2 ∧ g4 ≠ g7
section
variable {w0 : World} {bs bs2 g2 g4 g7 gm n len ce kn : Nat} {AE A1 A2 : Option Addr} {c1 c2 : Nat} {L keys F : List Nat} {AF : Option Addr} {cf ka : Nat} {DA : Option Addr} {da J : Nat} {Dr : Nat → Option Addr} {dp : Nat → Nat} {rf : Nat → Nat → Rat} {kb : Nat} {DB : Option Addr} {db : Nat} {w w' : World}
theorem PkS.below (h : PkS w0 bs bs2 g2 g4 g7 gm n len ce kn AE A1 A2 c1 c2 L keys F AF cf ka DA da J Dr dp rf kb DB db w) (hb : Below w.heap.size w w') : PkS w0 bs bs2 g2 g4 g7 gm n len ce kn AE A1 A2 c1 c2 L keys F AF cf ka DA da J Dr dp rf kb DB db w' :=
  ⟨h.m.below hb, h.ml, h.c.newN hb, h.cl, h.hg.keep hb, h.hq.keep hb, h.u.keep hb, h.mp.keep hb, h.f.below hb, h.al.below hb, fun j hj => (h.rr j hj).newN hb, h.b.newN hb, h.ap, bthen h.hb hb h.hb.size, Nat.le_trans h.sz hb.size, h.lo⟩
/-- The map takes a key. -/
theorem PkS.map {keys' : List Nat} (h : PkS w0 bs bs2 g2 g4 g7 gm n len ce kn AE A1 A2 c1 c2 L keys F AF cf ka DA da J Dr dp rf kb DB db w) (hg : w.grownBy w' (some gm)) (kp : KeepsN w w') (hm : MpB w' gm keys') : PkS w0 bs bs2 g2 g4 g7 gm n len ce kn AE A1 A2 c1 c2 L keys' F AF cf ka DA da J Dr dp rf kb DB db w' := by
  have lt : ∀ g, some gm = some g → bs2 ≤ g := fun g e => by cases e; exact h.lo.1
  have blk : ∀ {k : Nat}, k < bs2 → some k ≠ some gm := fun hk e => by injection e with e; have := h.lo.1; omega
  have or_ : ∀ {base : Nat} {v : Value} {k : Nat} {P : Nat → Value → Prop}, OR w base v k P → apB (some gm) v := fun ⟨xs, q, _⟩ => own_map_ne q.own h.mp
  exact ⟨h.m.kept hg (apB.of_lt h.ml lt), h.ml, h.c.kept hg (apB.of_lt h.cl lt) (fun _ _ _ hv => PN.keep hv kp), h.cl, h.hg.grown hg (blk h.lo.2.1), h.hq.grown hg (blk h.lo.2.2.1), h.u.grown hg (blk h.lo.2.2.2.1), hm, h.f.kept hg (own_map_ne h.f.own h.mp), h.al.kept hg (own_map_ne h.al.own h.mp), fun j hj => (h.rr j hj).kept hg (or_ (h.rr j hj)) (fun _ _ _ hv => PN.keep hv kp), h.b.kept hg (or_ h.b) (fun _ _ _ hv => PN.keep hv kp), h.ap, h.hb.grown hg h.hb.size (fun g e => Nat.le_trans h.lo.2.2.2.2.2.1 (lt g e)), Nat.le_trans h.sz hg.size, h.lo⟩
/-- An edge is put behind the first ones. -/
theorem PkS.first {i cf' : Nat} {AF' : Option Addr} (h : PkS w0 bs bs2 g2 g4 g7 gm n len ce kn AE A1 A2 c1 c2 L keys F AF cf ka DA da J Dr dp rf kb DB db w) (ho : OwnC w' bs2 3 1 (.slice AF' (F.length + 1) cf') (F.length + 1) (mints F ++ [.int .i64 (i : Int)])) (hg : w.grownBy w' (Value.slice AF F.length cf).ownBlock) (kp : KeepsN w w') : PkS w0 bs bs2 g2 g4 g7 gm n len ce kn AE A1 A2 c1 c2 L keys (F ++ [i]) AF' cf' ka DA da J Dr dp rf kb DB db w' := by
  have lt : ∀ g, (Value.slice AF F.length cf).ownBlock = some g → bs2 ≤ g := fun g e => (h.f.own.lt g e).1
  have blk : ∀ {k : Nat}, k < bs2 → some k ≠ (Value.slice AF F.length cf).ownBlock := fun hk e => by have := lt _ e.symm; omega
  have hmp : some gm ≠ (Value.slice AF F.length cf).ownBlock := fun e => by rcases own_map_ne h.f.own h.mp with q | q; rw [q] at e; cases e; exact q e.symm
  have or_ : ∀ {base : Nat} {v : Value} {k : Nat} {P : Nat → Value → Prop}, OR w base v k P → apB (Value.slice AF F.length cf).ownBlock v := fun ⟨xs, q, _⟩ => own_own_ne q.own h.f.own (by decide)
  exact ⟨h.m.kept hg (apB.of_lt h.ml lt), h.ml, h.c.kept hg (apB.of_lt h.cl lt) (fun _ _ _ hv => PN.keep hv kp), h.cl, h.hg.grown hg (blk h.lo.2.1), h.hq.grown hg (blk h.lo.2.2.1), h.u.grown hg (blk h.lo.2.2.2.1), h.mp.grown hg hmp, by rw [List.length_append]; exact mints_snoc ho, h.al.kept hg (own_own_ne h.al.own h.f.own (by decide)), fun j hj => (h.rr j hj).kept hg (or_ (h.rr j hj)) (fun _ _ _ hv => PN.keep hv kp), h.b.kept hg (or_ h.b) (fun _ _ _ hv => PN.keep hv kp), h.ap, h.hb.grown hg h.hb.size (fun g e => Nat.le_trans h.lo.2.2.2.2.2.1 (lt g e)), Nat.le_trans h.sz hg.size, h.lo⟩
/-- A row that was just made is one of the rows. -/
theorem PkS.row {b8 c8 : Nat} {A8 : Option Addr} {r8 : Nat → Rat} (h : PkS w0 bs bs2 g2 g4 g7 gm n len ce kn AE A1 A2 c1 c2 L keys F AF cf ka DA da J Dr dp rf kb DB db w) (hJ : J = ka) (h8 : OR w' b8 (.slice A8 kn c8) kn (PN w' 2 r8)) (hb : Below w.heap.size w w') (hb8 : w.heap.size ≤ b8) : PkS w0 bs bs2 g2 g4 g7 gm n len ce kn AE A1 A2 c1 c2 L keys F AF cf ka DA da (J + 1) (put1 Dr J A8) (put1 dp J c8) (put1 rf J r8) kb DB db w' := by
  subst hJ
  have h' := h.below hb
  refine ⟨h'.m, h'.ml, h'.c, h'.cl, h'.hg, h'.hq, h'.u, h'.mp, h'.f, ?_, fun j hj => ?_, h'.b, fun j hj => ?_, h'.hb, h'.sz, h'.lo⟩
  · have e : rwL (put1 Dr J A8) (fun _ => kn) (put1 dp J c8) J = rwL Dr (fun _ => kn) dp J := List.map_congr_left fun i hi => by rw [put1_ne _ _ (by have := List.mem_range.1 hi; omega), put1_ne _ _ (by have := List.mem_range.1 hi; omega)]
    rw [e]; exact h'.al
  · by_cases e : j = J
    · subst e; rw [put1_at, put1_at, put1_at]; exact h8.lower (Nat.le_trans h.sz hb8)
    · rw [put1_ne _ _ e, put1_ne _ _ e, put1_ne _ _ e]; exact h'.rr j (by omega)
  · by_cases e : j = J
    · subst e; rw [put1_at, put1_at]; exact apB.of_ge (k := b8) (fun g hg => (h8.lt g hg).1) (fun g hg => by have := (h.b.lt g hg).2; omega)
    · rw [put1_ne _ _ e, put1_ne _ _ e]; exact h.ap j (by omega)
/-- The row is put behind p.A. -/
theorem PkS.pushA {da' : Nat} {DA' : Option Addr} (h : PkS w0 bs bs2 g2 g4 g7 gm n len ce kn AE A1 A2 c1 c2 L keys F AF cf ka DA da J Dr dp rf kb DB db w) (ho : OwnC w' bs2 28 1 (.slice DA' (ka + 1) da') (ka + 1) (rwL Dr (fun _ => kn) dp (ka + 1))) (hg : w.grownBy w' (Value.slice DA ka da).ownBlock) (kp : KeepsN w w') : PkS w0 bs bs2 g2 g4 g7 gm n len ce kn AE A1 A2 c1 c2 L keys F AF cf (ka + 1) DA' da' J Dr dp rf kb DB db (w'.setCell ⟨g7, 1, none⟩ (.slice DA' (ka + 1) da')) := by
  have lt : ∀ g, (Value.slice DA ka da).ownBlock = some g → bs2 ≤ g := fun g e => (h.al.own.lt g e).1
  have blk : ∀ {k : Nat}, k < bs2 → some k ≠ (Value.slice DA ka da).ownBlock := fun hk e => by have := lt _ e.symm; omega
  have hmp : some gm ≠ (Value.slice DA ka da).ownBlock := fun e => by rcases own_map_ne h.al.own h.mp with q | q; rw [q] at e; cases e; exact q e.symm
  have or_ : ∀ {base : Nat} {v : Value} {k : Nat} {P : Nat → Value → Prop}, OR w base v k P → apB (Value.slice DA ka da).ownBlock v := fun ⟨xs, q, _⟩ => own_own_ne q.own h.al.own (by decide)
  have hu := h.u.grown hg (blk h.lo.2.2.2.1)
  have m' := h.m.kept hg (apB.of_lt h.ml lt)
  have c' := h.c.kept hg (apB.of_lt h.cl lt) (Q := PN w' 2 (fun _ => 1)) (fun _ _ _ hv => PN.keep hv kp)
  have hg' := h.hg.grown hg (blk h.lo.2.1)
  have hq' := h.hq.grown hg (blk h.lo.2.2.1)
  have mp' := h.mp.grown hg hmp
  have f' := h.f.kept hg (own_own_ne h.f.own h.al.own (by decide))
  have rr' : ∀ j, j < J → OR w' bs2 (.slice (Dr j) kn (dp j)) kn (PN w' 2 (rf j)) := fun j hj => (h.rr j hj).kept hg (or_ (h.rr j hj)) (fun _ _ _ hv => PN.keep hv kp)
  have b' := h.b.kept hg (or_ h.b) (Q := PN w' 2 (fun _ => 1)) (fun _ _ _ hv => PN.keep hv kp)
  have hb' := h.hb.grown hg h.hb.size (fun g e => Nat.le_trans h.lo.2.2.2.2.2.1 (lt g e))
  have k1 := KeepsN.blk hu (i := 1) (by show 1 < 3; omega) (by intro x; simp) (.slice DA' (ka + 1) da')
  have g1 := only_setCell (World.grownBy.refl w' (some g7)) (p := ⟨g7, 1, none⟩) (.inl rfl) (.slice DA' (ka + 1) da')
  have ors : ∀ {base : Nat} {v : Value} {k : Nat} {r : Nat → Rat}, OR w' base v k (PN w' 2 r) → OR (w'.setCell ⟨g7, 1, none⟩ (.slice DA' (ka + 1) da')) base v k (PN (w'.setCell ⟨g7, 1, none⟩ (.slice DA' (ka + 1) da')) 2 r) := fun q => q.blk hu (by decide) g1 (fun _ _ _ hv => PN.keep hv k1)
  have far : ∀ {k : Nat}, k ≠ g7 → k ≠ (Addr.mk g7 1 none).block := fun hk => hk
  exact ⟨m'.blk hu (by decide) g1, h.ml, ors c', h.cl, hg'.far (p := ⟨g7, 1, none⟩) (Blk.ne_ hg' hu (by decide)) _, hq'.far (p := ⟨g7, 1, none⟩) h.lo.2.2.2.2.2.2 _, hu.set_ 1 _, mp'.far (p := ⟨g7, 1, none⟩) (fun e => mp'.ne hu e.symm) _, f'.blk hu (by decide) g1, ho.blk hu (by decide) g1, fun j hj => ors (rr' j hj), ors b', h.ap, hb'.setCell (p := ⟨g7, 1, none⟩) h.lo.2.2.2.2.1 _, Nat.le_trans (Nat.le_trans h.sz hg.size) g1.size, h.lo⟩
/-- A one is put behind p.B. -/
theorem PkS.pushB {db' : Nat} {DB' : Option Addr} (h : PkS w0 bs bs2 g2 g4 g7 gm n len ce kn AE A1 A2 c1 c2 L keys F AF cf ka DA da J Dr dp rf kb DB db w) (ho : OR w' bs2 (.slice DB' (kb + 1) db') (kb + 1) (PN w' 2 (fun _ => 1))) (hg : w.grownBy w' (Value.slice DB kb db).ownBlock) (hor : (Value.slice DB' (kb + 1) db').ownBlock = (Value.slice DB kb db).ownBlock ∨ (Value.slice DB' (kb + 1) db').ownBlock = some w.heap.size) (kp : KeepsN w w') : PkS w0 bs bs2 g2 g4 g7 gm n len ce kn AE A1 A2 c1 c2 L keys F AF cf ka DA da J Dr dp rf (kb + 1) DB' db' (w'.setCell ⟨g7, 2, none⟩ (.slice DB' (kb + 1) db')) := by
  have lt : ∀ g, (Value.slice DB kb db).ownBlock = some g → bs2 ≤ g := fun g e => (h.b.lt g e).1
  have blk : ∀ {k : Nat}, k < bs2 → some k ≠ (Value.slice DB kb db).ownBlock := fun hk e => by have := lt _ e.symm; omega
  obtain ⟨bx, bo, -⟩ := h.b
  have hmp : some gm ≠ (Value.slice DB kb db).ownBlock := fun e => by rcases own_map_ne bo.own h.mp with q | q; rw [q] at e; cases e; exact q e.symm
  have hu := h.u.grown hg (blk h.lo.2.2.2.1)
  have m' := h.m.kept hg (apB.of_lt h.ml lt)
  have c' := h.c.kept hg (apB.of_lt h.cl lt) (Q := PN w' 2 (fun _ => 1)) (fun _ _ _ hv => PN.keep hv kp)
  have hg' := h.hg.grown hg (blk h.lo.2.1)
  have hq' := h.hq.grown hg (blk h.lo.2.2.1)
  have mp' := h.mp.grown hg hmp
  have f' := h.f.kept hg (own_own_ne h.f.own bo.own (by decide))
  have al' := h.al.kept hg (own_own_ne h.al.own bo.own (by decide))
  have rr' : ∀ j, j < J → OR w' bs2 (.slice (Dr j) kn (dp j)) kn (PN w' 2 (rf j)) := fun j hj => (h.rr j hj).kept hg (h.ap j hj) (fun _ _ _ hv => PN.keep hv kp)
  have hb' := h.hb.grown hg h.hb.size (fun g e => Nat.le_trans h.lo.2.2.2.2.2.1 (lt g e))
  have ap' : ∀ j, j < J → apB (Value.slice DB' (kb + 1) db').ownBlock (.slice (Dr j) kn (dp j)) := fun j hj => app_apart2 hor (h.ap j hj) (fun g hg => ((h.rr j hj).lt g hg).2)
  have k1 := KeepsN.blk hu (i := 2) (by show 2 < 3; omega) (by intro x; simp) (.slice DB' (kb + 1) db')
  have g1 := only_setCell (World.grownBy.refl w' (some g7)) (p := ⟨g7, 2, none⟩) (.inl rfl) (.slice DB' (kb + 1) db')
  have ors : ∀ {base : Nat} {v : Value} {k : Nat} {r : Nat → Rat}, OR w' base v k (PN w' 2 r) → OR (w'.setCell ⟨g7, 2, none⟩ (.slice DB' (kb + 1) db')) base v k (PN (w'.setCell ⟨g7, 2, none⟩ (.slice DB' (kb + 1) db')) 2 r) := fun q => q.blk hu (by decide) g1 (fun _ _ _ hv => PN.keep hv k1)
  have far : ∀ {k : Nat}, k ≠ g7 → k ≠ (Addr.mk g7 2 none).block := fun hk => hk
  exact ⟨m'.blk hu (by decide) g1, h.ml, ors c', h.cl, hg'.far (p := ⟨g7, 2, none⟩) (Blk.ne_ hg' hu (by decide)) _, hq'.far (p := ⟨g7, 2, none⟩) h.lo.2.2.2.2.2.2 _, hu.set_ 2 _, mp'.far (p := ⟨g7, 2, none⟩) (fun e => mp'.ne hu e.symm) _, f'.blk hu (by decide) g1, al'.blk hu (by decide) g1, fun j hj => ors (rr' j hj), ors ho, ap', hb'.setCell (p := ⟨g7, 2, none⟩) h.lo.2.2.2.2.1 _, Nat.le_trans (Nat.le_trans h.sz hg.size) g1.size, h.lo⟩
theorem PkS.congr {rf' : Nat → Nat → Rat} (h : PkS w0 bs bs2 g2 g4 g7 gm n len ce kn AE A1 A2 c1 c2 L keys F AF cf ka DA da J Dr dp rf kb DB db w) (e : ∀ j, j < J → rf j = rf' j) : PkS w0 bs bs2 g2 g4 g7 gm n len ce kn AE A1 A2 c1 c2 L keys F AF cf ka DA da J Dr dp rf' kb DB db w :=
  ⟨h.m, h.ml, h.c, h.cl, h.hg, h.hq, h.u, h.mp, h.f, h.al, fun j hj => by rw [← e j hj]; exact h.rr j hj, h.b, h.ap, h.hb, h.sz, h.lo⟩
/-- The problem, once the result's box was written. -/
theorem PkS.prw (h : PkS w0 bs bs2 g2 g4 g7 gm n len ce kn AE A1 A2 c1 c2 L keys F AF cf F.length DA da F.length Dr dp rf F.length DB db w) (hg : w.grownBy w' (some g4)) (kp : KeepsN w w') : PrW w' 2 kn F.length F.length A2 DA DB Dr (fun _ => kn) dp rf (fun _ => 1) (fun _ => 1) ∧ Reads w' w'.heap.size 1 A1 kn (mints L) ∧ Reads w' w'.heap.size 1 AF F.length (mints F) := by
  have ors : ∀ {base : Nat} {v : Value} {k : Nat} {r : Nat → Rat}, OR w base v k (PN w 2 r) → OR w' base v k (PN w' 2 r) := fun q => q.blk h.hq (by decide) hg (fun _ _ _ hv => PN.keep hv kp)
  exact ⟨⟨(ors h.c).rs.toW, Reads.of_own (h.al.blk h.hq (by decide) hg).own, fun i hi => (ors (h.rr i hi)).rs.toW, (ors h.b).rs.toW⟩, Reads.of_own (h.m.blk h.hq (by decide) hg).own, Reads.of_own (h.f.blk h.hq (by decide) hg).own⟩
theorem rwL_last (Ar : Nat → Option Addr) (ln cp : Nat → Nat) (i : Nat) : rwL Ar ln cp (i + 1) = rwL Ar ln cp i ++ [.slice (Ar i) (ln i) (cp i)] := by
  unfold rwL; rw [List.range_succ, List.map_append]; rfl
end
/-- The state ahead of the second loop: the map was just made. -/
theorem PkS.start {w0 w : World} {bs g2 g4 g7 n len ce kn : Nat} {AE A1 A2 : Option Addr} {c1 c2 : Nat} {L : List Nat} {rf : Nat → Nat → Rat} (h1 : OwnC w bs 3 1 (.slice A1 kn c1) kn (mints L)) (h2 : OR w bs (.slice A2 kn c2) kn (PN w 2 (fun _ => 1))) (hu : Blk w g7 75 #[.slice A2 kn c2, .slice none 0 0, .slice none 0 0]) (hg : Blk w g2 24 #[.int .i64 (n : Int), .slice AE len ce]) (hq : Blk w g4 75 #[.slice none 0 0, .slice none 0 0, .slice none 0 0]) (hb : Below w0.heap.size w0 w) (lo : g2 < bs ∧ g4 < bs ∧ g7 < bs ∧ w0.heap.size ≤ g7 ∧ w0.heap.size ≤ bs ∧ g4 ≠ g7 ∧ g2 ≠ g7) (sz : bs ≤ w.heap.size) :
    PkS w0 bs w.heap.size g2 g4 g7 w.heap.size n len ce kn AE A1 A2 c1 c2 L [] [] none 0 0 none 0 0 (fun _ => none) (fun _ => 0) rf 0 none 0 (w.alloc (.map #[] 0)) := by
  have hbb := Go.Proofs.Ytpnklmgfdihjfaa.al w (.map #[] 0)
  exact ⟨h1.below hbb, fun g e => (h1.own.lt g e).2, h2.newN hbb, fun g e => (h2.lt g e).2, hg.keep hbb, hq.keep hbb, hu.keep hbb, MpB.new_ w, OwnC.nil _ _ _ _, OwnC.nil _ _ _ _, fun j hj => absurd hj (by omega), OR.nil _ _ _, fun j hj => absurd hj (by omega), bthen hb hbb hb.size, hbb.size, ⟨Nat.le_refl _, by omega, by omega, by omega, by omega, by omega, by omega⟩⟩
end Go.Proofs.Ytpnklmgfdihjfaa
