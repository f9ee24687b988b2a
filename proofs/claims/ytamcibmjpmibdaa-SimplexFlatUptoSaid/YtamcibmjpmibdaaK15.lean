/-
Contract of Solve. Regions printed by gen/sx.py.
rat.Text, said of values; equal strings.
law28.awake: the example of the document.
Contract of the reference's Valid.
law28.great.
append([]T{}, xs...): a copy of a row; a row of Rats behind a row of Rats.
A valid problem of the laws: what Solve answers, in 140 words.
Rows of one Rat as values; a problem with another objective.
-/
import Derived.Test.YtamcibmjpmibdaaK14
import Derived.Test.YtamcibmjpmibdaaK11
import Derived.Test.YtamcibmjpmibdaaK5
import Derived.Test.YtamcibmjpmibdaaK6
import Derived.Test.YtamcibmjpmibdaaK13
import Derived.Test.YtamcibmjpmibdaaK9
namespace Go.Proofs.Ytamcibmjpmibdaa
open Go.RowKit
set_option linter.unusedVariables false
set_option linter.unusedSimpArgs false

theorem rowx_rv {n b : Nat} {x : Nat → Rat} {w : World} : ∀ e w', RowX n b x w e w' → ∃ v, e = .returned v ∧ (∃ g0 : Nat, v = .slice (some ⟨g0, 0, none⟩) n n ∧ RB w' g0 n (PN w' b x)) ∧ Below w.heap.size w w' :=
  fun _ _ ⟨g, h1, _, h3, h4⟩ => ⟨_, h1, ⟨g, rfl, h3⟩, h4⟩
/-- A solution as a value. -/
def SolV (n m b : Nat) (q : Res) (v : Value) (w : World) : Prop := ∃ AX kX cX AY kY cY AR kR cR s A k c B m' d, v = .agg #[.int .i64 (q.out : Int), .slice AX kX cX, .slice AY kY cY, .slice AR kR cR, .bool s, .slice A k c, .slice B m' d] ∧
  ((q.out = 0 ∧ kX = n ∧ kY = m ∧ kR = 0) ∨ (q.out = 1 ∧ kX = 0 ∧ kY = m ∧ kR = 0) ∨ (q.out = 2 ∧ kX = n ∧ kY = 0 ∧ kR = n)) ∧
  Rs w w.heap.size AX kX (PN w b q.X) ∧ Rs w w.heap.size AY kY (PN w b q.Y) ∧ Rs w w.heap.size AR kR (PN w b q.Ray) ∧ Rv b q.v (.agg #[.bool s, .slice A k c, .slice B m' d]) w
theorem Rs.nil (w : World) (B : Nat) (P : Nat → Value → Prop) : Rs w B none 0 P := ⟨[], ⟨rfl, fun h => absurd h (by omega)⟩, ⟨rfl, fun j hj => absurd hj (by omega)⟩⟩
theorem wp_build3 {o : Oper} {a : Act} {w : World} {K : Act → World → Prop} {Q : Exit → Act → World → Prop} {t : TypeId} {i j k : Nat} {x y z : Operand} {u v r : Value} {cells : Array Value} (ho : o.op = .build t #[(i, x), (j, y), (k, z)]) (hx : a.eval x = u) (hy : a.eval y = v) (hz : a.eval z = r)
    (hf : Try.prog.built t [(i, u), (j, v), (k, r)] = some cells) (d : Tmp) (hd : o.dst = some d) (h : K (a.put (some d) (.agg cells)) w) : o.wp Try.prog a w K Q := by
  rw [← hd] at h
  have e : (#[(i, x), (j, y), (k, z)].map fun (i, x) => (i, a.eval x)).toList = [(i, u), (j, v), (k, r)] := by simp [hx, hy, hz]
  refine wp_build t _ ho (by rw [e, hf]; rfl) ?_
  rw [e, hf]; exact h
theorem wp_build4 {o : Oper} {a : Act} {w : World} {K : Act → World → Prop} {Q : Exit → Act → World → Prop} {t : TypeId} {i j k l : Nat} {x y z q : Operand} {u v r s : Value} {cells : Array Value} (ho : o.op = .build t #[(i, x), (j, y), (k, z), (l, q)]) (hx : a.eval x = u) (hy : a.eval y = v) (hz : a.eval z = r) (hq : a.eval q = s)
    (hf : Try.prog.built t [(i, u), (j, v), (k, r), (l, s)] = some cells) (d : Tmp) (hd : o.dst = some d) (h : K (a.put (some d) (.agg cells)) w) : o.wp Try.prog a w K Q := by
  rw [← hd] at h
  have e : (#[(i, x), (j, y), (k, z), (l, q)].map fun (i, x) => (i, a.eval x)).toList = [(i, u), (j, v), (k, r), (l, s)] := by simp [hx, hy, hz, hq]
  refine wp_build t _ ho (by rw [e, hf]; rfl) ?_
  rw [e, hf]; exact h
/-- Operations i and j in any order, k behind i: each yields a value and turns nothing else. -/
theorem wpAny_three {P : Program} {ops : Array Oper} {a : Act} {w : World} {Q : Exit → Act → World → Prop} {i j k fuel : Nat} {listed : Array Bool} {oi oj ok : Oper} (hr : Region.ready .any ops listed = [i, j]) (hri : Region.ready .any ops (listed.setIfInBounds i true) = [j, k]) (hrj : Region.ready .any ops (listed.setIfInBounds j true) = [i])
    (hrij : Region.ready .any ops ((listed.setIfInBounds i true).setIfInBounds j true) = [k]) (hrik : Region.ready .any ops ((listed.setIfInBounds i true).setIfInBounds k true) = [j])
    (hoi : ops[i]? = some oi) (hoj : ops[j]? = some oj) (hok : ops[k]? = some ok) (gi : oi.guard = none) (gj : oj.guard = none) (gk : ok.guard = none) (di dj dk : Tmp) (ei : oi.dst = some di) (ej : oj.dst = some dj) (ek : ok.dst = some dk) (u v x : Value)
    (hi : gives P oi a.eval w (fun y w' => y = u ∧ w' = w)) (hi' : gives P oi (a.put (some dj) v).eval w (fun y w' => y = u ∧ w' = w)) (hj : gives P oj a.eval w (fun y w' => y = v ∧ w' = w)) (hj' : gives P oj (a.put (some di) u).eval w (fun y w' => y = v ∧ w' = w))
    (hj'' : gives P oj ((a.put (some di) u).put (some dk) x).eval w (fun y w' => y = v ∧ w' = w)) (hk : gives P ok ((a.put (some di) u).put (some dj) v).eval w (fun y w' => y = x ∧ w' = w)) (hk' : gives P ok (a.put (some di) u).eval w (fun y w' => y = x ∧ w' = w))
    (hc : (a.put (some dj) v).put (some di) u = (a.put (some di) u).put (some dj) v) (hc' : ((a.put (some di) u).put (some dk) x).put (some dj) v = ((a.put (some di) u).put (some dj) v).put (some dk) x)
    (hl : (listed.setIfInBounds j true).setIfInBounds i true = (listed.setIfInBounds i true).setIfInBounds j true) (hl' : ((listed.setIfInBounds i true).setIfInBounds k true).setIfInBounds j true = ((listed.setIfInBounds i true).setIfInBounds j true).setIfInBounds k true)
    (h : wpAny P .any ops Q fuel (((listed.setIfInBounds i true).setIfInBounds j true).setIfInBounds k true) (((a.put (some di) u).put (some dj) v).put (some dk) x) w) : wpAny P .any ops Q (fuel + 3) listed a w := by
  have hK : wpAny P .any ops Q (fuel + 1) ((listed.setIfInBounds i true).setIfInBounds j true) ((a.put (some di) u).put (some dj) v) w := by
    refine wpAny_next hrij hok gk (wp_of_gives hk ?_)
    rintro y w' ⟨rfl, rfl⟩
    rw [ek]
    exact h
  refine ⟨fun h0 => absurd (hr.symm.trans h0) (by simp), fun q hq => ?_⟩
  rw [hr] at hq
  simp only [List.mem_cons, List.not_mem_nil, or_false] at hq
  rcases hq with rfl | rfl
  · unfold wpOp
    simp only [hoi]
    rw [if_pos (by simp [Region.wanted, gi])]
    refine .inl (wp_of_gives hi ?_)
    rintro y w' ⟨rfl, rfl⟩
    rw [ei]
    refine ⟨fun h0 => absurd (hri.symm.trans h0) (by simp), fun q' hq' => ?_⟩
    rw [hri] at hq'
    simp only [List.mem_cons, List.not_mem_nil, or_false] at hq'
    rcases hq' with rfl | rfl
    · unfold wpOp
      simp only [hoj]
      rw [if_pos (by simp [Region.wanted, gj])]
      refine .inl (wp_of_gives hj' ?_)
      rintro y w' ⟨rfl, rfl⟩
      rw [ej]
      exact hK
    · unfold wpOp
      simp only [hok]
      rw [if_pos (by simp [Region.wanted, gk])]
      refine .inl (wp_of_gives hk' ?_)
      rintro y w' ⟨rfl, rfl⟩
      rw [ek]
      refine wpAny_next hrik hoj gj (wp_of_gives hj'' ?_)
      rintro y w' ⟨rfl, rfl⟩
      rw [ej, hc', hl']
      exact h
  · unfold wpOp
    simp only [hoj]
    rw [if_pos (by simp [Region.wanted, gj])]
    refine .inl (wp_of_gives hj ?_)
    rintro y w' ⟨rfl, rfl⟩
    rw [ej]
    refine wpAny_next hrj hoi gi (wp_of_gives hi' ?_)
    rintro y w' ⟨rfl, rfl⟩
    rw [ei, hc, hl]
    exact hK
theorem asg_w {o : Oper} {a : Act} {w : World} {x : Operand} {v : Value} (ho : o.op = .assign x) (h : a.eval x = v) : gives Try.prog o a.eval w (fun y w' => y = v ∧ w' = w) := gives_assign x ho ⟨h, rfl⟩
theorem ext_w {o : Oper} {a : Act} {w : World} {t : Tmp} {i : Nat} {vs : Array Value} {x : Value} (ho : o.op = .extract (.tmp t) i) (h : tv a t = .tuple vs) (hx : vs[i]? = some x) : gives Try.prog o a.eval w (fun v w' => v = x ∧ w' = w) := by
  refine gives_val x ?_ ⟨rfl, rfl⟩
  unfold execOp
  rw [ho]
  simp only [eval_tmp, h]
  go_simp
theorem wp_move {o : Oper} {a : Act} {w : World} {K : Act → World → Prop} {Q : Exit → Act → World → Prop} (t : Tmp) (x : Operand) (ho : o.op = .move x) (hd : o.dst = some t) (v : Value) (hv : a.eval x = v) (h : K (a.put (some t) v) w) : o.wp Try.prog a w K Q := by
  rw [← hd, ← hv] at h
  unfold Oper.wp execOp
  rw [ho]
  exact h
theorem wp_call2 {P : Program} {o : Oper} {a : Act} {w : World} {K : Act → World → Prop} {Q : Exit → Act → World → Prop} {f : FuncId} {x y : Operand} {ts : Array TypeId} (ho : o.op = .call { callee := .value (.func f), args := #[x, y], argTypes := ts }) (hf : callsB P f = true) (d : Tmp) (hd : o.dst = some d) (u v : Value) (hu : a.eval x = u) (hv : a.eval y = v)
    (h : Calls P f #[u, v] w (fun e w'' => ∃ v, e = .returned v ∧ K (a.put (some d) v) w'')) : Oper.wp P o a w K Q := by
  rw [← hd, ← hu, ← hv] at h
  exact wp_of_gives (K := fun v w' => K (a.put o.dst v) w') (gives_call2 f x y ts ho hf h) (fun _ _ h => h)
/-- The cells of a solution are set. -/
theorem store_sol {o : Oper} {a : Act} {w : World} {t u : Tmp} {g : Nat} {v0 v1 v2 v3 v4 v5 v6 u0 u1 u2 u3 u4 u5 u6 : Value} {K : Act → World → Prop} {Q : Exit → Act → World → Prop} (ho : o.op = .store 43 (.tmp t) (.tmp u)) (hd : o.dst = none) (ht : a.eval (.tmp t) = .pointer (some ⟨g, 0, none⟩)) (hu : a.eval (.tmp u) = .agg #[u0, u1, u2, u3, u4, u5, u6])
    (hr : Blk w g 43 #[v0, v1, v2, v3, v4, v5, v6]) (hcl : ∀ u ∈ [v0, v1, v2, v3, v4, v5, v6], ∀ x, u ≠ .int .u32 x) (h1 : #[u0, u1, u2, u3, u4, u5, u6].all (·.oneCell') = true) (h2 : ∀ u ∈ [u0, u1, u2, u3, u4, u5, u6], ∀ x, u ≠ .int .u32 x)
    (next : ∀ w', KeepsN w w' → w.grownBy w' (some g) → w'.heap.size = w.heap.size → Blk w' g 43 #[u0, u1, u2, u3, u4, u5, u6] → K a w') : o.wp Try.prog a w K Q := by
  refine wp_store_mid 43 (.tmp t) (.tmp u) ho g 0 #[u0, u1, u2, u3, u4, u5, u6] ht hu (fun i hi => ⟨?_, hr.frozen _⟩) (by kernel_rfl) h1 ?_
  · rw [hr.cell]
    have hi7 : i < 7 := by simpa using hi
    rw [Nat.zero_add, Array.getElem?_eq_getElem hi7]; rfl
  · rw [hd]
    have b0 : Blk (w.setCell ⟨g, 0, none⟩ u0) g 43 #[u0, v1, v2, v3, v4, v5, v6] := hr.set_ 0 u0
    have b1 : Blk ((w.setCell ⟨g, 0, none⟩ u0).setCell ⟨g, 1, none⟩ u1) g 43 #[u0, u1, v2, v3, v4, v5, v6] := b0.set_ 1 u1
    have b2 : Blk (((w.setCell ⟨g, 0, none⟩ u0).setCell ⟨g, 1, none⟩ u1).setCell ⟨g, 2, none⟩ u2) g 43 #[u0, u1, u2, v3, v4, v5, v6] := b1.set_ 2 u2
    have b3 : Blk ((((w.setCell ⟨g, 0, none⟩ u0).setCell ⟨g, 1, none⟩ u1).setCell ⟨g, 2, none⟩ u2).setCell ⟨g, 3, none⟩ u3) g 43 #[u0, u1, u2, u3, v4, v5, v6] := b2.set_ 3 u3
    have b4 : Blk (((((w.setCell ⟨g, 0, none⟩ u0).setCell ⟨g, 1, none⟩ u1).setCell ⟨g, 2, none⟩ u2).setCell ⟨g, 3, none⟩ u3).setCell ⟨g, 4, none⟩ u4) g 43 #[u0, u1, u2, u3, u4, v5, v6] := b3.set_ 4 u4
    have b5 : Blk ((((((w.setCell ⟨g, 0, none⟩ u0).setCell ⟨g, 1, none⟩ u1).setCell ⟨g, 2, none⟩ u2).setCell ⟨g, 3, none⟩ u3).setCell ⟨g, 4, none⟩ u4).setCell ⟨g, 5, none⟩ u5) g 43 #[u0, u1, u2, u3, u4, u5, v6] := b4.set_ 5 u5
    have b6 : Blk (((((((w.setCell ⟨g, 0, none⟩ u0).setCell ⟨g, 1, none⟩ u1).setCell ⟨g, 2, none⟩ u2).setCell ⟨g, 3, none⟩ u3).setCell ⟨g, 4, none⟩ u4).setCell ⟨g, 5, none⟩ u5).setCell ⟨g, 6, none⟩ u6) g 43 #[u0, u1, u2, u3, u4, u5, u6] := b5.set_ 6 u6
    have q0 : ∀ x, v0 ≠ .int .u32 x := hcl v0 (by simp)
    have q1 : ∀ x, v1 ≠ .int .u32 x := hcl v1 (by simp)
    have q2 : ∀ x, v2 ≠ .int .u32 x := hcl v2 (by simp)
    have q3 : ∀ x, v3 ≠ .int .u32 x := hcl v3 (by simp)
    have q4 : ∀ x, v4 ≠ .int .u32 x := hcl v4 (by simp)
    have q5 : ∀ x, v5 ≠ .int .u32 x := hcl v5 (by simp)
    have q6 : ∀ x, v6 ≠ .int .u32 x := hcl v6 (by simp)
    have kp := ((((((KeepsN.blk hr (i := 0) (by show 0 < 7; omega) (by intro x; simpa using q0 x) u0).trans
      (KeepsN.blk b0 (i := 1) (by show 1 < 7; omega) (by intro x; simpa using q1 x) u1)).trans
      (KeepsN.blk b1 (i := 2) (by show 2 < 7; omega) (by intro x; simpa using q2 x) u2)).trans
      (KeepsN.blk b2 (i := 3) (by show 3 < 7; omega) (by intro x; simpa using q3 x) u3)).trans
      (KeepsN.blk b3 (i := 4) (by show 4 < 7; omega) (by intro x; simpa using q4 x) u4)).trans
      (KeepsN.blk b4 (i := 5) (by show 5 < 7; omega) (by intro x; simpa using q5 x) u5)).trans
      (KeepsN.blk b5 (i := 6) (by show 6 < 7; omega) (by intro x; simpa using q6 x) u6)
    exact next _ kp (only_setCells _ _ _ (World.grownBy.refl w _)) (by show (((((((w.setCell _ _).setCell _ _).setCell _ _).setCell _ _).setCell _ _).setCell _ _).setCell _ _).heap.size = _; simp only [size_setCell]) b6
theorem built_inf (z : Int) (A : Option Addr) (n c : Nat) (s : Bool) (A0 B0 : Option Addr) (k0 q0 m0 d0 : Nat) : Try.prog.built 43 [(0, .int .i64 z), (2, .slice A n c), (4, .agg #[.bool s, .slice A0 k0 q0, .slice B0 m0 d0])] = some #[.int .i64 z, .slice none 0 0, .slice A n c, .slice none 0 0, .bool s, .slice A0 k0 q0, .slice B0 m0 d0] := by kernel_rfl
theorem built_unb (z : Int) (A A' : Option Addr) (n c n' c' : Nat) (s : Bool) (A0 B0 : Option Addr) (k0 q0 m0 d0 : Nat) : Try.prog.built 43 [(0, .int .i64 z), (1, .slice A n c), (3, .slice A' n' c'), (4, .agg #[.bool s, .slice A0 k0 q0, .slice B0 m0 d0])] = some #[.int .i64 z, .slice A n c, .slice none 0 0, .slice A' n' c', .bool s, .slice A0 k0 q0, .slice B0 m0 d0] := by kernel_rfl
theorem built_opt (z : Int) (A A' : Option Addr) (n c n' c' : Nat) (s : Bool) (A0 B0 : Option Addr) (k0 q0 m0 d0 : Nat) : Try.prog.built 43 [(0, .int .i64 z), (1, .slice A n c), (2, .slice A' n' c'), (4, .agg #[.bool s, .slice A0 k0 q0, .slice B0 m0 d0])] = some #[.int .i64 z, .slice A n c, .slice A' n' c', .slice none 0 0, .bool s, .slice A0 k0 q0, .slice B0 m0 d0] := by kernel_rfl
set_option maxRecDepth 100000 in
set_option maxHeartbeats 8000000 in
theorem Solve_ok (n m N b cC cA cB : Nat) (AC AA AB : Option Addr) (Ar : Nat → Option Addr) (ln cp : Nat → Nat) (A : Nat → Nat → Rat) (C B : Nat → Rat) (D a : Nat) (w : World) (hP : PrW w b n m m AC AA AB Ar ln cp A C B) (hl : ∀ i, i < m → ln i = n) (hN : N = n + m + 2) (hn64 : n ≤ 64) (hm64 : m ≤ 64) (hb2 : 2 ≤ b) (hb0 : b ≤ 1000) (hFr : FracP n m D a A B C) (hbit : bitsT m a < 32 * b) :
    Calls Try.prog 13 #[.agg #[.slice AC n cC, .slice AA m cA, .slice AB m cB]] w (RV w (fun v w' => ∃ u q, v = .tuple #[u, .int .i64 0] ∧ SolveIs n m A B C q ∧ SolV n m b q u w')) := by
  have HP := Lib.hid hP; clear hP
  have HL := Lib.hid hl; clear hl
  have HFr := Lib.hid hFr; clear hFr
  have HBt := Lib.hid hbit; clear hbit
  have hN2 : N ≤ 1000 := by omega
  have HN := Lib.hid hN; clear hN
  have n1 : ¬ ((n : Int) > 64) := by omega
  have n2 : ¬ ((m : Int) > 64) := by omega
  go_enter Try.func13, Try.ntmps13
  go_upto_region 1 with (fail)
  have TQ := Lib.hid ((Blk.new w 31 #[.slice AC n cC, .slice AA m cA, .slice AB m cB]).keep (al _ (.cells #[.int .i64 0, .slice none 0 0, .slice none 0 0, .slice none 0 0, .bool false, .slice none 0 0, .slice none 0 0] 43)))
  have TS := Lib.hid (Blk.new (w.alloc (.cells #[.slice AC n cC, .slice AA m cA, .slice AB m cB] 31)) 43 #[.int .i64 0, .slice none 0 0, .slice none 0 0, .slice none 0 0, .bool false, .slice none 0 0, .slice none 0 0])
  have HB := Lib.hid (bthen (al w (.cells #[.slice AC n cC, .slice AA m cA, .slice AB m cB] 31)) (al _ (.cells #[.int .i64 0, .slice none 0 0, .slice none 0 0, .slice none 0 0, .bool false, .slice none 0 0, .slice none 0 0] 43)) (by simp))
  rw [show (w.alloc (.cells #[.slice AC n cC, .slice AA m cA, .slice AB m cB] 31)).heap.size = w.heap.size + 1 from Array.size_push _] at TS
  generalize (w.alloc (.cells #[.slice AC n cC, .slice AA m cA, .slice AB m cB] 31)).alloc (.cells #[.int .i64 0, .slice none 0 0, .slice none 0 0, .slice none 0 0, .bool false, .slice none 0 0, .slice none 0 0] 43) = w1 at *
  obtain ⟨gs, hgs⟩ : ∃ gs, gs = w.heap.size + 1 := ⟨_, rfl⟩
  obtain ⟨gq, hgq⟩ : ∃ gq, gq = w.heap.size := ⟨_, rfl⟩
  rw [← hgs] at TS ⊢
  rw [← hgq] at TQ ⊢
  have HG := Lib.hid (show w.heap.size ≤ gs by omega); clear hgs hgq
  have c0 := Blk.at0 TQ.out (Below.refl _ _); have c1 := Blk.at1 TQ.out (Below.refl _ _); have c2 := Blk.at2 TQ.out (Below.refl _ _)
  go_wp2_with fail
  refine (valid_any n m m cC cA cB AC AA AB Ar ln cp w1 (HP.out.new HB.out).a (by omega)).mono ?_
  rintro e w2 ⟨t, rfl, hb, ht⟩
  obtain rfl : t = true := ht.2 ⟨rfl, HL.out⟩
  clear ht c0 c1 c2
  have TQ2 := Lib.hid (TQ.out.keep hb); have TS2 := Lib.hid (TS.out.keep hb); have HB2 := Lib.hid (bthen HB.out hb HB.out.size)
  clear TQ TS HB hb
  have c0 := Blk.at0 TQ2.out (Below.refl _ _); have c1 := Blk.at1 TQ2.out (Below.refl _ _); have c2 := Blk.at2 TQ2.out (Below.refl _ _)
  go_wp2_with fail
  refine (newTableau_any n m N b cC cA cB AC AA AB Ar ln cp A C B w2 (HP.out.new HB2.out) HL.out HN.out hN2 hb2 hb0).mono ?_
  rintro e w3 ⟨p, cr, cb, Atr, Atb, rs, rfl, hT, hb⟩
  clear c0 c1 c2
  have TQ := Lib.hid (TQ2.out.keep hb); have TS := Lib.hid (TS2.out.keep hb)
  have HQs := Lib.hid (And.intro TQ2.out.lt TS2.out.lt)
  have HB := Lib.hid (bthen HB2.out hb HB2.out.size); have HT := Lib.hid hT
  clear hb hT
  obtain ⟨bs, hbs⟩ : ∃ bs, bs = w2.heap.size := ⟨_, rfl⟩
  rw [← hbs] at HT HQs
  have HW := Lib.hid (show w.heap.size ≤ bs from by rw [hbs]; exact HB2.out.size); clear hbs HB2 TQ2 TS2
  go_wp2_with fail
  refine (feasible_any bs p n m N b 0 0 cr cb none Atr Atb rs A B w3 HT.out (fun hm F c e1 e2 => by have h := HFr.out.fit1 HBt.out hm c e1 e2; rw [← HN.out] at h; exact h) hN2 hb0 hb2).mono ?_
  rintro e w4 ⟨ok, S, rs4, rfl, hph, hb, hk⟩
  have HPh := Lib.hid hph; clear hph
  have TQ4 := Lib.hid (show Blk w4 gq 31 #[.slice AC n cC, .slice AA m cA, .slice AB m cB] from TQ.out.below hb HQs.out.1)
  have TS4 := Lib.hid (show Blk w4 gs 43 #[.int .i64 0, .slice none 0 0, .slice none 0 0, .slice none 0 0, .bool false, .slice none 0 0, .slice none 0 0] from TS.out.below hb HQs.out.2)
  have HB4 := Lib.hid (show Below w.heap.size w w4 from HB.out.trans (hb.mono HW.out))
  have HK := Lib.hid hk
  clear TQ TS HB hb HT hk
  cases ok with
  | false =>
    obtain ⟨gg, hT⟩ : ∃ gg : Nat, TabW bs w4 p n m N b gg Atr cr Atb cb rs4 S := by
      rcases HK.out with ⟨h, _⟩ | ⟨_, h⟩
      · cases h
      · exact h
    have HT := Lib.hid hT; clear hT HK
    go_upto_region 7 with (fail)
    refine wp_region_joins (kss := [[], [(0, 27)], []]) [(4, .pointer (some ⟨p, 0, none⟩))] [EV (.pointer (some ⟨p, 0, none⟩)), fun v w' => ∃ g0 : Nat, v = .slice (some ⟨g0, 0, none⟩) m m ∧ RB w' g0 m (PN w' b (fun j => S.G (n + j))), Rv (2) (((0 : Int) : Rat))] 3 (by kernel_rfl) ⟨rfl, trivial⟩ [false, false, false] ?_ ?_ ?_
    · exact ⟨eI, fun _ _ _ ⟨g0, h1, h2⟩ hb => ⟨g0, h1, h2.newN hb⟩, fun _ _ _ h hb => h.new hb, trivial⟩
    · refine ⟨?_, ?_, ?_, trivial⟩
      · exact fun _ _ _ he hd => ob_mv rfl rfl he.1
      · exact fun aa ww hb he hd => ob_plain rfl (gives_call1 _ _ _ rfl (by kernel_rfl) (by rw [show aa.eval (.tmp 27) = .pointer (some ⟨p, 0, none⟩) from hd.1]; exact (dual_any bs p n m N b gg cr cb Atr Atb rs4 S _ (TabW.new HT.out hb) hN2 hb0 hb2).mono rowx_rv))
      · exact fun aa ww hb he hd => ob_plain rfl (gives_call1 _ _ _ rfl (by kernel_rfl) (int_w (0) (by omega) (by omega) _ rfl _))
    intro vs w5 hb hR
    have r28 := hR 1 (by decide)
    have r29 : Rv (2) (((0 : Int) : Rat)) (vs 2) w5 := hR 2 (by decide)
    clear hR
    simp only [putsL, Nat.zero_add, Nat.reduceAdd, List.take_succ_cons, List.take_zero, Act.put, List.setIfInBounds_toArray, List.set_cons_zero, List.set_cons_succ]
    obtain ⟨gd, e28, hY⟩ := (show ∃ g0 : Nat, vs 1 = .slice (some ⟨g0, 0, none⟩) m m ∧ RB w5 g0 m (PN w5 b (fun j => S.G (n + j))) from r28)
    have r29' : Rv b 0 (vs 2) w5 := by
      have h := r29
      rw [show ((0 : Int) : Rat) = 0 from by simp] at h
      exact Rv.more h hb2
    obtain ⟨s, A0, k0, q0, B0, m0, d0, e29⟩ := r29'.rw.agg
    rw [e28, e29]
    rw [e29] at r29'
    clear r28 r29 e28 e29
    show wpOps _ _ _ [3, 4, 5] _ _
    refine wpOps_next rfl rfl (wp_build3 rfl rfl rfl rfl (built_inf 1 (some ⟨gd, 0, none⟩) m m s A0 B0 k0 q0 m0 d0) 30 rfl ?_)
    simp only [Act.put, List.setIfInBounds_toArray, List.set_cons_zero, List.set_cons_succ]
    refine wpOps_next rfl rfl (store_sol rfl rfl rfl rfl (TS4.out.keep hb) (by simp) (by simp [Value.oneCell']) (by simp) ?_)
    intro w6 kp hg hsz hS
    refine wpOps_next rfl rfl (wp_assign 3 (.const (.int .i64 0)) rfl rfl (.int .i64 0) rfl ?_)
    simp only [Act.put, List.setIfInBounds_toArray, List.set_cons_zero, List.set_cons_succ]
    show Exit.then _ _ _ _ _
    have hne : gd ≠ gs := by obtain ⟨cs, hc, -⟩ := hY; exact Blk.ne_ hc (TS4.out.keep hb) (by decide)
    have HY := Lib.hid (hY.grown hg hne (Q := PN w6 b (fun j => S.G (n + j))) (fun j v _ hv => PN.keep hv kp))
    have HV := Lib.hid (r29'.keepN kp)
    have HB6 := Lib.hid ((bthen HB4.out hb HB4.out.size).grown hg (bthen HB4.out hb HB4.out.size).size (fun x hx => by cases hx; exact HG.out))
    have HS := Lib.hid hS
    clear hY r29' hb kp hg hsz hS hne
    go_wp2_with fail
    refine bodyPost_ret (v := .tuple #[.agg #[.int .i64 1, .slice none 0 0, .slice (some ⟨gd, 0, none⟩) m m, .slice none 0 0, .bool s, .slice A0 k0 q0, .slice B0 m0 d0], .int .i64 0]) (results_cell_tmp Try.results13 _ _ _ _ _ (0, 0) _ rfl HS.out Try.underlying43 rfl rfl) rfl ?_
    exact ⟨_, rfl, ⟨_, resInf n m S, rfl, ⟨S, false, HPh.out, .inl ⟨rfl, rfl⟩⟩, none, 0, 0, _, m, m, none, 0, 0, s, A0, k0, q0, B0, m0, d0, rfl, .inr (.inl ⟨rfl, rfl, rfl, rfl⟩), Rs.nil _ _ _, Rs.of_rb HY.out, Rs.nil _ _ _, HV.out⟩, HB6.out⟩
  | true =>
    obtain ⟨A3, n3, d3, hT⟩ : ∃ (A3 : Option Addr) (n3 d3 : Nat), Tab0 bs w4 p n m N b A3 n3 d3 Atr cr Atb cb rs4 S := by
      rcases HK.out with ⟨_, h⟩ | ⟨h, _⟩
      · exact h
      · cases h
    have HT := Lib.hid hT; clear hT HK
    have c0 := Blk.at0 TQ4.out (Below.refl _ _)
    go_wp2_with fail
    have HGd := Lib.hid HPh.out.good
    have HOb := Lib.hid (HPh.out.obj C)
    refine (objective_any bs p n m N b n3 d3 cr cb cC A3 Atr Atb AC rs4 S C w4 HT.out (fun w' hb => HP.out.c.newW ((HB4.out.trans (hb.mono HW.out)))) (fun i hi j hj => HFr.out.fitG HBt.out HGd.out.1 HGd.out.2.2.1 HGd.out.2.2.2.1 i hi j (by rw [← HN.out]; exact hj)) hN2 hb0 hb2).mono ?_
    rintro e w5 ⟨gg5, rfl, hT5, hb⟩
    have HT5 := Lib.hid hT5
    have TQ5 := Lib.hid (show Blk w5 gq 31 #[.slice AC n cC, .slice AA m cA, .slice AB m cB] from TQ4.out.below hb HQs.out.1)
    have TS5 := Lib.hid (show Blk w5 gs 43 #[.int .i64 0, .slice none 0 0, .slice none 0 0, .slice none 0 0, .bool false, .slice none 0 0, .slice none 0 0] from TS4.out.below hb HQs.out.2)
    have HB5 := Lib.hid (show Below w.heap.size w w5 from HB4.out.trans (hb.mono HW.out))
    clear c0 hT5 hb HT TQ4 TS4 HB4
    have c0 := HT5.out.c0; have c1 := HT5.out.c1; have pl := HT5.out.blk.lt
    go_upto_region 9 with (fail)
    refine wp_region_join (kss := [[], [], [(1, 37)], [(2, 38)], [(3, 39)], [], [(5, 41)], [(6, 42)], [(7, 43)], [(4, 40), (8, 44)]]) [(4, .pointer (some ⟨p, 0, none⟩))] [EV (.pointer (some ⟨p, 0, none⟩)), EV (.pointer (some ⟨p, 0, none⟩)), EV (.pointer (some ⟨p, 0, none⟩)), EV (.pointer (some ⟨p, 0, none⟩)), EV (.int .i64 ((n : Int))), EV (.pointer (some ⟨p, 0, none⟩)), EV (.pointer (some ⟨p, 0, none⟩)), EV (.pointer (some ⟨p, 1, none⟩)), EV (.int .i64 ((m : Int))), EV (.int .i64 (((n + m : Nat) : Int)))] 10 [] (by kernel_rfl) (by kernel_rfl) ⟨rfl, trivial⟩ [false, false, false, false, false, false, false, false, false, false] ?_ ?_ ?_ ?_
    · exact fun i hi => absurd hi (by simp)
    · exact ⟨eI, eI, eI, eI, eI, eI, eI, eI, eI, eI, trivial⟩
    · refine ⟨?_, ?_, ?_, ?_, ?_, ?_, ?_, ?_, ?_, ?_, trivial⟩
      · exact fun _ _ _ he hd => ob_mv rfl rfl he.1
      · exact fun _ _ _ he hd => ob_mv rfl rfl he.1
      · exact fun aa ww hb he hd => ob_plain rfl (nil_c rfl hd.1)
      · exact fun aa ww hb he hd => ob_plain rfl (fld_tab rfl (by decide) hd.1)
      · exact fun aa ww hb he hd => ob_plain rfl (load_c3 rfl hd.1 (TabW.new HT5.out hb).c0)
      · exact fun _ _ _ he hd => ob_mv rfl rfl he.1
      · exact fun aa ww hb he hd => ob_plain rfl (nil_c rfl hd.1)
      · exact fun aa ww hb he hd => ob_plain rfl (fld_tab rfl (by decide) hd.1)
      · exact fun aa ww hb he hd => ob_plain rfl (load_c3 rfl hd.1 (TabW.new HT5.out hb).c1)
      · exact fun aa ww hb he hd => ob_plain rfl (gives_add_nat n m (n + m) rfl hd.1 hd.2.1 (by first | rfl | omega) (by omega))
    intro vs w6 hb hR _
    have e36 : vs 0 = .pointer (some ⟨p, 0, none⟩) := hR 0 (by decide)
    have e45 : vs 9 = .int .i64 (((n + m : Nat) : Int)) := hR 9 (by decide)
    clear hR
    simp only [putsL, Nat.zero_add, Nat.reduceAdd, List.take_succ_cons, List.take_zero, Act.put, List.setIfInBounds_toArray, List.set_cons_zero, List.set_cons_succ]
    rw [e36, e45]
    clear e36 e45
    have HT6 := Lib.hid (HT5.out.new hb)
    show wpAny _ _ _ _ 6 _ _ _
    refine wpAny_next (i := 10) (by kernel_rfl) rfl rfl (wp_call2 rfl (by kernel_rfl) 46 rfl _ _ rfl rfl ?_)
    refine (maximize_any bs p n m N b gg5 cr cb (n + m) Atr Atb rs4 ⟨S.T, objG S C n m, S.b⟩ w6 HT6.out (n + m + 1) rfl (by omega) HOb.out.1 HOb.out.2.1 (fun S' q1 q2 q3 => by have h := HFr.out.fit2 HBt.out q1 (HOb.out.2.2.1.trans q2) (q3.trans HOb.out.2.2.2); rw [← HN.out] at h; exact h) hN2 hb0 (by omega)).mono ?_
    rintro e w7 ⟨K, S5, gg, rs7, z, t, rfl, hrun, hend, hT7, hb7⟩
    refine ⟨_, rfl, ?_⟩
    simp only [Act.put, List.setIfInBounds_toArray, List.set_cons_zero, List.set_cons_succ]
    refine wpAny_next (i := 11) (by kernel_rfl) rfl rfl (wp_move 35 _ rfl rfl (.tuple #[.int .i64 z, .bool t]) rfl ?_)
    simp only [Act.put, List.setIfInBounds_toArray, List.set_cons_zero, List.set_cons_succ]
    have PUT2 : True := trivial
    refine wpAny_three (i := 12) (j := 13) (k := 14) (by kernel_rfl) (by kernel_rfl) (by kernel_rfl) (by kernel_rfl) (by kernel_rfl) rfl rfl rfl rfl rfl rfl 47 48 5 rfl rfl rfl (.int .i64 z) (.bool t) (.int .i64 z) (ext_w rfl rfl rfl) (ext_w rfl rfl rfl) (ext_w rfl rfl rfl) (ext_w rfl rfl rfl) (ext_w rfl rfl rfl) (asg_w rfl rfl) (asg_w rfl rfl) (by simp only [Act.put, List.setIfInBounds_toArray, List.set_cons_zero, List.set_cons_succ]) (by simp only [Act.put, List.setIfInBounds_toArray, List.set_cons_zero, List.set_cons_succ]) (by kernel_rfl) (by kernel_rfl) ?_
    clear PUT2
    simp only [Act.put, List.setIfInBounds_toArray, List.set_cons_zero, List.set_cons_succ]
    refine wpAny_next (i := 15) (by kernel_rfl) rfl rfl (wp_assign 6 _ rfl rfl (.bool t) rfl ?_)
    simp only [Act.put, List.setIfInBounds_toArray, List.set_cons_zero, List.set_cons_succ]
    refine wpAny_end (by kernel_rfl) (calm_normal ?_) _
    have HRun := Lib.hid hrun; have HEnd := Lib.hid hend
    have HT := Lib.hid hT7
    have hb7' : Below bs w5 w7 := (hb.mono HT5.out.low.2.1).trans hb7
    have TQ := Lib.hid (show Blk w7 gq 31 #[.slice AC n cC, .slice AA m cA, .slice AB m cB] from TQ5.out.below hb7' HQs.out.1)
    have TS := Lib.hid (show Blk w7 gs 43 #[.int .i64 0, .slice none 0 0, .slice none 0 0, .slice none 0 0, .bool false, .slice none 0 0, .slice none 0 0] from TS5.out.below hb7' HQs.out.2)
    have HB := Lib.hid (show Below w.heap.size w w7 from HB5.out.trans (hb7'.mono HW.out))
    clear hrun hend hT7 hb hb7 hb7' TQ5 TS5 HB5 HT5 HT6 c0 c1 pl
    cases t with
    | false =>
      obtain ⟨kk, rfl, hkk0, hend1⟩ : ∃ kk : Nat, z = ((kk : Nat) : Int) ∧ kk < n + m ∧ MxEnd m (n + m) S5 ((kk : Nat) : Int) false := by
        rcases HEnd.out with ⟨h, _⟩ | ⟨_, j, hz, h1, h2⟩
        · cases h
        · exact ⟨j, hz, h1, by rw [← hz]; exact HEnd.out⟩
      have hkk : kk < N := by have := HN.out; omega
      go_upto_region 11 with (fail)
      refine wp_region_joins (kss := [[], [(0, 51)], [], [], [(2, 53), (3, 54)], []]) [(4, .pointer (some ⟨p, 0, none⟩)), (5, .int .i64 (((kk : Nat) : Int)))] [EV (.pointer (some ⟨p, 0, none⟩)), fun v w' => ∃ g0 : Nat, v = .slice (some ⟨g0, 0, none⟩) n n ∧ RB w' g0 n (PN w' b (basX S5 (fun i => S5.T i (n + m + 1)) (fun _ => 0) n m)), EV (.pointer (some ⟨p, 0, none⟩)), EV (.int .i64 (((kk : Nat) : Int))), fun v w' => ∃ g0 : Nat, v = .slice (some ⟨g0, 0, none⟩) n n ∧ RB w' g0 n (PN w' b (basX S5 (fun i => -(S5.T i kk)) (fun j => if j = kk then 1 else 0) n m)), Rv (2) (((0 : Int) : Rat))] 6 (by kernel_rfl) ⟨rfl, rfl, trivial⟩ [false, false, false, false, false, false] ?_ ?_ ?_
      · exact ⟨eI, fun _ _ _ ⟨g0, h1, h2⟩ hb => ⟨g0, h1, h2.newN hb⟩, eI, eI, fun _ _ _ ⟨g0, h1, h2⟩ hb => ⟨g0, h1, h2.newN hb⟩, fun _ _ _ h hb => h.new hb, trivial⟩
      · refine ⟨?_, ?_, ?_, ?_, ?_, ?_, trivial⟩
        · exact fun _ _ _ he hd => ob_mv rfl rfl he.1
        · exact fun aa ww hb he hd => ob_plain rfl (gives_call1 _ _ _ rfl (by kernel_rfl) (by rw [show aa.eval (.tmp 51) = .pointer (some ⟨p, 0, none⟩) from hd.1]; exact (point_any bs p n m N b gg cr cb Atr Atb rs7 S5 _ (TabW.new HT.out hb) hN2 hb0 hb2).mono rowx_rv))
        · exact fun _ _ _ he hd => ob_mv rfl rfl he.1
        · exact fun _ _ _ he hd => ob_mv rfl rfl he.2.1
        · exact fun aa ww hb he hd => ob_plain rfl (gives_call2 _ _ _ _ rfl (by kernel_rfl) (by rw [show aa.eval (.tmp 53) = .pointer (some ⟨p, 0, none⟩) from hd.1, show aa.eval (.tmp 54) = .int .i64 ((kk : Nat) : Int) from hd.2.1]; exact (ray_any bs p n m N b gg cr cb kk Atr Atb rs7 S5 _ (TabW.new HT.out hb) hkk hN2 hb0 hb2).mono rowx_rv))
        · exact fun aa ww hb he hd => ob_plain rfl (gives_call1 _ _ _ rfl (by kernel_rfl) (int_w (0) (by omega) (by omega) _ rfl _))
      intro vs w8 hb hR
      have r52 := hR 1 (by decide)
      have r55 := hR 4 (by decide)
      have r56 : Rv (2) (((0 : Int) : Rat)) (vs 5) w8 := hR 5 (by decide)
      clear hR
      simp only [putsL, Nat.zero_add, Nat.reduceAdd, List.take_succ_cons, List.take_zero, Act.put, List.setIfInBounds_toArray, List.set_cons_zero, List.set_cons_succ]
      obtain ⟨g1, e52, hX⟩ := (show ∃ g0 : Nat, vs 1 = .slice (some ⟨g0, 0, none⟩) n n ∧ RB w8 g0 n (PN w8 b (basX S5 (fun i => S5.T i (n + m + 1)) (fun _ => 0) n m)) from r52)
      obtain ⟨g2, e55, hY⟩ := (show ∃ g0 : Nat, vs 4 = .slice (some ⟨g0, 0, none⟩) n n ∧ RB w8 g0 n (PN w8 b (basX S5 (fun i => -(S5.T i kk)) (fun j => if j = kk then 1 else 0) n m)) from r55)
      have rV : Rv b 0 (vs 5) w8 := by
        have h := r56
        rw [show ((0 : Int) : Rat) = 0 from by simp] at h
        exact Rv.more h hb2
      obtain ⟨s, A0, k0, q0, B0, m0, d0, e56⟩ := rV.rw.agg
      rw [e52, e55, e56]
      rw [e56] at rV
      clear r52 r55 r56 e52 e55 e56
      show wpOps _ _ _ [6, 7, 8] _ _
      refine wpOps_next rfl rfl (wp_build4 rfl rfl rfl rfl rfl (built_unb 2 (some ⟨g1, 0, none⟩) (some ⟨g2, 0, none⟩) n n n n s A0 B0 k0 q0 m0 d0) 57 rfl ?_)
      simp only [Act.put, List.setIfInBounds_toArray, List.set_cons_zero, List.set_cons_succ]
      refine wpOps_next rfl rfl (store_sol rfl rfl rfl rfl (TS.out.keep hb) (by simp) (by simp [Value.oneCell']) (by simp) ?_)
      intro w9 kp hg hsz hS
      refine wpOps_next rfl rfl (wp_assign 3 (.const (.int .i64 0)) rfl rfl (.int .i64 0) rfl ?_)
      simp only [Act.put, List.setIfInBounds_toArray, List.set_cons_zero, List.set_cons_succ]
      show Exit.then _ _ _ _ _
      have hne1 : g1 ≠ gs := by obtain ⟨cs, hc, -⟩ := hX; exact Blk.ne_ hc (TS.out.keep hb) (by decide)
      have hne2 : g2 ≠ gs := by obtain ⟨cs, hc, -⟩ := hY; exact Blk.ne_ hc (TS.out.keep hb) (by decide)
      have HX := Lib.hid (hX.grown hg hne1 (Q := PN w9 b (basX S5 (fun i => S5.T i (n + m + 1)) (fun _ => 0) n m)) (fun j v _ hv => PN.keep hv kp))
      have HY := Lib.hid (hY.grown hg hne2 (Q := PN w9 b (basX S5 (fun i => -(S5.T i kk)) (fun j => if j = kk then 1 else 0) n m)) (fun j v _ hv => PN.keep hv kp))
      have HV := Lib.hid (rV.keepN kp)
      have HB9 := Lib.hid ((bthen HB.out hb HB.out.size).grown hg (bthen HB.out hb HB.out.size).size (fun x hx => by cases hx; exact HG.out))
      have HS := Lib.hid hS
      clear hX hY rV hb kp hg hsz hS hne1 hne2
      go_wp2_with fail
      refine bodyPost_ret (v := .tuple #[.agg #[.int .i64 2, .slice (some ⟨g1, 0, none⟩) n n, .slice none 0 0, .slice (some ⟨g2, 0, none⟩) n n, .bool s, .slice A0 k0 q0, .slice B0 m0 d0], .int .i64 0]) (results_cell_tmp Try.results13 _ _ _ _ _ (0, 0) _ rfl HS.out Try.underlying43 rfl rfl) rfl ?_
      exact ⟨_, rfl, ⟨_, resUnb n m S5 kk, rfl, ⟨S, true, HPh.out, .inr ⟨rfl, K, S5, ((kk : Nat) : Int), false, HRun.out, hend1, .inr ⟨rfl, rfl⟩⟩⟩, some ⟨g1, 0, none⟩, n, n, none, 0, 0, some ⟨g2, 0, none⟩, n, n, s, A0, k0, q0, B0, m0, d0, rfl, .inr (.inr ⟨rfl, rfl, rfl, rfl⟩), Rs.of_rb HX.out, Rs.nil _ _ _, Rs.of_rb HY.out, HV.out⟩, HB9.out⟩
    | true =>
      have hrtN : n + m + 1 < N := by have := HN.out; omega
      have hmm : m ≤ 1000 := by omega
      go_upto_region 12 with (fail)
      refine wp_region_join (kss := [[], [(0, 58)], [], [(2, 60)], [], [(4, 62)], [(5, 63)], [(6, 64)], [], [(8, 66)], [(7, 65), (9, 67)], [(10, 68)]]) [(4, .pointer (some ⟨p, 0, none⟩))] [EV (.pointer (some ⟨p, 0, none⟩)), fun v w' => ∃ g0 : Nat, v = .slice (some ⟨g0, 0, none⟩) n n ∧ RB w' g0 n (PN w' b (basX S5 (fun i => S5.T i (n + m + 1)) (fun _ => 0) n m)), EV (.pointer (some ⟨p, 0, none⟩)), fun v w' => ∃ g0 : Nat, v = .slice (some ⟨g0, 0, none⟩) m m ∧ RB w' g0 m (PN w' b (fun j => S5.G (n + j))), EV (.pointer (some ⟨p, 0, none⟩)), EV (.pointer (some ⟨p, 0, none⟩)), EV (.pointer (some ⟨p, 3, none⟩)), EV (.slice (some (⟨gg, 0, none⟩)) N N), EV (.pointer (some ⟨p, 0, none⟩)), EV (.int .i64 (((n + m + 1 : Nat) : Int))), EV (.pointer (some (Addr.add (⟨gg, 0, none⟩) ((n + m + 1) * 3)))), Rv (b) ((S5.G) (n + m + 1))] 12 [] (by kernel_rfl) (by kernel_rfl) ⟨rfl, trivial⟩ [false, false, false, false, false, false, false, false, false, false, false, false] ?_ ?_ ?_ ?_
      · exact fun i hi => absurd hi (by simp)
      · exact ⟨eI, fun _ _ _ ⟨g0, h1, h2⟩ hb => ⟨g0, h1, h2.newN hb⟩, eI, fun _ _ _ ⟨g0, h1, h2⟩ hb => ⟨g0, h1, h2.newN hb⟩, eI, eI, eI, eI, eI, eI, eI, fun _ _ _ h hb => h.new hb, trivial⟩
      · refine ⟨?_, ?_, ?_, ?_, ?_, ?_, ?_, ?_, ?_, ?_, ?_, ?_, trivial⟩
        · exact fun _ _ _ he hd => ob_mv rfl rfl he.1
        · exact fun aa ww hb he hd => ob_plain rfl (gives_call1 _ _ _ rfl (by kernel_rfl) (by rw [show aa.eval (.tmp 58) = .pointer (some ⟨p, 0, none⟩) from hd.1]; exact (point_any bs p n m N b gg cr cb Atr Atb rs7 S5 _ (TabW.new HT.out hb) hN2 hb0 hb2).mono rowx_rv))
        · exact fun _ _ _ he hd => ob_mv rfl rfl he.1
        · exact fun aa ww hb he hd => ob_plain rfl (gives_call1 _ _ _ rfl (by kernel_rfl) (by rw [show aa.eval (.tmp 60) = .pointer (some ⟨p, 0, none⟩) from hd.1]; exact (dual_any bs p n m N b gg cr cb Atr Atb rs7 S5 _ (TabW.new HT.out hb) hN2 hb0 hb2).mono rowx_rv))
        · exact fun _ _ _ he hd => ob_mv rfl rfl he.1
        · exact fun aa ww hb he hd => ob_plain rfl (nil_c rfl hd.1)
        · exact fun aa ww hb he hd => ob_plain rfl (fld_tab rfl (by decide) hd.1)
        · exact fun aa ww hb he hd => ob_plain rfl (load_c28 rfl hd.1 (TabW.new HT.out hb).c3)
        · exact fun _ _ _ he hd => ob_mv rfl rfl he.1
        · exact fun aa ww hb he hd => ob_plain rfl (gives_call1 _ _ _ rfl (by kernel_rfl) (by rw [show aa.eval (.tmp 66) = .pointer (some ⟨p, 0, none⟩) from hd.1]; exact rv_one (right_any (TabW.new HT.out hb).blk (by omega) (by omega))))
        · exact fun aa ww hb he hd => ob_plain rfl (idx_rs (by omega) rfl hd.1 hd.2.1)
        · exact fun aa ww hb he hd => ob_plain rfl (load_rn rfl hd.1 (Rs.of_rb (TabW.new HT.out hb).goal) (by omega))
      intro vs w8 hb hR _
      have r59 := hR 1 (by decide)
      have r61 := hR 3 (by decide)
      have r69 : Rv (b) ((S5.G) (n + m + 1)) (vs 11) w8 := hR 11 (by decide)
      clear hR
      simp only [putsL, Nat.zero_add, Nat.reduceAdd, List.take_succ_cons, List.take_zero, Act.put, List.setIfInBounds_toArray, List.set_cons_zero, List.set_cons_succ]
      obtain ⟨g1, e59, hX⟩ := (show ∃ g0 : Nat, vs 1 = .slice (some ⟨g0, 0, none⟩) n n ∧ RB w8 g0 n (PN w8 b (basX S5 (fun i => S5.T i (n + m + 1)) (fun _ => 0) n m)) from r59)
      obtain ⟨g2, e61, hY⟩ := (show ∃ g0 : Nat, vs 3 = .slice (some ⟨g0, 0, none⟩) m m ∧ RB w8 g0 m (PN w8 b (fun j => S5.G (n + j))) from r61)
      have rV : Rv b (S5.G (n + m + 1)) (vs 11) w8 := r69
      obtain ⟨s, A0, k0, q0, B0, m0, d0, e69⟩ := rV.rw.agg
      rw [e59, e61, e69]
      rw [e69] at rV
      clear r59 r61 r69 e59 e61 e69
      show wpAny _ _ _ _ 3 _ _ _
      refine wpAny_next (i := 12) (by kernel_rfl) rfl rfl (wp_build4 rfl rfl rfl rfl rfl (built_opt 0 (some ⟨g1, 0, none⟩) (some ⟨g2, 0, none⟩) n n m m s A0 B0 k0 q0 m0 d0) 70 rfl ?_)
      simp only [Act.put, List.setIfInBounds_toArray, List.set_cons_zero, List.set_cons_succ]
      refine wpAny_next (i := 13) (by kernel_rfl) rfl rfl (store_sol rfl rfl rfl rfl (TS.out.keep hb) (by simp) (by simp [Value.oneCell']) (by simp) ?_)
      intro w9 kp hg hsz hS
      refine wpAny_next (i := 14) (by kernel_rfl) rfl rfl (wp_assign 3 (.const (.int .i64 0)) rfl rfl (.int .i64 0) rfl ?_)
      simp only [Act.put, List.setIfInBounds_toArray, List.set_cons_zero, List.set_cons_succ]
      refine wpAny_end (by kernel_rfl) (calm_normal ?_) _
      have hne1 : g1 ≠ gs := by obtain ⟨cs, hc, -⟩ := hX; exact Blk.ne_ hc (TS.out.keep hb) (by decide)
      have hne2 : g2 ≠ gs := by obtain ⟨cs, hc, -⟩ := hY; exact Blk.ne_ hc (TS.out.keep hb) (by decide)
      have HX := Lib.hid (hX.grown hg hne1 (Q := PN w9 b (basX S5 (fun i => S5.T i (n + m + 1)) (fun _ => 0) n m)) (fun j v _ hv => PN.keep hv kp))
      have HY := Lib.hid (hY.grown hg hne2 (Q := PN w9 b (fun j => S5.G (n + j))) (fun j v _ hv => PN.keep hv kp))
      have HV := Lib.hid (rV.keepN kp)
      have HB9 := Lib.hid ((bthen HB.out hb HB.out.size).grown hg (bthen HB.out hb HB.out.size).size (fun x hx => by cases hx; exact HG.out))
      have HS := Lib.hid hS
      clear hX hY rV hb kp hg hsz hS hne1 hne2
      go_wp2_with fail
      refine bodyPost_ret (v := .tuple #[.agg #[.int .i64 0, .slice (some ⟨g1, 0, none⟩) n n, .slice (some ⟨g2, 0, none⟩) m m, .slice none 0 0, .bool s, .slice A0 k0 q0, .slice B0 m0 d0], .int .i64 0]) (results_cell_tmp Try.results13 _ _ _ _ _ (0, 0) _ rfl HS.out Try.underlying43 rfl rfl) rfl ?_
      exact ⟨_, rfl, ⟨_, resOpt n m S5, rfl, ⟨S, true, HPh.out, .inr ⟨rfl, K, S5, z, true, HRun.out, HEnd.out, .inl ⟨rfl, rfl⟩⟩⟩, some ⟨g1, 0, none⟩, n, n, some ⟨g2, 0, none⟩, m, m, none, 0, 0, s, A0, k0, q0, B0, m0, d0, rfl, .inl ⟨rfl, rfl, rfl, rfl⟩, Rs.of_rb HX.out, Rs.of_rb HY.out, Rs.nil _ _ _, HV.out⟩, HB9.out⟩
end Go.Proofs.Ytamcibmjpmibdaa
namespace Go.Proofs.Ytamcibmjpmibdaa
open Go.RowKit
set_option linter.unusedSimpArgs false

theorem text_v {b : Nat} {x : Rat} {v : Value} {w : World} (h : Rw b x v w) (hb : b ≤ 4900) : Calls Try.prog 29 #[v] w (RV w (fun u _ => u = .string (txt x))) := by
  obtain ⟨s, A, n, c, B, m, d, rfl, h⟩ := h
  exact rv_one (qtext_any h (by omega))
theorem eq_str {o : Oper} {a : Act} {w : World} {x y : Operand} {t t2 : TypeId} {S : ByteArray} (ho : o.op = .binOp .eql t x y t2) (hx : a.eval x = .string S) (hy : a.eval y = .string S) : gives Try.prog o a.eval w (fun u w' => u = .bool true ∧ Below w.heap.size w w') := by
  refine gives_val (.bool true) ?_ ⟨rfl, Below.refl _ _⟩
  have e : (S.toList == S.toList) = true := by simp
  unfold execOp
  rw [ho]
  simp only [hx, hy]
  go_simp
end Go.Proofs.Ytamcibmjpmibdaa
namespace Go.Proofs.Ytamcibmjpmibdaa
open Go.RowKit
set_option linter.unusedVariables false
set_option linter.unusedSimpArgs false

set_option maxRecDepth 100000 in
set_option maxHeartbeats 8000000 in
theorem awake1_any (z : Int) (h0 : 0 ≤ z) (h1 : z ≤ 9) (w : World) : Calls Try.prog 31 #[.int .i64 z] w (fun e w' => e = .returned (.agg #[.int .i8 z, .int .u8 0]) ∧ Below w.heap.size w w') := by
  have hw : IntKind.i8.wrap z = z := IntWalk.i8_in _ (by omega)
  go_enter Try.func31, Try.ntmps31
  go_upto_region 1 with (fail)
  have T := Lib.hid (Blk.new w 52 #[.int .i8 0, .int .u8 0])
  have HB := Lib.hid (al w (.cells #[.int .i8 0, .int .u8 0] 52))
  generalize w.alloc (.cells #[.int .i8 0, .int .u8 0] 52) = w1 at *
  have c0 : w1.cell? ⟨w.heap.size, 0, none⟩ = some (.int .i8 0) := by rw [T.out.cell]; rfl
  have c1 : w1.cell? ⟨w.heap.size, 1, none⟩ = some (.int .u8 0) := by rw [T.out.cell]; rfl
  have f0 := T.out.frozen 0; have f1 := T.out.frozen 1
  have pl := T.out.lt
  go_wp2_with fail
  refine bodyPost_ret (v := .agg #[.int .i8 z, .int .u8 0]) (results_cell_row Try.results31 _ _ _ _ _ (0, 0) _ rfl ((T.out.set_ 0 _).set_ 1 _) Try.underlying52 rfl rfl) rfl ⟨rfl, ?_⟩
  exact (HB.out.setCell (p := ⟨w.heap.size, 0, none⟩) (Nat.le_refl _) _).setCell (p := ⟨w.heap.size, 1, none⟩) (Nat.le_refl _) _
theorem ex_txt : txt (14 / 5) = ⟨#[49, 52, 47, 53]⟩ := by
  have hq : (14 / 5 : Rat) = qv false 14 5 := by
    have := qv_frac 14 5 (by omega)
    simpa using this.symm
  have h1 : (14 / 5 : Rat).num = 14 := by rw [hq, qv_num (by omega)]; rfl
  have h2 : (14 / 5 : Rat).den = 5 := by rw [hq, qv_den (by omega)]; rfl
  have d14 : decT 14 = ⟨#[49, 52]⟩ := by
    rw [decT, dg, dif_neg (by omega), show 14 / 10 = 1 by omega, dg_small (n := 1) (by omega) (by omega)]; rfl
  have d5 : decT 5 = ⟨#[53]⟩ := by rw [decT, dg_small (by omega) (by omega)]; rfl
  unfold txt
  rw [h1, h2, if_neg (by omega), show (14 : Int).natAbs = 14 from rfl, d14, d5]
  rfl
theorem smq_small (x : Int) (y : Nat) : Sm (smq x y) := by
  have hk : (x.tmod 10).natAbs = x.natAbs % 10 := Int.natAbs_tmod x 10
  have h := sm_frac (x.tmod 10) ((1 + y % 4 : Nat) : Int) (by omega) (by omega)
  rw [show den1 ((1 + y % 4 : Nat) : Int) = ((1 + y % 4 : Nat) : Int) from if_neg (by omega)] at h
  exact h
theorem smq_int (z : Int) (h0 : 0 ≤ z) (h1 : z ≤ 9) : smq z 0 = (z : Rat) := by
  unfold smq
  rw [show z.tmod 10 = z from by rw [Int.tmod_eq_emod_of_nonneg h0]; omega]
  simp
  grind
theorem Reads.of_blk {w : World} {g n size : Nat} {t : TypeId} {cs : Array Value} (h : Blk w g t cs) (hl : cs.size = n * size) : Reads w w.heap.size size (some ⟨g, 0, none⟩) n cs.toList :=
  ⟨by simpa using hl, fun _ => ⟨_, rfl, h.lt, fun j u hu => by rw [addr_zero, h.cell]; simpa using hu⟩⟩
def exNA (i j : Nat) : Int := if i = 0 then (if j = 0 then 1 else 2) else (if j = 0 then 3 else 1)
def exNB (i : Nat) : Int := if i = 0 then 4 else 6
theorem exA_eq : (fun i j => smq (exNA i j) 0) = exA := by
  funext i j
  unfold exNA exA
  by_cases hi : i = 0 <;> by_cases hj : j = 0 <;> simp only [hi, hj, if_pos, if_false, if_true] <;> rw [smq_int _ (by omega) (by omega)] <;> simp
theorem exB_eq : (fun i => smq (exNB i) 0) = exB := by
  funext i
  unfold exNB exB
  by_cases hi : i = 0 <;> simp only [hi, if_pos, if_false, if_true] <;> rw [smq_int _ (by omega) (by omega)] <;> simp
theorem exC_eq : (fun _ : Nat => smq 1 0) = fun _ => 1 := by
  funext i
  rw [smq_int _ (by omega) (by omega)]; simp
theorem exFrac : FracP 2 2 1 4 exA exB (fun _ => 1) := by
  have hf : ∀ z : Int, 0 ≤ z → z ≤ 9 → Frac 1 (2 ^ 4) (z : Rat) := fun z h0 h1 => ⟨z, by omega, by simp⟩
  refine ⟨by omega, by omega, fun i _ j _ => ?_, fun i _ => ?_, fun j _ => by simpa using hf 1 (by omega) (by omega)⟩
  · unfold exA
    by_cases hi : i = 0 <;> by_cases hj : j = 0 <;> simp only [hi, hj, if_pos, if_false, if_true]
    · simpa using hf 1 (by omega) (by omega)
    · simpa using hf 2 (by omega) (by omega)
    · simpa using hf 3 (by omega) (by omega)
    · simpa using hf 1 (by omega) (by omega)
  · unfold exB
    by_cases hi : i = 0 <;> simp only [hi, if_pos, if_false, if_true]
    · simpa using hf 4 (by omega) (by omega)
    · simpa using hf 6 (by omega) (by omega)
set_option maxRecDepth 100000 in
set_option maxHeartbeats 8000000 in
theorem awake_any (w : World) : Calls Try.prog 11 #[] w (fun e w' => e = .returned (.bool true) ∧ Below w.heap.size w w') := by
  go_enter Try.func11, Try.ntmps11
  go_upto_region 2 with (fail)
  have HB := Lib.hid (Below.refl w.heap.size w)
  go_wp2_with fail
  refine (awake1_any 1 (by omega) (by omega) _).mono ?_
  rintro e v1 ⟨rfl, hb⟩
  replace HB := Lib.hid (bthen HB.out hb HB.out.size)
  clear hb
  go_wp2_with fail
  refine (awake1_any 1 (by omega) (by omega) _).mono ?_
  rintro e v2 ⟨rfl, hb⟩
  replace HB := Lib.hid (bthen HB.out hb HB.out.size)
  clear hb
  go_wp2_with fail
  obtain ⟨gc, hgc⟩ : ∃ gc, gc = v2.heap.size := ⟨_, rfl⟩
  have HKc := Lib.hid (Blk.new v2 52 #[.int .i8 1, .int .u8 0, .int .i8 1, .int .u8 0])
  rw [← hgc] at HKc ⊢
  replace HB := Lib.hid (bthen HB.out (al v2 (.cells #[.int .i8 1, .int .u8 0, .int .i8 1, .int .u8 0] 52)) HB.out.size)
  generalize v2.alloc (.cells #[.int .i8 1, .int .u8 0, .int .i8 1, .int .u8 0] 52) = v3 at *
  clear hgc
  refine (awake1_any 1 (by omega) (by omega) _).mono ?_
  rintro e v4 ⟨rfl, hb⟩
  replace HKc := Lib.hid (HKc.out.keep hb)
  replace HB := Lib.hid (bthen HB.out hb HB.out.size)
  clear hb
  go_wp2_with fail
  refine (awake1_any 2 (by omega) (by omega) _).mono ?_
  rintro e v5 ⟨rfl, hb⟩
  replace HKc := Lib.hid (HKc.out.keep hb)
  replace HB := Lib.hid (bthen HB.out hb HB.out.size)
  clear hb
  go_wp2_with fail
  obtain ⟨gr, hgr⟩ : ∃ gr, gr = v5.heap.size := ⟨_, rfl⟩
  have HKr := Lib.hid (Blk.new v5 52 #[.int .i8 1, .int .u8 0, .int .i8 2, .int .u8 0])
  rw [← hgr] at HKr ⊢
  replace HKc := Lib.hid (HKc.out.keep (al v5 (.cells #[.int .i8 1, .int .u8 0, .int .i8 2, .int .u8 0] 52)))
  replace HB := Lib.hid (bthen HB.out (al v5 (.cells #[.int .i8 1, .int .u8 0, .int .i8 2, .int .u8 0] 52)) HB.out.size)
  generalize v5.alloc (.cells #[.int .i8 1, .int .u8 0, .int .i8 2, .int .u8 0] 52) = v6 at *
  clear hgr
  refine (awake1_any 3 (by omega) (by omega) _).mono ?_
  rintro e v7 ⟨rfl, hb⟩
  replace HKc := Lib.hid (HKc.out.keep hb)
  replace HKr := Lib.hid (HKr.out.keep hb)
  replace HB := Lib.hid (bthen HB.out hb HB.out.size)
  clear hb
  go_wp2_with fail
  refine (awake1_any 1 (by omega) (by omega) _).mono ?_
  rintro e v8 ⟨rfl, hb⟩
  replace HKc := Lib.hid (HKc.out.keep hb)
  replace HKr := Lib.hid (HKr.out.keep hb)
  replace HB := Lib.hid (bthen HB.out hb HB.out.size)
  clear hb
  go_wp2_with fail
  obtain ⟨gs, hgs⟩ : ∃ gs, gs = v8.heap.size := ⟨_, rfl⟩
  have HKs := Lib.hid (Blk.new v8 52 #[.int .i8 3, .int .u8 0, .int .i8 1, .int .u8 0])
  rw [← hgs] at HKs ⊢
  replace HKc := Lib.hid (HKc.out.keep (al v8 (.cells #[.int .i8 3, .int .u8 0, .int .i8 1, .int .u8 0] 52)))
  replace HKr := Lib.hid (HKr.out.keep (al v8 (.cells #[.int .i8 3, .int .u8 0, .int .i8 1, .int .u8 0] 52)))
  replace HB := Lib.hid (bthen HB.out (al v8 (.cells #[.int .i8 3, .int .u8 0, .int .i8 1, .int .u8 0] 52)) HB.out.size)
  have hz : (v8.alloc (.cells #[.int .i8 3, .int .u8 0, .int .i8 1, .int .u8 0] 52)).heap.size = gs + 1 := by rw [hgs]; simp
  generalize v8.alloc (.cells #[.int .i8 3, .int .u8 0, .int .i8 1, .int .u8 0] 52) = v9 at *
  clear hgs
  obtain ⟨ga, hga⟩ : ∃ ga, ga = v9.heap.size := ⟨_, rfl⟩
  have HKa := Lib.hid (Blk.new v9 22 #[.slice (some ⟨gr, 0, none⟩) 2 2, .slice (some ⟨gs, 0, none⟩) 2 2])
  rw [← hga] at HKa; rw [hz] at hga; rw [← hga]; clear hz
  replace HKc := Lib.hid (HKc.out.keep (al v9 (.cells #[.slice (some ⟨gr, 0, none⟩) 2 2, .slice (some ⟨gs, 0, none⟩) 2 2] 22)))
  replace HKr := Lib.hid (HKr.out.keep (al v9 (.cells #[.slice (some ⟨gr, 0, none⟩) 2 2, .slice (some ⟨gs, 0, none⟩) 2 2] 22)))
  replace HKs := Lib.hid (HKs.out.keep (al v9 (.cells #[.slice (some ⟨gr, 0, none⟩) 2 2, .slice (some ⟨gs, 0, none⟩) 2 2] 22)))
  replace HB := Lib.hid (bthen HB.out (al v9 (.cells #[.slice (some ⟨gr, 0, none⟩) 2 2, .slice (some ⟨gs, 0, none⟩) 2 2] 22)) HB.out.size)
  generalize v9.alloc (.cells #[.slice (some ⟨gr, 0, none⟩) 2 2, .slice (some ⟨gs, 0, none⟩) 2 2] 22) = v10 at *
  clear hga
  refine (awake1_any 4 (by omega) (by omega) _).mono ?_
  rintro e v11 ⟨rfl, hb⟩
  replace HKc := Lib.hid (HKc.out.keep hb)
  replace HKr := Lib.hid (HKr.out.keep hb)
  replace HKs := Lib.hid (HKs.out.keep hb)
  replace HKa := Lib.hid (HKa.out.keep hb)
  replace HB := Lib.hid (bthen HB.out hb HB.out.size)
  clear hb
  go_wp2_with fail
  refine (awake1_any 6 (by omega) (by omega) _).mono ?_
  rintro e v12 ⟨rfl, hb⟩
  replace HKc := Lib.hid (HKc.out.keep hb)
  replace HKr := Lib.hid (HKr.out.keep hb)
  replace HKs := Lib.hid (HKs.out.keep hb)
  replace HKa := Lib.hid (HKa.out.keep hb)
  replace HB := Lib.hid (bthen HB.out hb HB.out.size)
  clear hb
  go_wp2_with fail
  obtain ⟨gb, hgb⟩ : ∃ gb, gb = v12.heap.size := ⟨_, rfl⟩
  have HKb := Lib.hid (Blk.new v12 52 #[.int .i8 4, .int .u8 0, .int .i8 6, .int .u8 0])
  rw [← hgb] at HKb ⊢
  replace HKc := Lib.hid (HKc.out.keep (al v12 (.cells #[.int .i8 4, .int .u8 0, .int .i8 6, .int .u8 0] 52)))
  replace HKr := Lib.hid (HKr.out.keep (al v12 (.cells #[.int .i8 4, .int .u8 0, .int .i8 6, .int .u8 0] 52)))
  replace HKs := Lib.hid (HKs.out.keep (al v12 (.cells #[.int .i8 4, .int .u8 0, .int .i8 6, .int .u8 0] 52)))
  replace HKa := Lib.hid (HKa.out.keep (al v12 (.cells #[.int .i8 4, .int .u8 0, .int .i8 6, .int .u8 0] 52)))
  replace HB := Lib.hid (bthen HB.out (al v12 (.cells #[.int .i8 4, .int .u8 0, .int .i8 6, .int .u8 0] 52)) HB.out.size)
  generalize v12.alloc (.cells #[.int .i8 4, .int .u8 0, .int .i8 6, .int .u8 0] 52) = v13 at *
  clear hgb
  have hPg : PgW v13 2 2 2 (some ⟨gc, 0, none⟩) (some ⟨ga, 0, none⟩) (some ⟨gb, 0, none⟩) (fun i => if i = 0 then some ⟨gr, 0, none⟩ else some ⟨gs, 0, none⟩) (fun _ => 2) (fun _ => 2) (fun _ => 1) exNB (fun _ => 0) (fun _ => 0) exNA (fun _ _ => 0) := by
    refine ⟨Reads.of_blk (n := 2) HKc.out rfl, Reads.of_blk (n := 2) HKa.out rfl, fun i hi => ?_, Reads.of_blk (n := 2) HKb.out rfl, fun i _ => by omega, fun i _ j _ => ?_, fun i _ => ?_⟩
    · have : i = 0 ∨ i = 1 := by omega
      rcases this with rfl | rfl
      · exact Reads.of_blk (n := 2) HKr.out rfl
      · exact Reads.of_blk (n := 2) HKs.out rfl
    · unfold exNA; split <;> split <;> omega
    · unfold exNB; split <;> omega
  refine (of_any 2 2 2 2 2 2 _ _ _ _ (fun _ => 2) _ _ _ _ _ _ _ v13 hPg (by omega) (by omega) (by omega) (fun _ _ => by omega) exA (fun _ => 1) exB exC_eq.symm exB_eq.symm exA_eq.symm smq_small).mono ?_
  rintro e v14 ⟨YC, YA, YB, QC, QA, QB, Yr, Qr, yp, qp, yc, ya, yb, qc, qa, qb, rfl, hpr, -, hb⟩
  have HP := Lib.hid hpr
  replace HB := Lib.hid (bthen HB.out hb HB.out.size)
  clear hpr hb hPg HKa HKb HKc HKr HKs
  go_upto_region 3 with (fail)
  have HQ := Lib.hid ((Blk.new v14 31 #[.slice YC 2 yc, .slice YA 2 ya, .slice YB 2 yb]).keep (al _ (.cells #[.slice QC 2 qc, .slice QA 2 qa, .slice QB 2 qb] 35)))
  have hbw := bthen (al v14 (.cells #[.slice YC 2 yc, .slice YA 2 ya, .slice YB 2 yb] 31)) (al _ (.cells #[.slice QC 2 qc, .slice QA 2 qa, .slice QB 2 qb] 35)) (by simp)
  replace HP := Lib.hid (HP.out.new hbw)
  replace HB := Lib.hid (bthen HB.out hbw HB.out.size)
  clear hbw
  generalize (v14.alloc (.cells #[.slice YC 2 yc, .slice YA 2 ya, .slice YB 2 yb] 31)).alloc (.cells #[.slice QC 2 qc, .slice QA 2 qa, .slice QB 2 qb] 35) = v15 at *
  obtain ⟨g2, hg2⟩ : ∃ g2, g2 = v14.heap.size := ⟨_, rfl⟩
  rw [← hg2] at HQ ⊢
  clear hg2
  have c0 := HQ.out.at0 (Below.refl _ _); have c1 := HQ.out.at1 (Below.refl _ _); have c2 := HQ.out.at2 (Below.refl _ _)
  go_wp2_with fail
  refine (Solve_ok 2 2 6 2 yc ya yb YC YA YB Yr (fun _ => 2) yp exA (fun _ => 1) exB 1 4 v15 HP.out (fun _ _ => rfl) (by omega) (by omega) (by omega) (by omega) (by omega) exFrac (by decide)).mono ?_
  rintro e v16 ⟨v, rfl, ⟨u, q, rfl, hs, hsv⟩, hb⟩
  obtain ⟨AX, kX, cX, AY, kY, cY, AR, kR, cR, s, A0, k0, c0', B0, m0, d0, rfl, hln, hX, hY, hR, hV⟩ := hsv
  have hex := example_opt hs.cert
  have hce := hs.cert
  rw [hex.1] at hce
  obtain ⟨z1, z2, z3, z4⟩ := hce.of0
  have hlen : kX = 2 ∧ kY = 2 ∧ kR = 0 := by
    rcases hln with ⟨_, h⟩ | ⟨h, _⟩ | ⟨h, _⟩
    · exact h
    · rw [hex.1] at h; cases h
    · rw [hex.1] at h; cases h
  have HC := Lib.hid (show ChkV 2 2 2 (fun _ => 2) exA exB (fun _ => 1) (q.out : Int) kX kY kR q.X q.Y q.Ray q.v from
    ⟨rfl, fun _ _ => rfl, .inl ⟨by rw [hex.1]; rfl, ⟨hlen.1, z1⟩, ⟨hlen.2.1, z2⟩, hlen.2.2, z3, z4⟩⟩)
  have HO := Lib.hid hex.1
  have HV14 := Lib.hid hex.2
  have HX := Lib.hid hX.toW; have HY := Lib.hid hY.toW; have HR := Lib.hid hR.toW; have HV := Lib.hid hV.rw
  replace HQ := Lib.hid (HQ.out.keep hb)
  replace HP := Lib.hid (HP.out.new hb)
  replace HB := Lib.hid (bthen HB.out hb HB.out.size)
  clear hs hln hX hY hR hV hex hce z1 z2 z3 z4 hlen hb c0 c1 c2
  go_upto_region 4 with (fail)
  have HS := Lib.hid (Blk.new v16 43 #[.int .i64 (q.out : Int), .slice AX kX cX, .slice AY kY cY, .slice AR kR cR, .bool s, .slice A0 k0 c0', .slice B0 m0 d0])
  have hbw := al v16 (.cells #[.int .i64 (q.out : Int), .slice AX kX cX, .slice AY kY cY, .slice AR kR cR, .bool s, .slice A0 k0 c0', .slice B0 m0 d0] 43)
  replace HX := Lib.hid (Rs.newW HX.out hbw); replace HY := Lib.hid (Rs.newW HY.out hbw); replace HR := Lib.hid (Rs.newW HR.out hbw); replace HV := Lib.hid (Rw.new HV.out hbw)
  replace HQ := Lib.hid (HQ.out.keep hbw)
  replace HP := Lib.hid (HP.out.new hbw)
  replace HB := Lib.hid (bthen HB.out hbw HB.out.size)
  clear hbw
  generalize v16.alloc (.cells #[.int .i64 (q.out : Int), .slice AX kX cX, .slice AY kY cY, .slice AR kR cR, .bool s, .slice A0 k0 c0', .slice B0 m0 d0] 43) = v17 at *
  obtain ⟨g4, hg4⟩ : ∃ g4, g4 = v16.heap.size := ⟨_, rfl⟩
  rw [← hg4] at HS ⊢
  clear hg4
  refine wp_region_seq (kss := [[], [(0, 37)], [(1, 38)], [(2, 39)], [(2, 39), (3, 40)], [(2, 39), (4, 41)], [(2, 39), (5, 42)], [(6, 43)], [(7, 44)], [(7, 44), (8, 45)], [(7, 44), (9, 46)], [(7, 44), (10, 47)], [(7, 44), (11, 48)], [(12, 49)], [(13, 50)], [(13, 50)], [(13, 50), (14, 51), (15, 52)], [(13, 50), (16, 53)], [(17, 54)]]) [(5, .int .i64 0), (4, .pointer (some ⟨g4, 0, none⟩)), (2, .pointer (some ⟨g2, 0, none⟩))] [EV (.int .i64 0), EV (.bool true), EV (.bool true), EV (.pointer (some ⟨g4, 0, none⟩)), EV (.int .i64 ((q.out : Int))), EV (.bool true), EV (.bool true), EV (.bool true), EV (.pointer (some ⟨g4, 4, none⟩)), Rw (2) (q.v), EV (.string (txt (q.v))), EV (.bool true), EV (.bool true), EV (.bool true), EV (.agg #[.slice YC 2 yc, .slice YA 2 ya, .slice YB 2 yb]), EV (.agg #[.int .i64 (q.out : Int), .slice AX kX cX, .slice AY kY cY, .slice AR kR cR, .bool s, .slice A0 k0 c0', .slice B0 m0 d0]), EV (.bool true), EV (.bool true), EV (.bool true)] (by kernel_rfl) ⟨rfl, rfl, rfl, trivial⟩ ?_ ?_ ?_
  · exact ⟨eI, eI, eI, eI, eI, eI, eI, eI, eI, fun _ _ _ h hb => h.new hb, eI, eI, eI, eI, eI, eI, eI, eI, eI, trivial⟩
  · refine ⟨?_, ?_, ?_, ?_, ?_, ?_, ?_, ?_, ?_, ?_, ?_, ?_, ?_, ?_, ?_, ?_, ?_, ?_, ?_, trivial⟩
    · exact fun _ _ _ he hd => ob_mv rfl rfl he.1
    · exact fun aa ww hb he hd => ob_plain rfl (gives_eq_int 0 0 .i64 _ _ _ _ rfl hd.1 rfl ⟨congrArg Value.bool (by decide), Below.refl _ _⟩)
    · exact fun _ _ _ he hd => ob_mv rfl rfl hd.1
    · exact fun aa ww hb he hd => ob_on 39 rfl (by kernel_rfl) hd.1 (fld_sol rfl (by decide) he.2.1)
    · exact fun aa ww hb he hd => ob_on 39 rfl (by kernel_rfl) hd.1 (load_c3 rfl hd.2.1 (Blk.at0 HS.out hb))
    · exact fun aa ww hb he hd => ob_on 39 rfl (by kernel_rfl) hd.1 (gives_eq_int ((q.out : Int)) 0 .i64 _ _ _ _ rfl hd.2.1 rfl ⟨congrArg Value.bool (by rw [HO.out]; rfl), Below.refl _ _⟩)
    · exact fun aa ww hb he hd => ob_plain rfl (gives_pick true _ _ _ rfl hd.1 ⟨hd.2.1, Below.refl _ _⟩)
    · exact fun _ _ _ he hd => ob_mv rfl rfl hd.1
    · exact fun aa ww hb he hd => ob_on 44 rfl (by kernel_rfl) hd.1 (fld_sol rfl (by decide) he.2.1)
    · exact fun aa ww hb he hd => ob_on 44 rfl (by kernel_rfl) hd.1 (load_sv rfl hd.2.1 (Blk.keep HS.out hb) (Rw.new HV.out hb))
    · exact fun aa ww hb he hd => ob_on 44 rfl (by kernel_rfl) hd.1 (gives_call1 _ _ _ rfl (by kernel_rfl) (text_v (hd.2.1) (by omega)))
    · exact fun aa ww hb he hd => ob_on 44 rfl (by kernel_rfl) hd.1 (eq_str (S := txt (q.v)) rfl hd.2.1 (by rw [HV14.out, ex_txt]; rfl))
    · exact fun aa ww hb he hd => ob_plain rfl (gives_pick true _ _ _ rfl hd.1 ⟨hd.2.1, Below.refl _ _⟩)
    · exact fun _ _ _ he hd => ob_mv rfl rfl hd.1
    · exact fun aa ww hb he hd => ob_on 50 rfl (by kernel_rfl) hd.1 (load_prb rfl he.2.2.1 (Blk.keep HQ.out hb))
    · exact fun aa ww hb he hd => ob_on 50 rfl (by kernel_rfl) hd.1 (load_sol rfl he.2.1 (Blk.keep HS.out hb))
    · exact fun aa ww hb he hd => ob_on 50 rfl (by kernel_rfl) hd.1 (gives_call2 _ _ _ _ rfl (by kernel_rfl) (by rw [show aa.eval (.tmp 51) = .agg #[.slice YC 2 yc, .slice YA 2 ya, .slice YB 2 yb] from hd.2.1, show aa.eval (.tmp 52) = .agg #[.int .i64 (q.out : Int), .slice AX kX cX, .slice AY kY cY, .slice AR kR cR, .bool s, .slice A0 k0 c0', .slice B0 m0 d0] from hd.2.2.1]; exact ret_t (Check_any 2 2 2 kX kY kR yc ya yb cX cY cR 2 2 2 2 2 YC YA YB AX AY AR Yr (fun _ => 2) yp _ _ _ q.X q.Y q.Ray _ q.v s A0 B0 k0 c0' m0 d0 _ (PrW.new HP.out hb) (Rs.newW HX.out hb) (Rs.newW HY.out hb) (Rs.newW HR.out hb) (Rw.new HV.out hb) (by omega) (by omega) (by omega) (by omega) (by omega) (by omega) (by omega) (by omega) (by omega) (by omega) (by omega)) (t_iff HC.out)))
    · exact fun aa ww hb he hd => ob_plain rfl (gives_pick true _ _ _ rfl hd.1 ⟨hd.2.1, Below.refl _ _⟩)
    · exact fun aa ww hb he hd => ob_plain rfl (gives_assign _ rfl ⟨hd.1, Below.refl _ _⟩)
  intro vs w9 hb hR
  have e0 : vs 18 = .bool true := hR 18 (by decide)
  clear hR
  simp only [putsL, Nat.zero_add, Nat.reduceAdd, List.take_succ_cons, List.take_zero, Act.put, List.setIfInBounds_toArray, List.set_cons_zero, List.set_cons_succ]
  rw [e0]
  clear e0
  go_wp2_with fail
  go_ret
  exact ⟨rfl, bthen HB.out hb HB.out.size⟩
end Go.Proofs.Ytamcibmjpmibdaa
namespace Go.Proofs.Ytamcibmjpmibdaa
open Go.RowKit
set_option linter.unusedVariables false
set_option linter.unusedSimpArgs false

theorem RqW.at_ {w : World} {n m k : Nat} {QC QA QB : Option Addr} {Qr : Nat → Option Addr} {ln qp : Nat → Nat} {A : Nat → Nat → Rat} {C B : Nat → Rat} (h : RqW w n m k QC QA QB Qr ln qp A C B) {i : Nat} (hi : i < m) : ∃ ad, QA = some ad ∧ ad.block < w.heap.size ∧ w.cell? (ad.add i) = some (.slice (Qr i) (ln i) (qp i)) := by
  obtain ⟨ad, e, hb, hc⟩ := h.a.2 (by omega)
  exact ⟨ad, e, hb, hc i _ (by rw [List.getElem?_map, List.getElem?_range hi]; rfl)⟩
set_option maxRecDepth 100000 in
set_option maxHeartbeats 8000000 in
theorem rvalid_any (n m k qc qa qb : Nat) (QC QA QB : Option Addr) (Qr : Nat → Option Addr) (ln qp : Nat → Nat) (A : Nat → Nat → Rat) (C B : Nat → Rat) (w : World) (hP : RqW w n m k QC QA QB Qr ln qp A C B) (hm : m ≤ 1000000) :
    Calls Try.prog 14 #[.agg #[.slice QC n qc, .slice QA m qa, .slice QB k qb]] w (BRet (m = k ∧ ∀ i, i < m → ln i = n) w) := by
  have HP := Lib.hid hP; clear hP
  go_enter Try.func14, Try.ntmps14
  go_upto_region 1 with (fail)
  have T := Lib.hid (Blk.new w 35 #[.slice QC n qc, .slice QA m qa, .slice QB k qb])
  have HB := Lib.hid (al w (.cells #[.slice QC n qc, .slice QA m qa, .slice QB k qb] 35))
  generalize w.alloc (.cells #[.slice QC n qc, .slice QA m qa, .slice QB k qb] 35) = w1 at *
  have c0 : w1.cell? ⟨w.heap.size, 0, none⟩ = some (.slice QC n qc) := by rw [T.out.cell]; rfl
  have c1 : w1.cell? ⟨w.heap.size, 1, none⟩ = some (.slice QA m qa) := by rw [T.out.cell]; rfl
  have c2 : w1.cell? ⟨w.heap.size, 2, none⟩ = some (.slice QB k qb) := by rw [T.out.cell]; rfl
  by_cases hmk : m = k
  · subst hmk
    go_wp2_with fail
    go_loopg [3] m (fun q iv wr => ∃ i : Nat, iv = .int .i64 i ∧ i + q = m ∧ Hid ((∀ l, l < i → ln l = n) ∧ Blk wr w.heap.size 35 #[.slice QC n qc, .slice QA m qa, .slice QB m qb] ∧ Below w.heap.size w wr))
    case atStart => exact ⟨0, rfl, by omega, Lib.hid ⟨fun l hl => absurd hl (by omega), T.out, HB.out⟩⟩
    case round =>
      obtain ⟨i, rfl, him, HI⟩ := hrel
      clear T HB c0 c1 c2
      have HJ := Lib.hid HI.out.1
      have T := Lib.hid HI.out.2.1
      have HB := Lib.hid HI.out.2.2
      clear HI
      have c0 := T.out.at0 (Below.refl _ _); have c1 := T.out.at1 (Below.refl _ _); have c2 := T.out.at2 (Below.refl _ _)
      by_cases hi : i < m
      · have i1 : ((i : Int) < (m : Int)) := by omega
        have i0 : (0 : Int) ≤ (i : Int) := by omega
        obtain ⟨ad, rfl, had, hr⟩ := (HP.out.new HB.out).at_ hi
        clear had
        by_cases hl : ln i = n
        · have h1 : ((ln i : Int) = (n : Int)) := by omega
          go_upto_region 6 with (fail)
          go_quiet (fail)
          go_wp2_with fail
          go_roundg (gk - 1)
          case measure => omega
          case rel => exact ⟨i + 1, by go_num, by omega, Lib.hid ⟨fun l hll => by
            by_cases hli : l = i
            · rw [hli]; exact hl
            · exact HJ.out l (by omega), T.out, below_drewN HB.out _⟩⟩
        · have h1 : ¬ ((ln i : Int) = (n : Int)) := by omega
          go_upto_region 6 with (fail)
          go_quiet (fail)
          go_wp2_with fail
          go_ret
          exact ⟨false, rfl, below_drewN HB.out _, by simp; exact ⟨i, hi, hl⟩⟩
      · obtain rfl : m = i := by omega
        go_wp2_with fail
        go_ret
        exact ⟨true, rfl, HB.out, by simp; exact HJ.out⟩
  · have h1 : ¬ ((m : Int) = (k : Int)) := by omega
    go_wp2_with fail
    go_ret
    exact ⟨false, rfl, HB.out, by simp; intro h; exact absurd h hmk⟩
end Go.Proofs.Ytamcibmjpmibdaa
namespace Go.Proofs.Ytamcibmjpmibdaa
open Go.RowKit
set_option linter.unusedVariables false
set_option linter.unusedSimpArgs false

def GrRet (n m k : Nat) (w : World) (e : Ending) (w' : World) : Prop := ∃ t : Bool, e = .returned (.bool t) ∧ Below w.heap.size w w' ∧ (t = false ↔ n ≤ 5 ∧ m ≤ 5 ∧ k ≤ 6)
set_option maxRecDepth 100000 in
set_option maxHeartbeats 8000000 in
theorem great_any (n m k cC cA cB : Nat) (AC AA AB : Option Addr) (w : World) :
    Calls Try.prog 10 #[.agg #[.slice AC n cC, .slice AA m cA, .slice AB k cB]] w (GrRet n m k w) := by
  go_enter Try.func10, Try.ntmps10
  go_upto_region 1 with (fail)
  have T := Lib.hid (Blk.new w 25 #[.slice AC n cC, .slice AA m cA, .slice AB k cB])
  have HB := Lib.hid (al w (.cells #[.slice AC n cC, .slice AA m cA, .slice AB k cB] 25))
  generalize w.alloc (.cells #[.slice AC n cC, .slice AA m cA, .slice AB k cB] 25) = w1 at *
  have c0 : w1.cell? ⟨w.heap.size, 0, none⟩ = some (.slice AC n cC) := by rw [T.out.cell]; rfl
  have c1 : w1.cell? ⟨w.heap.size, 1, none⟩ = some (.slice AA m cA) := by rw [T.out.cell]; rfl
  have c2 : w1.cell? ⟨w.heap.size, 2, none⟩ = some (.slice AB k cB) := by rw [T.out.cell]; rfl
  by_cases hn : 5 < n
  · have h1 : ((n : Int) > 5) := by omega
    go_wp2_with fail
    go_ret
    exact ⟨true, rfl, HB.out, by simp; omega⟩
  · have h1 : ¬ ((n : Int) > 5) := by omega
    by_cases hm : 5 < m
    · have h2 : ((m : Int) > 5) := by omega
      go_wp2_with fail
      go_ret
      exact ⟨true, rfl, HB.out, by simp; omega⟩
    · have h2 : ¬ ((m : Int) > 5) := by omega
      by_cases hk : 6 < k
      · have h3 : ((k : Int) > 6) := by omega
        go_wp2_with fail
        go_ret
        exact ⟨true, rfl, HB.out, by simp; omega⟩
      · have h3 : ¬ ((k : Int) > 6) := by omega
        go_wp2_with fail
        go_ret
        exact ⟨false, rfl, HB.out, by simp; omega⟩
end Go.Proofs.Ytamcibmjpmibdaa
namespace Go.Proofs.Ytamcibmjpmibdaa
open Go.RowKit
set_option linter.unusedVariables false
set_option linter.unusedSimpArgs false

section
variable {P : Program} (w : World)
end
section
variable {o : Oper} {a : Act} {w : World}
end
section
variable {o : Oper} {a : Act} {w : World} {t : Tmp}
end
end Go.Proofs.Ytamcibmjpmibdaa
namespace Go.Proofs.Ytamcibmjpmibdaa
open Go.RowKit
set_option linter.unusedVariables false
set_option linter.unusedSimpArgs false

section
variable {w w' : World} {b b' n m k : Nat} {AC AA AB : Option Addr} {Ar : Nat → Option Addr} {ln cp : Nat → Nat} {A : Nat → Nat → Rat} {C B : Nat → Rat}
theorem Rs.wider {A : Option Addr} {f : Nat → Rat} (h : Rs w w.heap.size A n (PW w b f)) (hb : b ≤ b') : Rs w w.heap.size A n (PW w b' f) := h.mono fun _ _ _ hv => Rw.more hv hb
theorem PrW.more (h : PrW w b n m k AC AA AB Ar ln cp A C B) (hb : b ≤ b') : PrW w b' n m k AC AA AB Ar ln cp A C B :=
  ⟨h.c.wider hb, h.a, fun i hi => (h.row i hi).wider hb, h.bb.wider hb⟩
end
theorem bitsT_mono {m m' a : Nat} (h : m ≤ m') : bitsT m a ≤ bitsT m' a := by
  have h1 : 2 ^ m ≤ 2 ^ m' := Nat.pow_le_pow_right (by decide) h
  have h2 : 2 ^ m * (a + 1) ≤ 2 ^ m' * (a + 1) := Nat.mul_le_mul_right _ h1
  unfold bitsT
  have := Nat.mul_le_mul h (show a + (2 ^ m * (a + 1) - 1) + 1 ≤ a + (2 ^ m' * (a + 1) - 1) + 1 by omega)
  omega
theorem frac_law {n m : Nat} {A : Nat → Nat → Rat} {B C : Nat → Rat} (hA : ∀ i, i < m → ∀ j, j < n → Frac 12 1024 (A i j)) (hB : ∀ i, i < m → Frac 12 1024 (B i)) (hC : ∀ j, j < n → Frac 12 1024 (C j)) : FracP n m 12 10 A B C :=
  ⟨by omega, by omega, hA, hB, hC⟩
section
variable {n m : Nat} {A : Nat → Nat → Rat} {B C : Nat → Rat}
theorem frac_smq {NC NB : Nat → Int} {DC DB : Nat → Nat} {NA : Nat → Nat → Int} {DA : Nat → Nat → Nat} (eC : C = fun i => smq (NC i) (DC i)) (eB : B = fun i => smq (NB i) (DB i)) (eA : A = fun i j => smq (NA i j) (DA i j)) : FracP n m 12 10 A B C := by
  subst eC; subst eB; subst eA
  exact frac_law (fun i _ j _ => (smq_frac _ _).more (by omega)) (fun i _ => (smq_frac _ _).more (by omega)) (fun j _ => (smq_frac _ _).more (by omega))
variable {w : World} {b k : Nat} {AC AA AB : Option Addr} {Ar : Nat → Option Addr} {ln cp : Nat → Nat}
theorem PrW.flat (h : PrW w b n m k AC AA AB Ar ln cp A C B) (hl : ∀ i, i < m → ln i = n) : PrW w b n m k AC AA AB Ar (fun _ => n) cp A C B := by
  refine ⟨h.c, ?_, fun i hi => by rw [← hl i hi]; exact h.row i hi, h.bb⟩
  have e : ((List.range m).map fun i => Value.slice (Ar i) (ln i) (cp i)) = (List.range m).map fun i => Value.slice (Ar i) n (cp i) := List.map_congr_left fun i hi => by rw [hl i (List.mem_range.1 hi)]
  rw [← e]; exact h.a
end
end Go.Proofs.Ytamcibmjpmibdaa
namespace Go.Proofs.Ytamcibmjpmibdaa
open Go.RowKit
set_option linter.unusedVariables false
set_option linter.unusedSimpArgs false

section
variable {o : Oper} {a : Act} {w : World} {t : Tmp}
end
section
variable {w : World} {b b' n m k : Nat} {AC AC' AA AB : Option Addr} {Ar : Nat → Option Addr} {ln cp : Nat → Nat} {A : Nat → Nat → Rat} {C C' B : Nat → Rat}
end
end Go.Proofs.Ytamcibmjpmibdaa
