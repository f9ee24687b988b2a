/-
A claimed solution of small numbers: how it is read and made.
The walk of law28.SimplexChecks. Printed by gen/srf.py.
-/
import Derived.Test.YtamcibmjpmibdaaK17
import Derived.Test.YtamcibmjpmibdaaK13
namespace Go.Proofs.Ytamcibmjpmibdaa
open Go.RowKit
set_option linter.unusedVariables false
set_option linter.unusedSimpArgs false

section
variable {o : Oper} {a : Act} {w : World} {t : Tmp}
theorem gives_call6 {P : Program} {K : Value → World → Prop} (f : FuncId) (x y z x' y' z' : Operand) (ts : Array TypeId) (ho : o.op = .call { callee := .value (.func f), args := #[x, y, z, x', y', z'], argTypes := ts }) (hf : callsB P f = true)
    (h : Calls P f #[a.eval x, a.eval y, a.eval z, a.eval x', a.eval y', a.eval z'] w (fun e w'' => ∃ v, e = .returned v ∧ K v w'')) : gives P o a.eval w K :=
  gives_call f #[x, y, z, x', y', z'] ts ho hf (by simpa using h)
theorem gives_built5 {ty : TypeId} {i j k l m : Nat} {x y z p q : Operand} {u v r s c : Value} {cells : Array Value} (ho : o.op = .build ty #[(i, x), (j, y), (k, z), (l, p), (m, q)]) (hx : a.eval x = u) (hy : a.eval y = v) (hz : a.eval z = r) (hp : a.eval p = s) (hq : a.eval q = c) (hf : Try.prog.built ty [(i, u), (j, v), (k, r), (l, s), (m, c)] = some cells) : gives Try.prog o a.eval w (fun v w' => v = .agg cells ∧ Below w.heap.size w w') := by
  refine gives_val (.agg cells) ?_ ⟨rfl, Below.refl _ _⟩
  have e : (#[(i, x), (j, y), (k, z), (l, p), (m, q)].map fun (i, x) => (i, a.eval x)).toList = [(i, u), (j, v), (k, r), (l, s), (m, c)] := by simp [hx, hy, hz, hp, hq]
  unfold execOp
  simp only [ho, Sem.run_bind]
  rw [run_build w ty _ cells (by rw [e]; exact hf)]
  rfl
theorem built_sol (z : Int) (A A' A'' : Option Addr) (n c n' c' n'' c'' : Nat) (s : Bool) (A0 B0 : Option Addr) (k0 q0 m0 d0 : Nat) : Try.prog.built 43 [(0, .int .i64 z), (1, .slice A n c), (2, .slice A' n' c'), (3, .slice A'' n'' c''), (4, .agg #[.bool s, .slice A0 k0 q0, .slice B0 m0 d0])] = some #[.int .i64 z, .slice A n c, .slice A' n' c', .slice A'' n'' c'', .bool s, .slice A0 k0 q0, .slice B0 m0 d0] := by kernel_rfl
/-- A new box for a solution. -/
def Zs (B : Nat) (v : Value) (w : World) : Prop := ∃ g, v = .pointer (some ⟨g, 0, none⟩) ∧ B ≤ g ∧ Blk w g 43 #[.int .i64 0, .slice none 0 0, .slice none 0 0, .slice none 0 0, .bool false, .slice none 0 0, .slice none 0 0]
theorem Zs.new {B : Nat} {v : Value} {w w' : World} (h : Zs B v w) (hb : Below w.heap.size w w') : Zs B v w' := by
  obtain ⟨g, h1, h2, h3⟩ := h
  exact ⟨g, h1, h2, h3.keep hb⟩
theorem alloc_sol {w0 : World} (ho : o.op = .alloc 43) (hb : Below w0.heap.size w0 w) : gives Try.prog o a.eval w (fun v w' => (Zs w0.heap.size v w' ∧ Below w.heap.size w w') ∧ Fresh v w w') := by
  have hr : (execOp a.eval o).run Try.prog w = .ok (.value (.pointer (some ⟨w.heap.size, 0, none⟩))) (w.alloc (.cells #[.int .i64 0, .slice none 0 0, .slice none 0 0, .slice none 0 0, .bool false, .slice none 0 0, .slice none 0 0] 43)) := by
    unfold execOp
    rw [ho]
    go_simp
  unfold gives
  rw [hr]
  exact ⟨⟨⟨_, rfl, hb.size, Blk.new _ _ _⟩, al _ _⟩, ⟨_, rfl, Nat.le_refl _, by simp⟩⟩
theorem Blk.at5 {w w' : World} {g : Nat} {t : TypeId} {v0 v1 v2 v3 v4 v : Value} {r : List Value} (h : Blk w g t (v0 :: v1 :: v2 :: v3 :: v4 :: v :: r).toArray) (hb : Below w.heap.size w w') : w'.cell? ⟨g, 5, none⟩ = some v := by rw [(h.keep hb).cell]; rfl
theorem fld_clm {g k : Nat} (ho : o.op = .fieldAddr 54 (.tmp t) k) (hk : k < 5) (h : tv a t = .pointer (some ⟨g, 0, none⟩)) : gives Try.prog o a.eval w (fun v w' => v = .pointer (some ⟨g, k, none⟩) ∧ Below w.heap.size w w') := by
  refine gives_val (.pointer (some ⟨g, k, none⟩)) ?_ ⟨rfl, Below.refl _ _⟩
  have : k = 0 ∨ k = 1 ∨ k = 2 ∨ k = 3 ∨ k = 4 := by omega
  rcases this with rfl | rfl | rfl | rfl | rfl <;> (unfold execOp; rw [ho]; simp only [eval_tmp, h]; go_simp)
theorem load_c5 {p : Addr} {v : Value} (ho : o.op = .load 5 (.tmp t)) (hx : tv a t = .pointer (some p)) (hc : w.cell? p = some v) : gives Try.prog o a.eval w (fun z w' => z = v ∧ Below w.heap.size w w') := by
  refine gives_val v ?_ ⟨rfl, Below.refl _ _⟩
  unfold execOp; rw [ho]; simp only [eval_tmp, hx]; go_simp
theorem load_sm_at {g k : Nat} {x y : Value} (ho : o.op = .load 52 (.tmp t)) (hx : tv a t = .pointer (some ⟨g, k, none⟩)) (h0 : w.cell? ⟨g, k, none⟩ = some x) (h1 : w.cell? ⟨g, k + 1, none⟩ = some y) : gives Try.prog o a.eval w (fun v w' => v = .agg #[x, y] ∧ Below w.heap.size w w') := by
  have h := run_load_small w ⟨g, k, none⟩ x y h0 (by rw [show (⟨g, k, none⟩ : Addr).add 1 = ⟨g, k + 1, none⟩ from rfl]; exact h1)
  refine gives_val (.agg #[x, y]) ?_ ⟨rfl, Below.refl _ _⟩
  unfold execOp
  rw [ho]
  simp only [eval_tmp, hx, Instr.loadAt, Instr.sureAddr, Sem.run_bind, Sem.run_pure, Result.andThen_ok, h]
theorem gives_rem4 {k : Nat} (hk : k ≤ 255) (ho : o.op = .binOp .rem 5 (.tmp t) (.const (.int .u8 4)) 5) (hx : tv a t = .int .u8 (k : Int)) : gives Try.prog o a.eval w (fun v w' => v = .int .u8 ((k % 4 : Nat) : Int) ∧ Below w.heap.size w w') := by
  refine gives_val _ ?_ ⟨rfl, Below.refl _ _⟩
  unfold execOp; rw [ho]; simp only [eval_tmp, eval_const, hx]
  have h : (k : Int).tmod 4 = ((k % 4 : Nat) : Int) := tmod_nat k 4
  go_simp
  all_goals omega
theorem gives_conv8 {k : Nat} (hk : k ≤ 255) (ho : o.op = .convert 5 3 (.tmp t)) (hx : tv a t = .int .u8 (k : Int)) : gives Try.prog o a.eval w (fun v w' => v = .int .i64 (k : Int) ∧ Below w.heap.size w w') := by
  refine gives_val _ ?_ ⟨rfl, Below.refl _ _⟩
  have ew : IntKind.i64.wrap (k : Int) = k := IntWalk.i64_in _ (by omega)
  unfold execOp; rw [ho]; simp only [eval_tmp, hx]
  go_simp
  all_goals first | exact ew | omega
theorem gives_one_q {x : Rat} (ho : o.op = .buildSlice 32 1 #[(0, .tmp t)]) (h : tv a t = QL x) : gives Try.prog o a.eval w (fun v w' => (∃ A0 c0, v = .slice A0 1 c0 ∧ Reads w' w'.heap.size 2 A0 1 (qsL (fun _ => x) 1)) ∧ Below w.heap.size w w') := by
  have hh : a.tmps[t]?.getD undef = .agg #[.int .i64 x.num, .int .i64 (x.den : Int)] := by simpa [tv, QL] using h
  have hr : (execOp a.eval o).run Try.prog w = .ok (.value (.slice (some ⟨w.heap.size, 0, none⟩) 1 1)) (w.alloc (.cells #[.int .i64 x.num, .int .i64 (x.den : Int)] 58)) := by
    unfold execOp
    rw [ho]
    go_simp
  unfold gives
  rw [hr]
  exact ⟨⟨_, _, rfl, Reads.of_blk (n := 1) (Blk.new w 58 #[.int .i64 x.num, .int .i64 (x.den : Int)]) rfl⟩, al _ _⟩
/-- The address of the first Rat of a row. -/
def PtR (f : Nat → Rat) (v : Value) (w : World) : Prop := ∃ ad, v = .pointer (some (Addr.add ad (0 * 3))) ∧ Rs w w.heap.size (some ad) 1 (PN w 2 f)
theorem PtR.new {f : Nat → Rat} {v : Value} {w w' : World} (h : PtR f v w) (hb : Below w.heap.size w w') : PtR f v w' := by
  obtain ⟨ad, h1, h2⟩ := h
  exact ⟨ad, h1, Rs.newN h2 hb⟩
theorem idx_pt {f : Nat → Rat} (ho : o.op = .indexAddr 28 (.tmp t) (.const (.int .i64 0))) (h : ∃ A0 c0, tv a t = .slice A0 1 c0 ∧ OR w 0 (.slice A0 1 c0) 1 (PN w 2 f)) : gives Try.prog o a.eval w (fun v w' => PtR f v w' ∧ Below w.heap.size w w') := by
  obtain ⟨A0, c0, h1, h2⟩ := h
  replace h2 := h2.rs
  have h3 := h2
  obtain ⟨ad, -, -, -, -, -, -, -, rfl, -⟩ := h2.at_ (show 0 < 1 by omega)
  refine gives_mono (idx_rs (k := 0) (by omega) ho h1 rfl) ?_
  rintro v w' ⟨rfl, hb⟩
  exact ⟨⟨ad, rfl, Rs.newN h3 hb⟩, hb⟩
theorem load_pt {f : Nat → Rat} (ho : o.op = .load 41 (.tmp t)) (h : PtR f (tv a t) w) : gives Try.prog o a.eval w (fun v w' => Rv 2 (f 0) v w' ∧ Below w.heap.size w w') := by
  obtain ⟨ad, h1, h2⟩ := h
  exact load_rn ho h1 h2 (by omega)
/-- A solution as a value. -/
def ClmV (kX kY kR zc : Nat) (X Y R : Nat → Rat) (x : Rat) (v : Value) (w : World) : Prop := ∃ AX cX AY cY AR cR s A k c B m d, v = .agg #[.int .i64 (zc : Int), .slice AX kX cX, .slice AY kY cY, .slice AR kR cR, .bool s, .slice A k c, .slice B m d] ∧ OR w 0 (.slice AX kX cX) kX (PN w 2 X) ∧ OR w 0 (.slice AY kY cY) kY (PN w 2 Y) ∧ OR w 0 (.slice AR kR cR) kR (PN w 2 R) ∧ Rv 2 x (.agg #[.bool s, .slice A k c, .slice B m d]) w
theorem ClmV.new {kX kY kR zc : Nat} {X Y R : Nat → Rat} {x : Rat} {v : Value} {w w' : World} (h : ClmV kX kY kR zc X Y R x v w) (hb : Below w.heap.size w w') : ClmV kX kY kR zc X Y R x v w' := by
  obtain ⟨AX, cX, AY, cY, AR, cR, s, A, k, c, B, m, d, h0, h1, h2, h3, h4⟩ := h
  exact ⟨AX, cX, AY, cY, AR, cR, s, A, k, c, B, m, d, h0, h1.newN hb, h2.newN hb, h3.newN hb, h4.new hb⟩
theorem gives_clm {kX kY kR zc : Nat} {X Y R : Nat → Rat} {x : Rat} {t0 t1 t2 t3 t4 : Tmp} (ho : o.op = .build 43 #[(0, .tmp t0), (1, .tmp t1), (2, .tmp t2), (3, .tmp t3), (4, .tmp t4)]) (h0 : tv a t0 = .int .i64 (zc : Int)) (h1 : ∃ A0 c0, tv a t1 = .slice A0 kX c0 ∧ OR w 0 (.slice A0 kX c0) kX (PN w 2 X)) (h2 : ∃ A0 c0, tv a t2 = .slice A0 kY c0 ∧ OR w 0 (.slice A0 kY c0) kY (PN w 2 Y)) (h3 : ∃ A0 c0, tv a t3 = .slice A0 kR c0 ∧ OR w 0 (.slice A0 kR c0) kR (PN w 2 R)) (h4 : Rv 2 x (tv a t4) w) :
    gives Try.prog o a.eval w (fun v w' => ClmV kX kY kR zc X Y R x v w' ∧ Below w.heap.size w w') := by
  obtain ⟨AX, cX, e1, r1⟩ := h1; obtain ⟨AY, cY, e2, r2⟩ := h2; obtain ⟨AR, cR, e3, r3⟩ := h3
  have h5 := h4
  obtain ⟨s, A, k, c, B, m, d, e4, -⟩ := h4
  refine gives_mono (gives_built5 ho h0 e1 e2 e3 e4 (built_sol _ _ _ _ _ _ _ _ _ _ _ _ _ _ _ _ _)) ?_
  rintro v w' ⟨rfl, hb⟩
  rw [e4] at h5
  exact ⟨⟨AX, cX, AY, cY, AR, cR, s, A, k, c, B, m, d, rfl, r1.newN hb, r2.newN hb, r3.newN hb, h5.new hb⟩, hb⟩
end
end Go.Proofs.Ytamcibmjpmibdaa
namespace Go.Proofs.Ytamcibmjpmibdaa
open Go.RowKit
set_option linter.unusedVariables false
set_option linter.unusedSimpArgs false

set_option maxRecDepth 100000 in
set_option maxHeartbeats 20000000 in
theorem checks_walk (n m k cC cA cB : Nat) (PC PA PB : Option Addr) (Pr : Nat → Option Addr) (ln cp : Nat → Nat) (NC NB : Nat → Int) (DC DB : Nat → Nat) (NA : Nat → Nat → Int) (DA : Nat → Nat → Nat) (oc : Nat) (PX PY PR : Option Addr) (kX kY kR cX cY cR : Nat) (NX NY NR : Nat → Int) (DX DY DR : Nat → Nat) (vN : Int) (vD : Nat) (w : World) (hP : PgL w n m k PC PA PB Pr ln cp NC NB DC DB NA DA) (hoc : oc ≤ 255) (hX : Reads w w.heap.size 2 PX kX (smL NX DX kX)) (sX : SmB NX DX kX) (hY : Reads w w.heap.size 2 PY kY (smL NY DY kY)) (sY : SmB NY DY kY) (hR : Reads w w.heap.size 2 PR kR (smL NR DR kR)) (sR : SmB NR DR kR) (hS : -128 ≤ vN ∧ vN ≤ 127 ∧ vD ≤ 255)
    (A : Nat → Nat → Rat) (C B : Nat → Rat) (eC : C = fun i => smq (NC i) (DC i)) (eB : B = fun i => smq (NB i) (DB i)) (eA : A = fun i j => smq (NA i j) (DA i j)) (X Y R : Nat → Rat) (vq : Rat) (eX : X = fun i => smq (NX i) (DX i)) (eY : Y = fun i => smq (NY i) (DY i)) (eR : R = fun i => smq (NR i) (DR i)) (ev : vq = smq vN vD) :
    Calls Try.prog 4 #[.agg #[.slice PC n cC, .slice PA m cA, .slice PB k cB], .agg #[.int .u8 (oc : Int), .slice PX kX cX, .slice PY kY cY, .slice PR kR cR, .int .i8 vN, .int .u8 (vD : Int)]] w (fun e w' => e = .returned (.bool true) ∧ Below w.heap.size w w') := by
  have EC := Lib.hid eC; have EB := Lib.hid eB; have EA := Lib.hid eA; have HEX := Lib.hid eX; have HEY := Lib.hid eY; have HER := Lib.hid eR; have HEv := Lib.hid ev; clear eC eB eA eX eY eR ev
  have HPX := Lib.hid hX; have HPY := Lib.hid hY; have HPR := Lib.hid hR; have HSX := Lib.hid sX; have HSY := Lib.hid sY; have HSR := Lib.hid sR; have HSv := Lib.hid hS; have HOc := Lib.hid hoc; clear hX hY hR sX sY sR hS hoc
  have HfA := Lib.hid (show ∀ i j, Frac 12 108 (A i j) from fun i j => by rw [EA.out]; exact smq_frac _ _)
  have HfB := Lib.hid (show ∀ i, Frac 12 108 (B i) from fun i => by rw [EB.out]; exact smq_frac _ _)
  have HfC := Lib.hid (show ∀ i, Frac 12 108 (C i) from fun i => by rw [EC.out]; exact smq_frac _ _)
  have HfX := Lib.hid (show ∀ i, Frac 12 108 (X i) from fun i => by rw [HEX.out]; exact smq_frac _ _)
  have HfY := Lib.hid (show ∀ i, Frac 12 108 (Y i) from fun i => by rw [HEY.out]; exact smq_frac _ _)
  have HfR := Lib.hid (show ∀ i, Frac 12 108 (R i) from fun i => by rw [HER.out]; exact smq_frac _ _)
  have HsV := Lib.hid (show Sm vq from by rw [HEv.out]; exact smq_small _ _)
  have HPg := Lib.hid hP.p; have HLn := Lib.hid hP.l; clear hP
  go_enter Try.func4, Try.ntmps4
  go_upto_region 1 with (fail)
  have hbw := bthen (al w (.cells #[.slice PC n cC, .slice PA m cA, .slice PB k cB] 25)) (al _ (.cells #[.int .u8 (oc : Int), .slice PX kX cX, .slice PY kY cY, .slice PR kR cR, .int .i8 vN, .int .u8 (vD : Int)] 54)) (by simp)
  have T := Lib.hid ((Blk.new w 25 #[.slice PC n cC, .slice PA m cA, .slice PB k cB]).keep (al _ (.cells #[.int .u8 (oc : Int), .slice PX kX cX, .slice PY kY cY, .slice PR kR cR, .int .i8 vN, .int .u8 (vD : Int)] 54)))
  have S := Lib.hid (Blk.new (w.alloc (.cells #[.slice PC n cC, .slice PA m cA, .slice PB k cB] 25)) 54 #[.int .u8 (oc : Int), .slice PX kX cX, .slice PY kY cY, .slice PR kR cR, .int .i8 vN, .int .u8 (vD : Int)])
  rw [show (w.alloc (.cells #[.slice PC n cC, .slice PA m cA, .slice PB k cB] 25)).heap.size = w.heap.size + 1 from by simp] at S
  have HB := Lib.hid hbw
  replace HPX := Lib.hid ((HPX.out.below hbw).more (Below.size hbw))
  replace HPY := Lib.hid ((HPY.out.below hbw).more (Below.size hbw))
  replace HPR := Lib.hid ((HPR.out.below hbw).more (Below.size hbw))
  replace HPg := Lib.hid (HPg.out.new hbw)
  clear hbw
  generalize (w.alloc (.cells #[.slice PC n cC, .slice PA m cA, .slice PB k cB] 25)).alloc (.cells #[.int .u8 (oc : Int), .slice PX kX cX, .slice PY kY cY, .slice PR kR cR, .int .i8 vN, .int .u8 (vD : Int)] 54) = w1 at *
  obtain ⟨g3, hg3⟩ : ∃ g3, g3 = w.heap.size := ⟨_, rfl⟩
  obtain ⟨g5, hg5⟩ : ∃ g5, g5 = w.heap.size + 1 := ⟨_, rfl⟩
  rw [← hg5] at S ⊢
  rw [← hg3] at T ⊢
  have HGg3 := Lib.hid (show w.heap.size ≤ g3 ∧ w.heap.size ≤ g5 from by omega)
  clear hg3 hg5
  have c0 := Blk.at0 T.out (Below.refl _ _); have c1 := Blk.at1 T.out (Below.refl _ _); have c2 := Blk.at2 T.out (Below.refl _ _)
  go_wp2_with fail
  refine (great_any n m k cC cA cB PC PA PB w1).mono ?_
  rintro e w2 ⟨t, rfl, hb, ht⟩
  have HT := Lib.hid ht; clear ht c0 c1 c2
  replace HPX := Lib.hid ((HPX.out.below hb).more (Below.size hb))
  replace HPY := Lib.hid ((HPY.out.below hb).more (Below.size hb))
  replace HPR := Lib.hid ((HPR.out.below hb).more (Below.size hb))
  replace HPg := Lib.hid (HPg.out.new hb)
  replace HB := Lib.hid (bthen HB.out hb HB.out.size)
  replace T := Lib.hid (T.out.keep hb)
  replace S := Lib.hid (S.out.keep hb)
  clear hb
  have c0 := Blk.at0 T.out (Below.refl _ _); have c1 := Blk.at1 T.out (Below.refl _ _); have c2 := Blk.at2 T.out (Below.refl _ _)
  have s1 := Blk.at1 S.out (Below.refl _ _); have s2 := Blk.at2 S.out (Below.refl _ _); have s3 := Blk.at3 S.out (Below.refl _ _)
  by_cases htt : t = true
  · subst htt
    clear HT
    go_wp2_with fail
    refine (awake_any _).mono ?_
    rintro e w3 ⟨rfl, hb⟩
    go_wp2_with fail
    go_ret
    exact ⟨rfl, bthen HB.out hb HB.out.size⟩
  obtain rfl : t = false := by simpa using htt
  clear htt
  obtain ⟨hn5, hm5, hk6⟩ := HT.out.1 rfl
  clear HT
  by_cases hbX : 6 < kX
  · have b1 : ((kX : Int) > 6) := by omega
    go_wp2_with fail
    refine (awake_any _).mono ?_
    rintro e w3 ⟨rfl, hb⟩
    go_wp2_with fail
    go_ret
    exact ⟨rfl, bthen HB.out hb HB.out.size⟩
  have bX : ¬ ((kX : Int) > 6) := by omega
  by_cases hbY : 6 < kY
  · have b1 : ((kY : Int) > 6) := by omega
    go_wp2_with fail
    refine (awake_any _).mono ?_
    rintro e w3 ⟨rfl, hb⟩
    go_wp2_with fail
    go_ret
    exact ⟨rfl, bthen HB.out hb HB.out.size⟩
  have bY : ¬ ((kY : Int) > 6) := by omega
  by_cases hbR : 6 < kR
  · have b1 : ((kR : Int) > 6) := by omega
    go_wp2_with fail
    refine (awake_any _).mono ?_
    rintro e w3 ⟨rfl, hb⟩
    go_wp2_with fail
    go_ret
    exact ⟨rfl, bthen HB.out hb HB.out.size⟩
  have bR : ¬ ((kR : Int) > 6) := by omega
  go_wp2_with fail
  refine (of_any n m k cC cA cB PC PA PB Pr ln cp NC NB DC DB NA DA w2 HPg.out (by omega) (by omega) (by omega) HLn.out A C B EC.out EB.out EA.out smq_small).mono ?_
  rintro e w3 ⟨YC, YA, YB, QC, QA, QB, Yr, Qr, yp, qp, yc, ya, yb, qc, qa, qb, rfl, hpr, hrq, hb⟩
  clear c0 c1 c2 s1 s2 s3
  replace HPX := Lib.hid ((HPX.out.below hb).more (Below.size hb))
  replace HPY := Lib.hid ((HPY.out.below hb).more (Below.size hb))
  replace HPR := Lib.hid ((HPR.out.below hb).more (Below.size hb))
  replace HPg := Lib.hid (HPg.out.new hb)
  replace HB := Lib.hid (bthen HB.out hb HB.out.size)
  replace T := Lib.hid (T.out.keep hb)
  replace S := Lib.hid (S.out.keep hb)
  clear hb
  have HP := Lib.hid hpr; have HQ := Lib.hid hrq; clear hpr hrq
  go_upto_region 4 with (fail)
  have hbw := bthen (al w3 (.cells #[.slice YC n yc, .slice YA m ya, .slice YB k yb] 31)) (al _ (.cells #[.slice QC n qc, .slice QA m qa, .slice QB k qb] 35)) (by simp)
  have HY := Lib.hid ((Blk.new w3 31 #[.slice YC n yc, .slice YA m ya, .slice YB k yb]).keep (al _ (.cells #[.slice QC n qc, .slice QA m qa, .slice QB k qb] 35)))
  have HR := Lib.hid (Blk.new (w3.alloc (.cells #[.slice YC n yc, .slice YA m ya, .slice YB k yb] 31)) 35 #[.slice QC n qc, .slice QA m qa, .slice QB k qb])
  rw [show (w3.alloc (.cells #[.slice YC n yc, .slice YA m ya, .slice YB k yb] 31)).heap.size = w3.heap.size + 1 from by simp] at HR
  replace HPX := Lib.hid ((HPX.out.below hbw).more (Below.size hbw))
  replace HPY := Lib.hid ((HPY.out.below hbw).more (Below.size hbw))
  replace HPR := Lib.hid ((HPR.out.below hbw).more (Below.size hbw))
  replace HPg := Lib.hid (HPg.out.new hbw)
  replace HB := Lib.hid (bthen HB.out hbw HB.out.size)
  replace T := Lib.hid (T.out.keep hbw)
  replace S := Lib.hid (S.out.keep hbw)
  replace HP := Lib.hid (HP.out.new hbw)
  replace HQ := Lib.hid (HQ.out.new hbw)
  clear hbw
  generalize (w3.alloc (.cells #[.slice YC n yc, .slice YA m ya, .slice YB k yb] 31)).alloc (.cells #[.slice QC n qc, .slice QA m qa, .slice QB k qb] 35) = w4 at *
  obtain ⟨g7, hg7⟩ : ∃ g7, g7 = w3.heap.size := ⟨_, rfl⟩
  obtain ⟨g8, hg8⟩ : ∃ g8, g8 = w3.heap.size + 1 := ⟨_, rfl⟩
  rw [← hg8] at HR ⊢
  rw [← hg7] at HY ⊢
  have HGg7 := Lib.hid (show w3.heap.size ≤ g7 ∧ w3.heap.size ≤ g8 from by omega)
  clear hg7 hg8
  obtain ⟨zc, hzc⟩ : ∃ zc, zc = oc % 4 := ⟨_, rfl⟩
  have HZc := Lib.hid hzc; clear hzc
  refine wp_region_join (kss := [[], [(0, 35)], [(1, 36)], [(2, 37)], [], [(4, 39)], [(5, 40)], [(6, 41)], [], [(8, 43)], [(9, 44)], [(10, 45)], [], [(12, 47)], [(13, 48)], [(14, 49)], [], [(16, 51)], [(17, 52)], [(18, 53)], [(19, 54)], [(20, 55)], [(21, 56)], [(3, 38), (7, 42), (11, 46), (15, 50), (22, 57)], []]) [(3, .pointer (some ⟨g5, 0, none⟩))] [EV (.pointer (some ⟨g5, 0, none⟩)), EV (.int .u8 ((oc : Int))), EV (.int .u8 (((oc % 4 : Nat) : Int))), EV (.int .i64 (((oc % 4 : Nat) : Int))), EV (.pointer (some ⟨g5, 1, none⟩)), EV (.slice PX kX cX), fun v w' => ∃ (A0 : Option Addr) (c0 : Nat), v = .slice A0 kX c0 ∧ Reads w' w'.heap.size 2 A0 kX (qsL X kX), fun v w' => ∃ (A0 : Option Addr) (c0 : Nat), v = .slice A0 kX c0 ∧ OR w' 0 (.slice A0 kX c0) kX (PN w' 2 X), EV (.pointer (some ⟨g5, 2, none⟩)), EV (.slice PY kY cY), fun v w' => ∃ (A0 : Option Addr) (c0 : Nat), v = .slice A0 kY c0 ∧ Reads w' w'.heap.size 2 A0 kY (qsL Y kY), fun v w' => ∃ (A0 : Option Addr) (c0 : Nat), v = .slice A0 kY c0 ∧ OR w' 0 (.slice A0 kY c0) kY (PN w' 2 Y), EV (.pointer (some ⟨g5, 3, none⟩)), EV (.slice PR kR cR), fun v w' => ∃ (A0 : Option Addr) (c0 : Nat), v = .slice A0 kR c0 ∧ Reads w' w'.heap.size 2 A0 kR (qsL R kR), fun v w' => ∃ (A0 : Option Addr) (c0 : Nat), v = .slice A0 kR c0 ∧ OR w' 0 (.slice A0 kR c0) kR (PN w' 2 R), EV (.pointer (some ⟨g5, 4, none⟩)), EV (.agg #[.int .i8 vN, .int .u8 ((vD : Int))]), EV (QL (vq)), fun v w' => ∃ (A0 : Option Addr) (c0 : Nat), v = .slice A0 1 c0 ∧ Reads w' w'.heap.size 2 A0 1 (qsL (fun _ => vq) 1), fun v w' => ∃ (A0 : Option Addr) (c0 : Nat), v = .slice A0 1 c0 ∧ OR w' 0 (.slice A0 1 c0) 1 (PN w' 2 (fun _ => vq)), PtR (fun _ => vq), Rv (2) (vq), ClmV kX kY kR zc X Y R vq, Zs w4.heap.size] 25 [] (by kernel_rfl) (by kernel_rfl) ⟨rfl, trivial⟩ [false, false, false, false, false, false, false, false, false, false, false, false, false, false, false, false, false, false, false, false, false, false, false, false, true] ?_ ?_ ?_ ?_
  · exact fun i hi => absurd hi (by simp)
  · exact ⟨sI, sI, sI, sI, sI, sI, fun _ _ _ ⟨A0, c0, h1, h2⟩ hb => ⟨A0, c0, h1, (h2.below hb).more hb.size⟩, fun _ _ _ ⟨A0, c0, h1, h2⟩ hb => ⟨A0, c0, h1, h2.newN hb⟩, sI, sI, fun _ _ _ ⟨A0, c0, h1, h2⟩ hb => ⟨A0, c0, h1, (h2.below hb).more hb.size⟩, fun _ _ _ ⟨A0, c0, h1, h2⟩ hb => ⟨A0, c0, h1, h2.newN hb⟩, sI, sI, fun _ _ _ ⟨A0, c0, h1, h2⟩ hb => ⟨A0, c0, h1, (h2.below hb).more hb.size⟩, fun _ _ _ ⟨A0, c0, h1, h2⟩ hb => ⟨A0, c0, h1, h2.newN hb⟩, sI, sI, sI, fun _ _ _ ⟨A0, c0, h1, h2⟩ hb => ⟨A0, c0, h1, (h2.below hb).more hb.size⟩, fun _ _ _ ⟨A0, c0, h1, h2⟩ hb => ⟨A0, c0, h1, h2.newN hb⟩, fun _ _ _ h hb => h.new hb, fun _ _ _ h hb => h.new hb, fun _ _ _ h hb => h.new hb, fun _ _ _ h hb => h.new hb, trivial⟩
  · refine ⟨?_, ?_, ?_, ?_, ?_, ?_, ?_, ?_, ?_, ?_, ?_, ?_, ?_, ?_, ?_, ?_, ?_, ?_, ?_, ?_, ?_, ?_, ?_, ?_, ?_, trivial⟩
    · exact fun aa ww hb he hd => ob_plain rfl (fld_clm rfl (by decide) he.1)
    · exact fun aa ww hb he hd => ob_plain rfl (load_c5 rfl hd.1 (Blk.at0 S.out hb))
    · exact fun aa ww hb he hd => ob_plain rfl (gives_rem4 (by have := HOc.out; omega) rfl hd.1)
    · exact fun aa ww hb he hd => ob_plain rfl (gives_conv8 (by omega) rfl hd.1)
    · exact fun aa ww hb he hd => ob_plain rfl (fld_clm rfl (by decide) he.1)
    · exact fun aa ww hb he hd => ob_plain rfl (load_c22 rfl hd.1 (Blk.at1 S.out hb))
    · exact fun aa ww hb he hd => ob_plain rfl (gives_call1 _ _ _ rfl (by kernel_rfl) (by rw [show aa.eval (.tmp 40) = .slice PX kX cX from hd.1]; exact (qs_any kX cX PX NX DX _ ((HPX.out.below hb).more hb.size) HSX.out (by omega)).mono (fun _ _ ⟨A0, c0, h1, h2, h3⟩ => ⟨_, h1, ⟨A0, c0, rfl, by rw [HEX.out]; exact Reads.of_own h2.own⟩, h3⟩)))
    · exact fun aa ww hb he hd => ob_plain rfl (by obtain ⟨A1, c1, q1, q2⟩ := hd.1; exact gives_call1 _ _ _ rfl (by kernel_rfl) (by rw [show aa.eval (.tmp 41) = _ from q1]; exact (Rats_any kX c1 A1 _ _ q2 (fun i _ => (HfX.out i).small (by omega) (by omega) (by omega)) (by omega)).mono (fun _ _ ⟨A0, c0, h1, h2, h3⟩ => ⟨_, h1, ⟨A0, c0, rfl, h2.lower (Nat.zero_le _)⟩, h3⟩)))
    · exact fun aa ww hb he hd => ob_plain rfl (fld_clm rfl (by decide) he.1)
    · exact fun aa ww hb he hd => ob_plain rfl (load_c22 rfl hd.1 (Blk.at2 S.out hb))
    · exact fun aa ww hb he hd => ob_plain rfl (gives_call1 _ _ _ rfl (by kernel_rfl) (by rw [show aa.eval (.tmp 44) = .slice PY kY cY from hd.1]; exact (qs_any kY cY PY NY DY _ ((HPY.out.below hb).more hb.size) HSY.out (by omega)).mono (fun _ _ ⟨A0, c0, h1, h2, h3⟩ => ⟨_, h1, ⟨A0, c0, rfl, by rw [HEY.out]; exact Reads.of_own h2.own⟩, h3⟩)))
    · exact fun aa ww hb he hd => ob_plain rfl (by obtain ⟨A1, c1, q1, q2⟩ := hd.1; exact gives_call1 _ _ _ rfl (by kernel_rfl) (by rw [show aa.eval (.tmp 45) = _ from q1]; exact (Rats_any kY c1 A1 _ _ q2 (fun i _ => (HfY.out i).small (by omega) (by omega) (by omega)) (by omega)).mono (fun _ _ ⟨A0, c0, h1, h2, h3⟩ => ⟨_, h1, ⟨A0, c0, rfl, h2.lower (Nat.zero_le _)⟩, h3⟩)))
    · exact fun aa ww hb he hd => ob_plain rfl (fld_clm rfl (by decide) he.1)
    · exact fun aa ww hb he hd => ob_plain rfl (load_c22 rfl hd.1 (Blk.at3 S.out hb))
    · exact fun aa ww hb he hd => ob_plain rfl (gives_call1 _ _ _ rfl (by kernel_rfl) (by rw [show aa.eval (.tmp 48) = .slice PR kR cR from hd.1]; exact (qs_any kR cR PR NR DR _ ((HPR.out.below hb).more hb.size) HSR.out (by omega)).mono (fun _ _ ⟨A0, c0, h1, h2, h3⟩ => ⟨_, h1, ⟨A0, c0, rfl, by rw [HER.out]; exact Reads.of_own h2.own⟩, h3⟩)))
    · exact fun aa ww hb he hd => ob_plain rfl (by obtain ⟨A1, c1, q1, q2⟩ := hd.1; exact gives_call1 _ _ _ rfl (by kernel_rfl) (by rw [show aa.eval (.tmp 49) = _ from q1]; exact (Rats_any kR c1 A1 _ _ q2 (fun i _ => (HfR.out i).small (by omega) (by omega) (by omega)) (by omega)).mono (fun _ _ ⟨A0, c0, h1, h2, h3⟩ => ⟨_, h1, ⟨A0, c0, rfl, h2.lower (Nat.zero_le _)⟩, h3⟩)))
    · exact fun aa ww hb he hd => ob_plain rfl (fld_clm rfl (by decide) he.1)
    · exact fun aa ww hb he hd => ob_plain rfl (load_sm_at rfl hd.1 (Blk.at4 S.out hb) (Blk.at5 S.out hb))
    · exact fun aa ww hb he hd => ob_plain rfl (gives_call1 _ _ _ rfl (by kernel_rfl) (by rw [show aa.eval (.tmp 52) = .agg #[.int .i8 vN, .int .u8 ((vD : Int))] from hd.1, HEv.out]; exact rv_one (q_any _ _ HSv.out.1 HSv.out.2.1 HSv.out.2.2 _)))
    · exact fun aa ww hb he hd => ob_plain rfl (gives_one_q rfl hd.1)
    · exact fun aa ww hb he hd => ob_plain rfl (by obtain ⟨A1, c1, q1, q2⟩ := hd.1; exact gives_call1 _ _ _ rfl (by kernel_rfl) (by rw [show aa.eval (.tmp 54) = _ from q1]; exact (Rats_any 1 c1 A1 _ _ q2 (fun i _ => HsV.out) (by omega)).mono (fun _ _ ⟨A0, c0, h1, h2, h3⟩ => ⟨_, h1, ⟨A0, c0, rfl, h2.lower (Nat.zero_le _)⟩, h3⟩)))
    · exact fun aa ww hb he hd => ob_plain rfl (idx_pt rfl hd.1)
    · exact fun aa ww hb he hd => ob_plain rfl (load_pt rfl hd.1)
    · exact fun aa ww hb he hd => ob_plain rfl (gives_clm rfl (by rw [HZc.out]; exact hd.1) hd.2.1 hd.2.2.1 hd.2.2.2.1 hd.2.2.2.2.1)
    · exact fun aa ww hb he hd => ⟨by simp [Region.wanted], alloc_sol rfl hb⟩
  intro vs w5 hb hR _
  have r58 := hR 23 (by decide)
  have r7 := hR 24 (by decide)
  clear hR
  simp only [putsL, Nat.zero_add, Nat.reduceAdd, List.take_succ_cons, List.take_zero, Act.put, List.setIfInBounds_toArray, List.set_cons_zero, List.set_cons_succ]
  obtain ⟨g9, e7, hlo, hz9⟩ := r7
  obtain ⟨AX, cX9, AY, cY9, AR, cR9, s9, A0, k0, c0, B0, m0, d0, e58, hX9, hY9, hR9, hV9⟩ := r58
  rw [e7, e58]
  clear e7 e58
  show wpAny _ _ _ _ 1 _ _ _
  refine wpAny_next (i := 25) (by kernel_rfl) rfl rfl (store_sol rfl rfl rfl rfl hz9 (by intro u hu x hx; subst hx; simp at hu) (by simp [Value.oneCell']) (by intro u hu x hx; subst hx; simp at hu) ?_)
  intro w6 kp hg hsz hZ
  have hb4 : Below w4.heap.size w4 w6 := hb.grown hg hb.size (fun x hx => by cases hx; exact hlo)
  have HX := Lib.hid ((hX9.blk hz9 (by decide) hg (Q := PN w6 2 X) (fun _ _ _ hv => PN.keep hv kp)).rs.toW)
  have HYy := Lib.hid ((hY9.blk hz9 (by decide) hg (Q := PN w6 2 Y) (fun _ _ _ hv => PN.keep hv kp)).rs.toW)
  have HRy := Lib.hid ((hR9.blk hz9 (by decide) hg (Q := PN w6 2 R) (fun _ _ _ hv => PN.keep hv kp)).rs.toW)
  have HV := Lib.hid (hV9.keepN kp).rw
  have HZ := Lib.hid hZ
  clear hX9 hY9 hR9 hV9 hz9 hlo kp hg hsz hZ hb
  replace HPX := Lib.hid ((HPX.out.below hb4).more (Below.size hb4))
  replace HPY := Lib.hid ((HPY.out.below hb4).more (Below.size hb4))
  replace HPR := Lib.hid ((HPR.out.below hb4).more (Below.size hb4))
  replace HPg := Lib.hid (HPg.out.new hb4)
  replace HB := Lib.hid (bthen HB.out hb4 HB.out.size)
  replace T := Lib.hid (T.out.keep hb4)
  replace S := Lib.hid (S.out.keep hb4)
  replace HP := Lib.hid (HP.out.new hb4)
  replace HQ := Lib.hid (HQ.out.new hb4)
  replace HY := Lib.hid (HY.out.keep hb4)
  replace HR := Lib.hid (HR.out.keep hb4)
  clear hb4
  refine wpAny_end (by kernel_rfl) (calm_normal ?_) _
  go_upto_region 5 with (fail)
  by_cases hv : m = k ∧ ∀ i, i < m → ln i = n
  rotate_left
  · have HBad := Lib.hid hv; clear hv
    refine wp_region_each (kss := [[], [(0, 59)], [(1, 60)], [(2, 61)], [(2, 61)], [(2, 61), (4, 63)], [(2, 61)], [(2, 61), (6, 65)], [(2, 61), (7, 66)], [(2, 61)], [(2, 61), (9, 68)], [(2, 61), (10, 69)], [(2, 61)], [(2, 61), (12, 71)], [(2, 61), (13, 72)], [(2, 61)], [(2, 61), (15, 74)], [(2, 61), (16, 75)], [(2, 61), (3, 62), (5, 64), (8, 67), (11, 70), (14, 73), (17, 76)], [(2, 61), (18, 77)], [(19, 78)]]) [(6, .pointer (some ⟨g8, 0, none⟩)), (7, .pointer (some ⟨g9, 0, none⟩)), (3, .pointer (some ⟨g5, 0, none⟩))] [EV (.agg #[.slice QC n qc, .slice QA m qa, .slice QB k qb]), EV (.bool false), EV (.bool false), UD, UD, UD, UD, UD, UD, UD, UD, UD, UD, UD, UD, UD, UD, UD, UD, EV (.bool false), EV (.bool false)] (by kernel_rfl) (by kernel_rfl) ⟨rfl, rfl, rfl, trivial⟩ ?_ ?_ ?_
    · exact ⟨sI, sI, sI, sI, sI, sI, sI, sI, sI, sI, sI, sI, sI, sI, sI, sI, sI, sI, sI, sI, sI, trivial⟩
    · refine ⟨?_, ?_, ?_, ?_, ?_, ?_, ?_, ?_, ?_, ?_, ?_, ?_, ?_, ?_, ?_, ?_, ?_, ?_, ?_, ?_, ?_, trivial⟩
      · exact fun aa ww hb he hd => ob_plain rfl (load_rpb rfl he.1 (Blk.keep HR.out hb))
      · exact fun aa ww hb he hd => ob_plain rfl (gives_call1 _ _ _ rfl (by kernel_rfl) (by rw [show aa.eval (.tmp 59) = .agg #[.slice QC n qc, .slice QA m qa, .slice QB k qb] from hd.1]; exact ret_t (rvalid_any n m k qc qa qb QC QA QB Qr ln qp A C B _ (HQ.out.new hb) (by omega)) (f_iff HBad.out)))
      · exact fun _ _ _ he hd => ob_mv rfl rfl hd.1
      iterate 16 exact fun aa ww hb he hd => ob_off 61 rfl (by kernel_rfl) hd.1 rfl
      · exact fun aa ww hb he hd => ob_plain rfl (gives_pick false _ _ _ rfl hd.1 ⟨rfl, Below.refl _ _⟩)
      · exact fun aa ww hb he hd => ob_plain rfl (gives_assign _ rfl ⟨hd.1, Below.refl _ _⟩)
    intro vs w7 hb hR
    have e8 : vs 20 = .bool false := hR 20 (by decide)
    clear hR
    simp only [putsL, Nat.zero_add, Nat.reduceAdd, List.take_succ_cons, List.take_zero, Act.put, List.setIfInBounds_toArray, List.set_cons_zero, List.set_cons_succ]
    rw [e8]
    clear e8
    replace HPX := Lib.hid ((HPX.out.below hb).more (Below.size hb))
    replace HPY := Lib.hid ((HPY.out.below hb).more (Below.size hb))
    replace HPR := Lib.hid ((HPR.out.below hb).more (Below.size hb))
    replace HPg := Lib.hid (HPg.out.new hb)
    replace HB := Lib.hid (bthen HB.out hb HB.out.size)
    replace T := Lib.hid (T.out.keep hb)
    replace S := Lib.hid (S.out.keep hb)
    replace HP := Lib.hid (HP.out.new hb)
    replace HQ := Lib.hid (HQ.out.new hb)
    replace HY := Lib.hid (HY.out.keep hb)
    replace HR := Lib.hid (HR.out.keep hb)
    replace HX := Lib.hid (Rs.newW HX.out hb)
    replace HYy := Lib.hid (Rs.newW HYy.out hb)
    replace HRy := Lib.hid (Rs.newW HRy.out hb)
    replace HV := Lib.hid (HV.out.new hb)
    replace HZ := Lib.hid (HZ.out.keep hb)
    clear hb
    have y0 := Blk.at0 HY.out (Below.refl _ _); have y1 := Blk.at1 HY.out (Below.refl _ _); have y2 := Blk.at2 HY.out (Below.refl _ _)
    go_upto_region 6 with (fail)
    clear y0 y1 y2
    refine wp_region_seq (kss := [[], [], [(0, 79), (1, 80)], [], [(2, 81), (3, 82)], [(4, 83)], [(5, 84)], [(5, 84), (6, 85)], [(7, 86)]]) [(5, .pointer (some ⟨g7, 0, none⟩)), (7, .pointer (some ⟨g9, 0, none⟩)), (8, .bool false)] [EV (.agg #[.slice YC n yc, .slice YA m ya, .slice YB k yb]), EV (.agg #[.int .i64 (zc : Int), .slice AX kX cX9, .slice AY kY cY9, .slice AR kR cR9, .bool s9, .slice A0 k0 c0, .slice B0 m0 d0]), EV (.bool false), EV (.bool false), EV (.bool true), EV (.bool true), EV (.bool true), EV (.bool true), EV (.bool true)] (by kernel_rfl) ⟨rfl, rfl, rfl, trivial⟩ ?_ ?_ ?_
    · exact ⟨sI, sI, sI, sI, sI, sI, sI, sI, sI, trivial⟩
    · refine ⟨?_, ?_, ?_, ?_, ?_, ?_, ?_, ?_, ?_, trivial⟩
      · exact fun aa ww hb he hd => ob_plain rfl (load_prb rfl he.1 (Blk.keep HY.out hb))
      · exact fun aa ww hb he hd => ob_plain rfl (load_sol rfl he.2.1 (Blk.keep HZ.out hb))
      · exact fun aa ww hb he hd => ob_plain rfl (gives_call2 _ _ _ _ rfl (by kernel_rfl) (by rw [show aa.eval (.tmp 79) = .agg #[.slice YC n yc, .slice YA m ya, .slice YB k yb] from hd.1, show aa.eval (.tmp 80) = .agg #[.int .i64 (zc : Int), .slice AX kX cX9, .slice AY kY cY9, .slice AR kR cR9, .bool s9, .slice A0 k0 c0, .slice B0 m0 d0] from hd.2.1]; exact ret_t (Check_any n m k kX kY kR yc ya yb cX9 cY9 cR9 2 2 2 2 2 YC YA YB AX AY AR Yr ln yp A C B X Y R (zc : Int) vq s9 A0 B0 k0 c0 m0 d0 _ (HP.out.new hb) (Rs.newW HX.out hb) (Rs.newW HYy.out hb) (Rs.newW HRy.out hb) (Rw.new HV.out hb) (by omega) (by omega) (by omega) (by omega) (by omega) (by omega) (by omega) (by omega) (by omega) (by omega) (by omega)) (f_iff (fun h => HBad.out ⟨h.1, h.2.1⟩))))
      · exact fun _ _ _ he hd => ob_mv rfl rfl he.2.2.1
      · exact fun aa ww hb he hd => ob_plain rfl (gives_eq_bool false false _ _ _ _ rfl Try.underlying4 hd.1 hd.2.1 ⟨congrArg Value.bool (rfl), Below.refl _ _⟩)
      · exact fun _ _ _ he hd => ob_mv rfl rfl hd.1
      · exact fun aa ww hb he hd => ob_on 84 rfl (by kernel_rfl) hd.1 (gives_call0 _ _ rfl (by kernel_rfl) (rv_one (awake_any _)))
      · exact fun aa ww hb he hd => ob_plain rfl (gives_pick true _ _ _ rfl hd.1 ⟨hd.2.1, Below.refl _ _⟩)
      · exact fun aa ww hb he hd => ob_plain rfl (gives_assign _ rfl ⟨hd.1, Below.refl _ _⟩)
    intro vs w8 hb hR
    have e4 : vs 8 = .bool true := hR 8 (by decide)
    clear hR
    simp only [putsL, Nat.zero_add, Nat.reduceAdd, List.take_succ_cons, List.take_zero, Act.put, List.setIfInBounds_toArray, List.set_cons_zero, List.set_cons_succ]
    rw [e4]
    clear e4
    go_wp2_with fail
    go_ret
    exact ⟨rfl, bthen HB.out hb HB.out.size⟩
  obtain ⟨hmk, hl⟩ := hv
  subst hmk
  have HL := Lib.hid hl; clear hl
  have HQf := Lib.hid (HQ.out.flat HL.out)
  by_cases hch : RchP n m A B C (zc : Int) kX kY kR X Y R vq
  · have HCh := Lib.hid hch; clear hch
    refine wp_region_each (kss := [[], [(0, 59)], [(1, 60)], [(2, 61)], [(2, 61)], [(2, 61), (4, 63)], [(2, 61)], [(2, 61), (6, 65)], [(2, 61), (7, 66)], [(2, 61)], [(2, 61), (9, 68)], [(2, 61), (10, 69)], [(2, 61)], [(2, 61), (12, 71)], [(2, 61), (13, 72)], [(2, 61)], [(2, 61), (15, 74)], [(2, 61), (16, 75)], [(2, 61), (3, 62), (5, 64), (8, 67), (11, 70), (14, 73), (17, 76)], [(2, 61), (18, 77)], [(19, 78)]]) [(6, .pointer (some ⟨g8, 0, none⟩)), (7, .pointer (some ⟨g9, 0, none⟩)), (3, .pointer (some ⟨g5, 0, none⟩))] [EV (.agg #[.slice QC n qc, .slice QA m qa, .slice QB m qb]), EV (.bool true), EV (.bool true), EV (.agg #[.slice QC n qc, .slice QA m qa, .slice QB m qb]), EV (.pointer (some ⟨g9, 0, none⟩)), EV (.int .i64 ((zc : Int))), EV (.pointer (some ⟨g5, 1, none⟩)), EV (.slice PX kX cX), fun v w' => ∃ (A0 : Option Addr) (c0 : Nat), v = .slice A0 kX c0 ∧ Reads w' w'.heap.size 2 A0 kX (qsL X kX), EV (.pointer (some ⟨g5, 2, none⟩)), EV (.slice PY kY cY), fun v w' => ∃ (A0 : Option Addr) (c0 : Nat), v = .slice A0 kY c0 ∧ Reads w' w'.heap.size 2 A0 kY (qsL Y kY), EV (.pointer (some ⟨g5, 3, none⟩)), EV (.slice PR kR cR), fun v w' => ∃ (A0 : Option Addr) (c0 : Nat), v = .slice A0 kR c0 ∧ Reads w' w'.heap.size 2 A0 kR (qsL R kR), EV (.pointer (some ⟨g5, 4, none⟩)), EV (.agg #[.int .i8 vN, .int .u8 ((vD : Int))]), EV (QL (vq)), EV (.bool true), EV (.bool true), EV (.bool true)] (by kernel_rfl) (by kernel_rfl) ⟨rfl, rfl, rfl, trivial⟩ ?_ ?_ ?_
    · exact ⟨sI, sI, sI, sI, sI, sI, sI, sI, fun _ _ _ ⟨A0, c0, h1, h2⟩ hb => ⟨A0, c0, h1, (h2.below hb).more hb.size⟩, sI, sI, fun _ _ _ ⟨A0, c0, h1, h2⟩ hb => ⟨A0, c0, h1, (h2.below hb).more hb.size⟩, sI, sI, fun _ _ _ ⟨A0, c0, h1, h2⟩ hb => ⟨A0, c0, h1, (h2.below hb).more hb.size⟩, sI, sI, sI, sI, sI, sI, trivial⟩
    · refine ⟨?_, ?_, ?_, ?_, ?_, ?_, ?_, ?_, ?_, ?_, ?_, ?_, ?_, ?_, ?_, ?_, ?_, ?_, ?_, ?_, ?_, trivial⟩
      · exact fun aa ww hb he hd => ob_plain rfl (load_rpb rfl he.1 (Blk.keep HR.out hb))
      · exact fun aa ww hb he hd => ob_plain rfl (gives_call1 _ _ _ rfl (by kernel_rfl) (by rw [show aa.eval (.tmp 59) = .agg #[.slice QC n qc, .slice QA m qa, .slice QB m qb] from hd.1]; exact ret_t (rvalid_any n m m qc qa qb QC QA QB Qr ln qp A C B _ (HQ.out.new hb) (by omega)) (t_iff ⟨rfl, HL.out⟩)))
      · exact fun _ _ _ he hd => ob_mv rfl rfl hd.1
      · exact fun aa ww hb he hd => ob_on 61 rfl (by kernel_rfl) hd.1 (load_rpb rfl he.1 (Blk.keep HR.out hb))
      · exact fun aa ww hb he hd => ob_on 61 rfl (by kernel_rfl) hd.1 (fld_sol rfl (by decide) he.2.1)
      · exact fun aa ww hb he hd => ob_on 61 rfl (by kernel_rfl) hd.1 (load_c3 rfl hd.2.1 (Blk.at0 HZ.out hb))
      · exact fun aa ww hb he hd => ob_on 61 rfl (by kernel_rfl) hd.1 (fld_clm rfl (by decide) he.2.2.1)
      · exact fun aa ww hb he hd => ob_on 61 rfl (by kernel_rfl) hd.1 (load_c22 rfl hd.2.1 (Blk.at1 S.out hb))
      · exact fun aa ww hb he hd => ob_on 61 rfl (by kernel_rfl) hd.1 (gives_call1 _ _ _ rfl (by kernel_rfl) (by rw [show aa.eval (.tmp 66) = .slice PX kX cX from hd.2.1]; exact (qs_any kX cX PX NX DX _ ((HPX.out.below hb).more hb.size) HSX.out (by omega)).mono (fun _ _ ⟨A0, c0, h1, h2, h3⟩ => ⟨_, h1, ⟨A0, c0, rfl, by rw [HEX.out]; exact Reads.of_own h2.own⟩, h3⟩)))
      · exact fun aa ww hb he hd => ob_on 61 rfl (by kernel_rfl) hd.1 (fld_clm rfl (by decide) he.2.2.1)
      · exact fun aa ww hb he hd => ob_on 61 rfl (by kernel_rfl) hd.1 (load_c22 rfl hd.2.1 (Blk.at2 S.out hb))
      · exact fun aa ww hb he hd => ob_on 61 rfl (by kernel_rfl) hd.1 (gives_call1 _ _ _ rfl (by kernel_rfl) (by rw [show aa.eval (.tmp 69) = .slice PY kY cY from hd.2.1]; exact (qs_any kY cY PY NY DY _ ((HPY.out.below hb).more hb.size) HSY.out (by omega)).mono (fun _ _ ⟨A0, c0, h1, h2, h3⟩ => ⟨_, h1, ⟨A0, c0, rfl, by rw [HEY.out]; exact Reads.of_own h2.own⟩, h3⟩)))
      · exact fun aa ww hb he hd => ob_on 61 rfl (by kernel_rfl) hd.1 (fld_clm rfl (by decide) he.2.2.1)
      · exact fun aa ww hb he hd => ob_on 61 rfl (by kernel_rfl) hd.1 (load_c22 rfl hd.2.1 (Blk.at3 S.out hb))
      · exact fun aa ww hb he hd => ob_on 61 rfl (by kernel_rfl) hd.1 (gives_call1 _ _ _ rfl (by kernel_rfl) (by rw [show aa.eval (.tmp 72) = .slice PR kR cR from hd.2.1]; exact (qs_any kR cR PR NR DR _ ((HPR.out.below hb).more hb.size) HSR.out (by omega)).mono (fun _ _ ⟨A0, c0, h1, h2, h3⟩ => ⟨_, h1, ⟨A0, c0, rfl, by rw [HER.out]; exact Reads.of_own h2.own⟩, h3⟩)))
      · exact fun aa ww hb he hd => ob_on 61 rfl (by kernel_rfl) hd.1 (fld_clm rfl (by decide) he.2.2.1)
      · exact fun aa ww hb he hd => ob_on 61 rfl (by kernel_rfl) hd.1 (load_sm_at rfl hd.2.1 (Blk.at4 S.out hb) (Blk.at5 S.out hb))
      · exact fun aa ww hb he hd => ob_on 61 rfl (by kernel_rfl) hd.1 (gives_call1 _ _ _ rfl (by kernel_rfl) (by rw [show aa.eval (.tmp 75) = .agg #[.int .i8 vN, .int .u8 ((vD : Int))] from hd.2.1, HEv.out]; exact rv_one (q_any _ _ HSv.out.1 HSv.out.2.1 HSv.out.2.2 _)))
      · exact fun aa ww hb he hd => ob_on 61 rfl (by kernel_rfl) hd.1 (by obtain ⟨A1, c1, q1, r1⟩ := hd.2.2.2.1; obtain ⟨A2, c2, q2, r2⟩ := hd.2.2.2.2.1; obtain ⟨A3, c3, q3, r3⟩ := hd.2.2.2.2.2.1; exact gives_call6 _ _ _ _ _ _ _ _ rfl (by kernel_rfl) (by rw [show aa.eval (.tmp 62) = .agg #[.slice QC n qc, .slice QA m qa, .slice QB m qb] from hd.2.1, show aa.eval (.tmp 64) = .int .i64 ((zc : Int)) from hd.2.2.1, show aa.eval (.tmp 67) = _ from q1, show aa.eval (.tmp 70) = _ from q2, show aa.eval (.tmp 73) = _ from q3, show aa.eval (.tmp 76) = QL vq from hd.2.2.2.2.2.2.1]; exact ret_t (rcheck_any n m kX kY kR qc qa qb c1 c2 c3 QC QA QB A1 A2 A3 Qr qp A C B X Y R (zc : Int) vq _ (HQf.out.new hb) r1 r2 r3 HsV.out HfA.out HfB.out HfC.out HfX.out HfY.out HfR.out (by omega) (by omega) (by omega) (by omega) (by omega)) (t_iff HCh.out)))
      · exact fun aa ww hb he hd => ob_plain rfl (gives_pick true _ _ _ rfl hd.1 ⟨hd.2.1, Below.refl _ _⟩)
      · exact fun aa ww hb he hd => ob_plain rfl (gives_assign _ rfl ⟨hd.1, Below.refl _ _⟩)
    intro vs w7 hb hR
    have e8 : vs 20 = .bool true := hR 20 (by decide)
    clear hR
    simp only [putsL, Nat.zero_add, Nat.reduceAdd, List.take_succ_cons, List.take_zero, Act.put, List.setIfInBounds_toArray, List.set_cons_zero, List.set_cons_succ]
    rw [e8]
    clear e8
    replace HPX := Lib.hid ((HPX.out.below hb).more (Below.size hb))
    replace HPY := Lib.hid ((HPY.out.below hb).more (Below.size hb))
    replace HPR := Lib.hid ((HPR.out.below hb).more (Below.size hb))
    replace HPg := Lib.hid (HPg.out.new hb)
    replace HB := Lib.hid (bthen HB.out hb HB.out.size)
    replace T := Lib.hid (T.out.keep hb)
    replace S := Lib.hid (S.out.keep hb)
    replace HP := Lib.hid (HP.out.new hb)
    replace HQ := Lib.hid (HQ.out.new hb)
    replace HY := Lib.hid (HY.out.keep hb)
    replace HR := Lib.hid (HR.out.keep hb)
    replace HX := Lib.hid (Rs.newW HX.out hb)
    replace HYy := Lib.hid (Rs.newW HYy.out hb)
    replace HRy := Lib.hid (Rs.newW HRy.out hb)
    replace HV := Lib.hid (HV.out.new hb)
    replace HZ := Lib.hid (HZ.out.keep hb)
    replace HQf := Lib.hid (HQf.out.new hb)
    clear hb
    have y0 := Blk.at0 HY.out (Below.refl _ _); have y1 := Blk.at1 HY.out (Below.refl _ _); have y2 := Blk.at2 HY.out (Below.refl _ _)
    go_upto_region 6 with (fail)
    clear y0 y1 y2
    refine wp_region_seq (kss := [[], [], [(0, 79), (1, 80)], [], [(2, 81), (3, 82)], [(4, 83)], [(5, 84)], [(5, 84), (6, 85)], [(7, 86)]]) [(5, .pointer (some ⟨g7, 0, none⟩)), (7, .pointer (some ⟨g9, 0, none⟩)), (8, .bool true)] [EV (.agg #[.slice YC n yc, .slice YA m ya, .slice YB m yb]), EV (.agg #[.int .i64 (zc : Int), .slice AX kX cX9, .slice AY kY cY9, .slice AR kR cR9, .bool s9, .slice A0 k0 c0, .slice B0 m0 d0]), EV (.bool true), EV (.bool true), EV (.bool true), EV (.bool true), EV (.bool true), EV (.bool true), EV (.bool true)] (by kernel_rfl) ⟨rfl, rfl, rfl, trivial⟩ ?_ ?_ ?_
    · exact ⟨sI, sI, sI, sI, sI, sI, sI, sI, sI, trivial⟩
    · refine ⟨?_, ?_, ?_, ?_, ?_, ?_, ?_, ?_, ?_, trivial⟩
      · exact fun aa ww hb he hd => ob_plain rfl (load_prb rfl he.1 (Blk.keep HY.out hb))
      · exact fun aa ww hb he hd => ob_plain rfl (load_sol rfl he.2.1 (Blk.keep HZ.out hb))
      · exact fun aa ww hb he hd => ob_plain rfl (gives_call2 _ _ _ _ rfl (by kernel_rfl) (by rw [show aa.eval (.tmp 79) = .agg #[.slice YC n yc, .slice YA m ya, .slice YB m yb] from hd.1, show aa.eval (.tmp 80) = .agg #[.int .i64 (zc : Int), .slice AX kX cX9, .slice AY kY cY9, .slice AR kR cR9, .bool s9, .slice A0 k0 c0, .slice B0 m0 d0] from hd.2.1]; exact ret_t (Check_any n m m kX kY kR yc ya yb cX9 cY9 cR9 2 2 2 2 2 YC YA YB AX AY AR Yr ln yp A C B X Y R (zc : Int) vq s9 A0 B0 k0 c0 m0 d0 _ (HP.out.new hb) (Rs.newW HX.out hb) (Rs.newW HYy.out hb) (Rs.newW HRy.out hb) (Rw.new HV.out hb) (by omega) (by omega) (by omega) (by omega) (by omega) (by omega) (by omega) (by omega) (by omega) (by omega) (by omega)) (t_iff ⟨rfl, HL.out, HCh.out⟩)))
      · exact fun _ _ _ he hd => ob_mv rfl rfl he.2.2.1
      · exact fun aa ww hb he hd => ob_plain rfl (gives_eq_bool true true _ _ _ _ rfl Try.underlying4 hd.1 hd.2.1 ⟨congrArg Value.bool (rfl), Below.refl _ _⟩)
      · exact fun _ _ _ he hd => ob_mv rfl rfl hd.1
      · exact fun aa ww hb he hd => ob_on 84 rfl (by kernel_rfl) hd.1 (gives_call0 _ _ rfl (by kernel_rfl) (rv_one (awake_any _)))
      · exact fun aa ww hb he hd => ob_plain rfl (gives_pick true _ _ _ rfl hd.1 ⟨hd.2.1, Below.refl _ _⟩)
      · exact fun aa ww hb he hd => ob_plain rfl (gives_assign _ rfl ⟨hd.1, Below.refl _ _⟩)
    intro vs w8 hb hR
    have e4 : vs 8 = .bool true := hR 8 (by decide)
    clear hR
    simp only [putsL, Nat.zero_add, Nat.reduceAdd, List.take_succ_cons, List.take_zero, Act.put, List.setIfInBounds_toArray, List.set_cons_zero, List.set_cons_succ]
    rw [e4]
    clear e4
    go_wp2_with fail
    go_ret
    exact ⟨rfl, bthen HB.out hb HB.out.size⟩
  · have HCh := Lib.hid hch; clear hch
    refine wp_region_each (kss := [[], [(0, 59)], [(1, 60)], [(2, 61)], [(2, 61)], [(2, 61), (4, 63)], [(2, 61)], [(2, 61), (6, 65)], [(2, 61), (7, 66)], [(2, 61)], [(2, 61), (9, 68)], [(2, 61), (10, 69)], [(2, 61)], [(2, 61), (12, 71)], [(2, 61), (13, 72)], [(2, 61)], [(2, 61), (15, 74)], [(2, 61), (16, 75)], [(2, 61), (3, 62), (5, 64), (8, 67), (11, 70), (14, 73), (17, 76)], [(2, 61), (18, 77)], [(19, 78)]]) [(6, .pointer (some ⟨g8, 0, none⟩)), (7, .pointer (some ⟨g9, 0, none⟩)), (3, .pointer (some ⟨g5, 0, none⟩))] [EV (.agg #[.slice QC n qc, .slice QA m qa, .slice QB m qb]), EV (.bool true), EV (.bool true), EV (.agg #[.slice QC n qc, .slice QA m qa, .slice QB m qb]), EV (.pointer (some ⟨g9, 0, none⟩)), EV (.int .i64 ((zc : Int))), EV (.pointer (some ⟨g5, 1, none⟩)), EV (.slice PX kX cX), fun v w' => ∃ (A0 : Option Addr) (c0 : Nat), v = .slice A0 kX c0 ∧ Reads w' w'.heap.size 2 A0 kX (qsL X kX), EV (.pointer (some ⟨g5, 2, none⟩)), EV (.slice PY kY cY), fun v w' => ∃ (A0 : Option Addr) (c0 : Nat), v = .slice A0 kY c0 ∧ Reads w' w'.heap.size 2 A0 kY (qsL Y kY), EV (.pointer (some ⟨g5, 3, none⟩)), EV (.slice PR kR cR), fun v w' => ∃ (A0 : Option Addr) (c0 : Nat), v = .slice A0 kR c0 ∧ Reads w' w'.heap.size 2 A0 kR (qsL R kR), EV (.pointer (some ⟨g5, 4, none⟩)), EV (.agg #[.int .i8 vN, .int .u8 ((vD : Int))]), EV (QL (vq)), EV (.bool false), EV (.bool false), EV (.bool false)] (by kernel_rfl) (by kernel_rfl) ⟨rfl, rfl, rfl, trivial⟩ ?_ ?_ ?_
    · exact ⟨sI, sI, sI, sI, sI, sI, sI, sI, fun _ _ _ ⟨A0, c0, h1, h2⟩ hb => ⟨A0, c0, h1, (h2.below hb).more hb.size⟩, sI, sI, fun _ _ _ ⟨A0, c0, h1, h2⟩ hb => ⟨A0, c0, h1, (h2.below hb).more hb.size⟩, sI, sI, fun _ _ _ ⟨A0, c0, h1, h2⟩ hb => ⟨A0, c0, h1, (h2.below hb).more hb.size⟩, sI, sI, sI, sI, sI, sI, trivial⟩
    · refine ⟨?_, ?_, ?_, ?_, ?_, ?_, ?_, ?_, ?_, ?_, ?_, ?_, ?_, ?_, ?_, ?_, ?_, ?_, ?_, ?_, ?_, trivial⟩
      · exact fun aa ww hb he hd => ob_plain rfl (load_rpb rfl he.1 (Blk.keep HR.out hb))
      · exact fun aa ww hb he hd => ob_plain rfl (gives_call1 _ _ _ rfl (by kernel_rfl) (by rw [show aa.eval (.tmp 59) = .agg #[.slice QC n qc, .slice QA m qa, .slice QB m qb] from hd.1]; exact ret_t (rvalid_any n m m qc qa qb QC QA QB Qr ln qp A C B _ (HQ.out.new hb) (by omega)) (t_iff ⟨rfl, HL.out⟩)))
      · exact fun _ _ _ he hd => ob_mv rfl rfl hd.1
      · exact fun aa ww hb he hd => ob_on 61 rfl (by kernel_rfl) hd.1 (load_rpb rfl he.1 (Blk.keep HR.out hb))
      · exact fun aa ww hb he hd => ob_on 61 rfl (by kernel_rfl) hd.1 (fld_sol rfl (by decide) he.2.1)
      · exact fun aa ww hb he hd => ob_on 61 rfl (by kernel_rfl) hd.1 (load_c3 rfl hd.2.1 (Blk.at0 HZ.out hb))
      · exact fun aa ww hb he hd => ob_on 61 rfl (by kernel_rfl) hd.1 (fld_clm rfl (by decide) he.2.2.1)
      · exact fun aa ww hb he hd => ob_on 61 rfl (by kernel_rfl) hd.1 (load_c22 rfl hd.2.1 (Blk.at1 S.out hb))
      · exact fun aa ww hb he hd => ob_on 61 rfl (by kernel_rfl) hd.1 (gives_call1 _ _ _ rfl (by kernel_rfl) (by rw [show aa.eval (.tmp 66) = .slice PX kX cX from hd.2.1]; exact (qs_any kX cX PX NX DX _ ((HPX.out.below hb).more hb.size) HSX.out (by omega)).mono (fun _ _ ⟨A0, c0, h1, h2, h3⟩ => ⟨_, h1, ⟨A0, c0, rfl, by rw [HEX.out]; exact Reads.of_own h2.own⟩, h3⟩)))
      · exact fun aa ww hb he hd => ob_on 61 rfl (by kernel_rfl) hd.1 (fld_clm rfl (by decide) he.2.2.1)
      · exact fun aa ww hb he hd => ob_on 61 rfl (by kernel_rfl) hd.1 (load_c22 rfl hd.2.1 (Blk.at2 S.out hb))
      · exact fun aa ww hb he hd => ob_on 61 rfl (by kernel_rfl) hd.1 (gives_call1 _ _ _ rfl (by kernel_rfl) (by rw [show aa.eval (.tmp 69) = .slice PY kY cY from hd.2.1]; exact (qs_any kY cY PY NY DY _ ((HPY.out.below hb).more hb.size) HSY.out (by omega)).mono (fun _ _ ⟨A0, c0, h1, h2, h3⟩ => ⟨_, h1, ⟨A0, c0, rfl, by rw [HEY.out]; exact Reads.of_own h2.own⟩, h3⟩)))
      · exact fun aa ww hb he hd => ob_on 61 rfl (by kernel_rfl) hd.1 (fld_clm rfl (by decide) he.2.2.1)
      · exact fun aa ww hb he hd => ob_on 61 rfl (by kernel_rfl) hd.1 (load_c22 rfl hd.2.1 (Blk.at3 S.out hb))
      · exact fun aa ww hb he hd => ob_on 61 rfl (by kernel_rfl) hd.1 (gives_call1 _ _ _ rfl (by kernel_rfl) (by rw [show aa.eval (.tmp 72) = .slice PR kR cR from hd.2.1]; exact (qs_any kR cR PR NR DR _ ((HPR.out.below hb).more hb.size) HSR.out (by omega)).mono (fun _ _ ⟨A0, c0, h1, h2, h3⟩ => ⟨_, h1, ⟨A0, c0, rfl, by rw [HER.out]; exact Reads.of_own h2.own⟩, h3⟩)))
      · exact fun aa ww hb he hd => ob_on 61 rfl (by kernel_rfl) hd.1 (fld_clm rfl (by decide) he.2.2.1)
      · exact fun aa ww hb he hd => ob_on 61 rfl (by kernel_rfl) hd.1 (load_sm_at rfl hd.2.1 (Blk.at4 S.out hb) (Blk.at5 S.out hb))
      · exact fun aa ww hb he hd => ob_on 61 rfl (by kernel_rfl) hd.1 (gives_call1 _ _ _ rfl (by kernel_rfl) (by rw [show aa.eval (.tmp 75) = .agg #[.int .i8 vN, .int .u8 ((vD : Int))] from hd.2.1, HEv.out]; exact rv_one (q_any _ _ HSv.out.1 HSv.out.2.1 HSv.out.2.2 _)))
      · exact fun aa ww hb he hd => ob_on 61 rfl (by kernel_rfl) hd.1 (by obtain ⟨A1, c1, q1, r1⟩ := hd.2.2.2.1; obtain ⟨A2, c2, q2, r2⟩ := hd.2.2.2.2.1; obtain ⟨A3, c3, q3, r3⟩ := hd.2.2.2.2.2.1; exact gives_call6 _ _ _ _ _ _ _ _ rfl (by kernel_rfl) (by rw [show aa.eval (.tmp 62) = .agg #[.slice QC n qc, .slice QA m qa, .slice QB m qb] from hd.2.1, show aa.eval (.tmp 64) = .int .i64 ((zc : Int)) from hd.2.2.1, show aa.eval (.tmp 67) = _ from q1, show aa.eval (.tmp 70) = _ from q2, show aa.eval (.tmp 73) = _ from q3, show aa.eval (.tmp 76) = QL vq from hd.2.2.2.2.2.2.1]; exact ret_t (rcheck_any n m kX kY kR qc qa qb c1 c2 c3 QC QA QB A1 A2 A3 Qr qp A C B X Y R (zc : Int) vq _ (HQf.out.new hb) r1 r2 r3 HsV.out HfA.out HfB.out HfC.out HfX.out HfY.out HfR.out (by omega) (by omega) (by omega) (by omega) (by omega)) (f_iff HCh.out)))
      · exact fun aa ww hb he hd => ob_plain rfl (gives_pick true _ _ _ rfl hd.1 ⟨hd.2.1, Below.refl _ _⟩)
      · exact fun aa ww hb he hd => ob_plain rfl (gives_assign _ rfl ⟨hd.1, Below.refl _ _⟩)
    intro vs w7 hb hR
    have e8 : vs 20 = .bool false := hR 20 (by decide)
    clear hR
    simp only [putsL, Nat.zero_add, Nat.reduceAdd, List.take_succ_cons, List.take_zero, Act.put, List.setIfInBounds_toArray, List.set_cons_zero, List.set_cons_succ]
    rw [e8]
    clear e8
    replace HPX := Lib.hid ((HPX.out.below hb).more (Below.size hb))
    replace HPY := Lib.hid ((HPY.out.below hb).more (Below.size hb))
    replace HPR := Lib.hid ((HPR.out.below hb).more (Below.size hb))
    replace HPg := Lib.hid (HPg.out.new hb)
    replace HB := Lib.hid (bthen HB.out hb HB.out.size)
    replace T := Lib.hid (T.out.keep hb)
    replace S := Lib.hid (S.out.keep hb)
    replace HP := Lib.hid (HP.out.new hb)
    replace HQ := Lib.hid (HQ.out.new hb)
    replace HY := Lib.hid (HY.out.keep hb)
    replace HR := Lib.hid (HR.out.keep hb)
    replace HX := Lib.hid (Rs.newW HX.out hb)
    replace HYy := Lib.hid (Rs.newW HYy.out hb)
    replace HRy := Lib.hid (Rs.newW HRy.out hb)
    replace HV := Lib.hid (HV.out.new hb)
    replace HZ := Lib.hid (HZ.out.keep hb)
    replace HQf := Lib.hid (HQf.out.new hb)
    clear hb
    have y0 := Blk.at0 HY.out (Below.refl _ _); have y1 := Blk.at1 HY.out (Below.refl _ _); have y2 := Blk.at2 HY.out (Below.refl _ _)
    go_upto_region 6 with (fail)
    clear y0 y1 y2
    refine wp_region_seq (kss := [[], [], [(0, 79), (1, 80)], [], [(2, 81), (3, 82)], [(4, 83)], [(5, 84)], [(5, 84), (6, 85)], [(7, 86)]]) [(5, .pointer (some ⟨g7, 0, none⟩)), (7, .pointer (some ⟨g9, 0, none⟩)), (8, .bool false)] [EV (.agg #[.slice YC n yc, .slice YA m ya, .slice YB m yb]), EV (.agg #[.int .i64 (zc : Int), .slice AX kX cX9, .slice AY kY cY9, .slice AR kR cR9, .bool s9, .slice A0 k0 c0, .slice B0 m0 d0]), EV (.bool false), EV (.bool false), EV (.bool true), EV (.bool true), EV (.bool true), EV (.bool true), EV (.bool true)] (by kernel_rfl) ⟨rfl, rfl, rfl, trivial⟩ ?_ ?_ ?_
    · exact ⟨sI, sI, sI, sI, sI, sI, sI, sI, sI, trivial⟩
    · refine ⟨?_, ?_, ?_, ?_, ?_, ?_, ?_, ?_, ?_, trivial⟩
      · exact fun aa ww hb he hd => ob_plain rfl (load_prb rfl he.1 (Blk.keep HY.out hb))
      · exact fun aa ww hb he hd => ob_plain rfl (load_sol rfl he.2.1 (Blk.keep HZ.out hb))
      · exact fun aa ww hb he hd => ob_plain rfl (gives_call2 _ _ _ _ rfl (by kernel_rfl) (by rw [show aa.eval (.tmp 79) = .agg #[.slice YC n yc, .slice YA m ya, .slice YB m yb] from hd.1, show aa.eval (.tmp 80) = .agg #[.int .i64 (zc : Int), .slice AX kX cX9, .slice AY kY cY9, .slice AR kR cR9, .bool s9, .slice A0 k0 c0, .slice B0 m0 d0] from hd.2.1]; exact ret_t (Check_any n m m kX kY kR yc ya yb cX9 cY9 cR9 2 2 2 2 2 YC YA YB AX AY AR Yr ln yp A C B X Y R (zc : Int) vq s9 A0 B0 k0 c0 m0 d0 _ (HP.out.new hb) (Rs.newW HX.out hb) (Rs.newW HYy.out hb) (Rs.newW HRy.out hb) (Rw.new HV.out hb) (by omega) (by omega) (by omega) (by omega) (by omega) (by omega) (by omega) (by omega) (by omega) (by omega) (by omega)) (f_iff (fun h => HCh.out h.2.2))))
      · exact fun _ _ _ he hd => ob_mv rfl rfl he.2.2.1
      · exact fun aa ww hb he hd => ob_plain rfl (gives_eq_bool false false _ _ _ _ rfl Try.underlying4 hd.1 hd.2.1 ⟨congrArg Value.bool (rfl), Below.refl _ _⟩)
      · exact fun _ _ _ he hd => ob_mv rfl rfl hd.1
      · exact fun aa ww hb he hd => ob_on 84 rfl (by kernel_rfl) hd.1 (gives_call0 _ _ rfl (by kernel_rfl) (rv_one (awake_any _)))
      · exact fun aa ww hb he hd => ob_plain rfl (gives_pick true _ _ _ rfl hd.1 ⟨hd.2.1, Below.refl _ _⟩)
      · exact fun aa ww hb he hd => ob_plain rfl (gives_assign _ rfl ⟨hd.1, Below.refl _ _⟩)
    intro vs w8 hb hR
    have e4 : vs 8 = .bool true := hR 8 (by decide)
    clear hR
    simp only [putsL, Nat.zero_add, Nat.reduceAdd, List.take_succ_cons, List.take_zero, Act.put, List.setIfInBounds_toArray, List.set_cons_zero, List.set_cons_succ]
    rw [e4]
    clear e4
    go_wp2_with fail
    go_ret
    exact ⟨rfl, bthen HB.out hb HB.out.size⟩
end Go.Proofs.Ytamcibmjpmibdaa
