/-
  Operations of regions that draw their order: what each kind yields.
-/
import Derived.Test.YtifnbpkcnkfanaaReg
namespace Go.Proofs.Ytifnbpkcnkfanaa
open Go.RowKit

section
variable {P : Program} {ops : Array Oper} {o : Oper} {a : Act} {w : World} {K : Value → World → Prop} {E : Prop}

theorem ob_plain {G : Prop} (hg : o.guard = none) (h : G) : if Region.wanted o (yielded ops a.tmps) = true then G else E := by
  rw [if_pos (by simp [Region.wanted, hg])]; exact h
theorem yielded_tv {g : Nat} {t : Tmp} {b : Bool} (ht : dstOf ops g = some t) (hv : tv a t = .bool b) : yielded ops a.tmps g = some b := by
  unfold yielded
  simp only [dstOf] at ht
  rw [ht]
  simp only [tv, Array.getD_eq_getD_getElem?] at hv
  cases h : a.tmps[t]? with
  | none => rw [h] at hv; simp [undef] at hv
  | some x => rw [h] at hv; simp at hv; subst hv; simp [h]
theorem ob_on {G : Prop} {g : Nat} {want : Bool} (t : Tmp) (hg : o.guard = some (g, want)) (ht : dstOf ops g = some t) (hv : tv a t = .bool want) (h : G) : if Region.wanted o (yielded ops a.tmps) = true then G else E := by
  rw [if_pos (by simp [Region.wanted, hg, yielded_tv ht hv])]; exact h
theorem ob_off {G : Prop} {g : Nat} {want : Bool} (t : Tmp) (hg : o.guard = some (g, want)) (ht : dstOf ops g = some t) (hv : tv a t = .bool (!want)) (h : E) : if Region.wanted o (yielded ops a.tmps) = true then G else E := by
  rw [if_neg (by simp [Region.wanted, hg, yielded_tv ht hv])]; exact h

theorem gives_val {ρ : Operand → Value} (v : Value) (h : (execOp ρ o).run P w = .ok (.value v) w) (hK : K v w) : gives P o ρ w K := by
  unfold gives; rw [h]; exact hK
theorem gives_move (x : Operand) (ho : o.op = .move x) (hK : K (a.eval x) w) : gives P o a.eval w K :=
  gives_val _ (by unfold execOp; rw [ho]; rfl) hK
theorem gives_assign (x : Operand) (ho : o.op = .assign x) (hK : K (a.eval x) w) : gives P o a.eval w K :=
  gives_val _ (by unfold execOp; rw [ho]; rfl) hK
theorem gives_pick (b : Bool) (c x y : Operand) (ho : o.op = .pick c x y) (hc : a.eval c = .bool b) (hK : K (if b then a.eval x else a.eval y) w) : gives P o a.eval w K :=
  gives_val _ (by unfold execOp; rw [ho]; simp [hc, asBool]) hK
theorem gives_not (b : Bool) (t : TypeId) (x : Operand) (ho : o.op = .unOp .not t x) (hc : a.eval x = .bool b) (hK : K (.bool (!b)) w) : gives P o a.eval w K :=
  gives_val _ (by unfold execOp; rw [ho]; simp [hc, Op.unary]) hK
theorem gives_eq_int (i j : Int) (k : IntKind) (t t2 : TypeId) (x y : Operand) (ho : o.op = .binOp .eql t x y t2) (hx : a.eval x = .int k i) (hy : a.eval y = .int k j) (hK : K (.bool (i == j)) w) : gives P o a.eval w K := by
  refine gives_val _ ?_ hK
  unfold execOp
  rw [ho]
  simp only [hx, hy]
  go_simp
theorem gives_ne_int (i j : Int) (k : IntKind) (t t2 : TypeId) (x y : Operand) (ho : o.op = .binOp .neq t x y t2) (hx : a.eval x = .int k i) (hy : a.eval y = .int k j) (hK : K (.bool (i != j)) w) : gives P o a.eval w K := by
  refine gives_val _ ?_ hK
  unfold execOp
  rw [ho]
  simp only [hx, hy]
  go_simp
theorem gives_lt_int (i j : Int) (k : IntKind) (t t2 : TypeId) (x y : Operand) (ho : o.op = .binOp .lss t x y t2) (hx : a.eval x = .int k i) (hy : a.eval y = .int k j) (hK : K (.bool (decide (i < j))) w) : gives P o a.eval w K := by
  refine gives_val _ ?_ hK
  unfold execOp
  rw [ho]
  simp only [hx, hy]
  go_simp
theorem gives_le_int (i j : Int) (k : IntKind) (t t2 : TypeId) (x y : Operand) (ho : o.op = .binOp .leq t x y t2) (hx : a.eval x = .int k i) (hy : a.eval y = .int k j) (hK : K (.bool (decide (i ≤ j))) w) : gives P o a.eval w K := by
  refine gives_val _ ?_ hK
  unfold execOp
  rw [ho]
  simp only [hx, hy]
  go_simp
theorem gives_gt_int (i j : Int) (k : IntKind) (t t2 : TypeId) (x y : Operand) (ho : o.op = .binOp .gtr t x y t2) (hx : a.eval x = .int k i) (hy : a.eval y = .int k j) (hK : K (.bool (decide (i > j))) w) : gives P o a.eval w K := by
  refine gives_val _ ?_ hK
  unfold execOp
  rw [ho]
  simp only [hx, hy]
  go_simp
theorem gives_ge_int (i j : Int) (k : IntKind) (t t2 : TypeId) (x y : Operand) (ho : o.op = .binOp .geq t x y t2) (hx : a.eval x = .int k i) (hy : a.eval y = .int k j) (hK : K (.bool (decide (i ≥ j))) w) : gives P o a.eval w K := by
  refine gives_val _ ?_ hK
  unfold execOp
  rw [ho]
  simp only [hx, hy]
  go_simp
theorem gives_eq_bool (i j : Bool) (t t2 : TypeId) (x y : Operand) (ho : o.op = .binOp .eql t x y t2) (hu : P.underlying t = some .bool) (hx : a.eval x = .bool i) (hy : a.eval y = .bool j) (hK : K (.bool (i == j)) w) : gives P o a.eval w K := by
  refine gives_val _ ?_ hK
  unfold execOp
  rw [ho]
  simp only [hx, hy]
  have hr : (Op.equal t (.bool i) (.bool j)).run P w = .ok (i == j) w := by
    show (Op.equalIn (Op.maxDepth - 1 + 1) t (.bool i) (.bool j)).run P w = _
    rw [Op.equalIn, Sem.run_bind, run_underlying hu]
    rfl
  simp [eqGuard, binOp, hr]
theorem gives_ne_bool (i j : Bool) (t t2 : TypeId) (x y : Operand) (ho : o.op = .binOp .neq t x y t2) (hu : P.underlying t = some .bool) (hx : a.eval x = .bool i) (hy : a.eval y = .bool j) (hK : K (.bool (i != j)) w) : gives P o a.eval w K := by
  refine gives_val _ ?_ hK
  unfold execOp
  rw [ho]
  simp only [hx, hy]
  have hr : (Op.equal t (.bool i) (.bool j)).run P w = .ok (i == j) w := by
    show (Op.equalIn (Op.maxDepth - 1 + 1) t (.bool i) (.bool j)).run P w = _
    rw [Op.equalIn, Sem.run_bind, run_underlying hu]
    rfl
  simp [eqGuard, binOp, hr, bne]
/-- A function with a body is entered. -/
def callsB (P : Program) (f : FuncId) : Bool := match P.funcs[f]? with | some fn => fn.name != "runtime.NumGoroutine" && fn.body.isSome | none => false
theorem run_callFunc {f : FuncId} (h : callsB P f = true) (args : Array Value) : (callFunc f args).run P w = .ok (.enter f args) w := by
  unfold callsB at h
  unfold callFunc
  cases hf : P.funcs[f]? with
  | none => rw [hf] at h; cases h
  | some fn =>
    rw [hf] at h
    simp only [Bool.and_eq_true, bne_iff_ne, ne_eq] at h
    have h2 : fn.body.isNone = false := by cases hb : fn.body <;> simp_all
    simp only [Sem.run_bind, run_program, Result.andThen_ok, hf, h2]
    simp [h.1]
theorem gives_call (f : FuncId) (xs : Array Operand) (ts : Array TypeId) (ho : o.op = .call { callee := .value (.func f), args := xs, argTypes := ts }) (hf : callsB P f = true)
    (h : Calls P f (xs.map a.eval) w (fun e w'' => ∃ v, e = .returned v ∧ K v w'')) : gives P o a.eval w K := by
  have hr : (execOp a.eval o).run P w = .ok (.enter f (xs.map a.eval)) w := by
    unfold execOp
    rw [ho]
    simp [resolve, Deferred.ofValue, invoke, Act.eval, run_callFunc hf]
  unfold gives; rw [hr]; exact h
theorem gives_call0 (f : FuncId) (ts : Array TypeId) (ho : o.op = .call { callee := .value (.func f), args := #[], argTypes := ts }) (hf : callsB P f = true)
    (h : Calls P f #[] w (fun e w'' => ∃ v, e = .returned v ∧ K v w'')) : gives P o a.eval w K :=
  gives_call f #[] ts ho hf (by simpa using h)
theorem gives_call1 (f : FuncId) (x : Operand) (ts : Array TypeId) (ho : o.op = .call { callee := .value (.func f), args := #[x], argTypes := ts }) (hf : callsB P f = true)
    (h : Calls P f #[a.eval x] w (fun e w'' => ∃ v, e = .returned v ∧ K v w'')) : gives P o a.eval w K :=
  gives_call f #[x] ts ho hf (by simpa using h)
theorem gives_call2 (f : FuncId) (x y : Operand) (ts : Array TypeId) (ho : o.op = .call { callee := .value (.func f), args := #[x, y], argTypes := ts }) (hf : callsB P f = true)
    (h : Calls P f #[a.eval x, a.eval y] w (fun e w'' => ∃ v, e = .returned v ∧ K v w'')) : gives P o a.eval w K :=
  gives_call f #[x, y] ts ho hf (by simpa using h)
theorem gives_call3 (f : FuncId) (x y z : Operand) (ts : Array TypeId) (ho : o.op = .call { callee := .value (.func f), args := #[x, y, z], argTypes := ts }) (hf : callsB P f = true)
    (h : Calls P f #[a.eval x, a.eval y, a.eval z] w (fun e w'' => ∃ v, e = .returned v ∧ K v w'')) : gives P o a.eval w K :=
  gives_call f #[x, y, z] ts ho hf (by simpa using h)
/-- What a call answers: a value with a fact, all that stood kept. -/
def RV (w : World) (K : Value → World → Prop) (e : Ending) (w' : World) : Prop := ∃ v, e = .returned v ∧ K v w' ∧ Below w.heap.size w w'
theorem rv_one {P : Program} {f : FuncId} {args : Array Value} {w : World} {v : Value} (h : Calls P f args w fun e w' => e = .returned v ∧ Below w.heap.size w w') : Calls P f args w (RV w (fun u _ => u = v)) :=
  h.mono fun _ _ ⟨he, hb⟩ => ⟨v, he, rfl, hb⟩
/-- A load of a block known whole. -/
theorem gives_load_blk (t : TypeId) (x : Operand) (ho : o.op = .load t x) (g : Nat) (t' : TypeId) (cs : Array Value) (d : TypeDesc) (hx : a.eval x = .pointer (some ⟨g, 0, none⟩)) (hg : Blk w g t' cs)
    (hu : P.underlying t = some d) (hd : (match d with | .struct _ | .array _ _ => true | _ => false) = true) (hi : (P.info? t).map (·.size) = some cs.size) (hK : K (.agg cs) w) : gives P o a.eval w K := by
  have h : (execOp a.eval o).run P w = .ok (.value (.agg cs)) w := by
    unfold execOp
    rw [ho]
    simp only [hx, Instr.loadAt, Instr.sureAddr, Sem.run_bind, Sem.run_pure, Result.andThen_ok, run_loadVar_row w g t' t cs (0, 0) d hg hu hd hi]
  exact gives_val _ h hK
theorem wpAny_go {Q : Exit → Act → World → Prop} {i fuel : Nat} {listed : Array Bool} (hr : Region.ready .any ops listed = [i]) (ho : ops[i]? = some o)
    (h : if Region.wanted o (yielded ops a.tmps) = true then o.wp P a w (fun a' w' => wpAny P .any ops Q fuel (listed.setIfInBounds i true) a' w') Q else wpAny P .any ops Q fuel (listed.setIfInBounds i true) (a.put o.dst undef) w) : wpAny P .any ops Q (fuel + 1) listed a w := by
  refine ⟨fun h0 => absurd (hr.symm.trans h0) (by simp), fun j hj => ?_⟩
  rw [hr] at hj
  simp at hj
  subst hj
  unfold wpOp
  simp only [ho]
  split
  · rename_i hw; rw [if_pos hw] at h; exact .inl h
  · rename_i hw; rw [if_neg hw] at h; exact h
theorem wpAny_fin {Q : Exit → Act → World → Prop} {listed : Array Bool} (hr : Region.ready .any ops listed = []) (h : Q .normal a w) : ∀ fuel, wpAny P .any ops Q fuel listed a w
  | 0 => ⟨hr, h⟩
  | _ + 1 => ⟨fun _ => h, fun j hj => by rw [hr] at hj; cases hj⟩
theorem wpH_go {Q : Exit → Act → World → Prop} {S : World → Prop} {i fuel : Nat} {listed : Array Bool} (hr : Region.ready .any ops listed = [i]) (ho : ops[i]? = some o)
    (h : if Region.wanted o (yielded ops a.tmps) = true then o.wp P a w (fun a' w' => S w' ∧ wpAnyH P .any ops Q S fuel (listed.setIfInBounds i true) a' w') Q else S w ∧ wpAnyH P .any ops Q S fuel (listed.setIfInBounds i true) (a.put o.dst undef) w) : wpAnyH P .any ops Q S (fuel + 1) listed a w := by
  refine ⟨fun h0 => absurd (hr.symm.trans h0) (by simp), fun j hj => ?_⟩
  rw [hr] at hj
  simp at hj
  subst hj
  unfold wpOp
  simp only [ho]
  split
  · rename_i hw; rw [if_pos hw] at h; exact .inl h
  · rename_i hw; rw [if_neg hw] at h; exact h
end
end Go.Proofs.Ytifnbpkcnkfanaa
