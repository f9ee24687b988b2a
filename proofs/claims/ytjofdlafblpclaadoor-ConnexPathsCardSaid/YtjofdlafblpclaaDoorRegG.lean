/-
  Operations of regions, met one by one: more kinds (tuples, lengths, bits, fields of boxed graphs).
-/
import Derived.Test.YtjofdlafblpclaaDoorRegU
namespace Go.Proofs.YtjofdlafblpclaaDoor
open Go.RowKit

theorem gives_mono {P : Program} {o : Oper} {ρ : Operand → Value} {w : World} {K K' : Value → World → Prop} (h : gives P o ρ w K) (hk : ∀ v w', K v w' → K' v w') : gives P o ρ w K' := by
  unfold gives at *
  generalize (execOp ρ o).run P w = r at *
  cases r with
  | ok x w' =>
    cases x with
    | value v => exact hk _ _ h
    | skip => exact hk _ _ h
    | enter f args => exact h.mono fun e w'' ⟨v, h1, h2⟩ => ⟨v, h1, hk _ _ h2⟩
    | _ => exact h
  | halt x w' => exact h
section
variable {P : Program} {ops : Array Oper} {o : Oper} {a : Act} {w : World}
theorem wpAny_next {Q : Exit → Act → World → Prop} {i fuel : Nat} {listed : Array Bool} (hr : Region.ready .any ops listed = [i]) (ho : ops[i]? = some o) (hg : o.guard = none) (h : o.wp P a w (fun a' w' => wpAny P .any ops Q fuel (listed.setIfInBounds i true) a' w') Q) : wpAny P .any ops Q (fuel + 1) listed a w := by
  refine ⟨fun h0 => absurd (hr.symm.trans h0) (by simp), fun j hj => ?_⟩
  rw [hr] at hj
  simp at hj
  subst hj
  unfold wpOp
  simp only [ho]
  rw [if_pos (by simp [Region.wanted, hg])]
  exact .inl h
theorem wpAny_end {Q : Exit → Act → World → Prop} {listed : Array Bool} (hr : Region.ready .any ops listed = []) (h : Q .normal a w) : ∀ fuel, wpAny P .any ops Q fuel listed a w
  | 0 => ⟨hr, h⟩
  | _ + 1 => ⟨fun _ => h, fun j hj => by rw [hr] at hj; cases hj⟩
end
theorem ob_undef {ops : Array Oper} {o : Oper} {a : Act} {G E : Prop} {g : Nat} {want : Bool} (t : Tmp) (hg : o.guard = some (g, want)) (ht : dstOf ops g = some t) (hv : tv a t = undef) (h : E) : if Region.wanted o (yielded ops a.tmps) = true then G else E := by
  have hy : yielded ops a.tmps g ≠ some want := by
    unfold yielded
    simp only [dstOf] at ht
    rw [ht]
    simp only [tv, Array.getD_eq_getD_getElem?] at hv
    cases h : a.tmps[t]? with
    | none => simp [h]
    | some x => rw [h] at hv; simp at hv; subst hv; simp [h, undef]
  rw [if_neg (by simp [Region.wanted, hg, hy])]; exact h
theorem wpOps_next {P : Program} {ops : Array Oper} {o : Oper} {a : Act} {w : World} {Q : Exit → Act → World → Prop} {i : Nat} {r : List Nat} (ho : ops[i]? = some o) (hg : o.guard = none) (h : o.wp P a w (wpOps P ops Q r) Q) : wpOps P ops Q (i :: r) a w := by
  unfold wpOps
  simp only [ho]
  rw [if_pos (by simp [Region.wanted, hg])]
  exact .inl h
theorem wp_assign {o : Oper} {a : Act} {w : World} {K : Act → World → Prop} {Q : Exit → Act → World → Prop} (t : Tmp) (x : Operand) (ho : o.op = .assign x) (hd : o.dst = some t) (v : Value) (hv : a.eval x = v) (h : K (a.put (some t) v) w) : o.wp Tryd.prog a w K Q := by
  rw [← hd, ← hv] at h
  unfold Oper.wp execOp
  rw [ho]
  exact h
section
variable {o : Oper} {a : Act} {w : World} {t : Tmp}
theorem ext_c {i : Nat} {vs : Array Value} {x : Value} (ho : o.op = .extract (.tmp t) i) (h : tv a t = .tuple vs) (hx : vs[i]? = some x) : gives Tryd.prog o a.eval w (fun v w' => v = x ∧ Below w.heap.size w w') := by
  refine gives_val x ?_ ⟨rfl, Below.refl _ _⟩
  unfold execOp
  rw [ho]
  simp only [eval_tmp, h]
  simp [Instr.extract, hx]
theorem len_c {A : Option Addr} {n c : Nat} {T e : TypeId} (hu : Tryd.prog.underlying T = some (.slice e)) (ho : o.op = .call { callee := .builtin .len, args := #[.tmp t], argTypes := #[T] }) (h : tv a t = .slice A n c) : gives Tryd.prog o a.eval w (fun v w' => v = .int .i64 (n : Int) ∧ Below w.heap.size w w') := by
  refine gives_val (.int .i64 (n : Int)) ?_ ⟨rfl, Below.refl _ _⟩
  unfold execOp
  rw [ho]
  simp [eval_tmp, h, resolve, invoke, builtin, Builtin.len_, run_underlying hu, goInt]
theorem shr_u32 {u : Tmp} {x k : Nat} {T T2 : TypeId} (hk : k < 32) (ho : o.op = .binOp .shr T (.tmp t) (.tmp u) T2) (h : tv a t = .int .u32 (x : Int)) (h2 : tv a u = .int .i64 (k : Int)) : gives Tryd.prog o a.eval w (fun v w' => v = .int .u32 ((x : Int) / 2 ^ k) ∧ Below w.heap.size w w') := by
  refine gives_val (.int .u32 ((x : Int) / 2 ^ k)) ?_ ⟨rfl, Below.refl _ _⟩
  have i1 : (0 : Int) ≤ (k : Int) := by omega
  have i2 : (k : Int) < 32 := by omega
  unfold execOp
  rw [ho]
  simp only [eval_tmp, h, h2]
  go_simp
theorem bit_u32 {x k : Nat} {T T2 : TypeId} (hx : x < 2 ^ 32) (ho : o.op = .binOp .and T (.tmp t) (.const (.int .u32 1)) T2) (h : tv a t = .int .u32 ((x : Int) / 2 ^ k)) : gives Tryd.prog o a.eval w (fun v w' => v = .int .u32 ((if x.testBit k then 1 else 0 : Nat) : Int) ∧ Below w.heap.size w w') := by
  refine gives_val (.int .u32 ((if x.testBit k then 1 else 0 : Nat) : Int)) ?_ ⟨rfl, Below.refl _ _⟩
  have e := bits_and_one x k hx
  unfold execOp
  rw [ho]
  simp only [eval_tmp, eval_const, h]
  go_simp
theorem load_gr {g : Nat} {x y : Value} {T : TypeId} (hT : T = 24) (ho : o.op = .load T (.tmp t)) (ht : tv a t = .pointer (some ⟨g, 0, none⟩)) (h : GB w g 24 x y) : gives Tryd.prog o a.eval w (fun v w' => v = .agg #[x, y] ∧ Below w.heap.size w w') := by
  subst hT
  exact gives_load_blk 24 (.tmp t) ho g 24 _ _ ht (GB.blk h) Tryd.underlying24 rfl (by kernel_rfl) ⟨rfl, Below.refl _ _⟩
theorem fld_0 {g : Nat} (ho : o.op = .fieldAddr 24 (.tmp t) 0) (hx : tv a t = .pointer (some ⟨g, 0, none⟩)) : gives Tryd.prog o a.eval w (fun v w' => v = .pointer (some ⟨g, 0, none⟩) ∧ Below w.heap.size w w') := by
  refine gives_val (.pointer (some ⟨g, 0, none⟩)) ?_ ⟨rfl, Below.refl _ _⟩
  unfold execOp; rw [ho]; simp only [eval_tmp, hx]; go_simp
theorem fld_1 {g : Nat} (ho : o.op = .fieldAddr 24 (.tmp t) 1) (hx : tv a t = .pointer (some ⟨g, 0, none⟩)) : gives Tryd.prog o a.eval w (fun v w' => v = .pointer (some ⟨g, 1, none⟩) ∧ Below w.heap.size w w') := by
  refine gives_val (.pointer (some ⟨g, 1, none⟩)) ?_ ⟨rfl, Below.refl _ _⟩
  unfold execOp; rw [ho]; simp only [eval_tmp, hx]; go_simp
theorem load_n {p : Addr} {z : Int} (ho : o.op = .load 3 (.tmp t)) (hx : tv a t = .pointer (some p)) (hc : w.cell? p = some (.int .i64 z)) : gives Tryd.prog o a.eval w (fun u w' => u = .int .i64 z ∧ Below w.heap.size w w') := by
  refine gives_val (.int .i64 z) ?_ ⟨rfl, Below.refl _ _⟩
  unfold execOp; rw [ho]; simp only [eval_tmp, hx]; go_simp
theorem load_es {p : Addr} {u : Value} (ho : o.op = .load 22 (.tmp t)) (hx : tv a t = .pointer (some p)) (hc : w.cell? p = some u) : gives Tryd.prog o a.eval w (fun v w' => v = u ∧ Below w.heap.size w w') := by
  refine gives_val u ?_ ⟨rfl, Below.refl _ _⟩
  unfold execOp; rw [ho]; simp only [eval_tmp, hx]; go_simp
theorem ne_u32 {u : Tmp} {i j : Int} {T T2 : TypeId} (ho : o.op = .binOp .neq T (.tmp t) (.tmp u) T2) (hx : tv a t = .int .u32 i) (hy : tv a u = .int .u32 j) : gives Tryd.prog o a.eval w (fun v w' => v = .bool (i != j) ∧ Below w.heap.size w w') :=
  gives_ne_int i j .u32 _ _ _ _ ho hx hy ⟨rfl, Below.refl _ _⟩
end
end Go.Proofs.YtjofdlafblpclaaDoor
