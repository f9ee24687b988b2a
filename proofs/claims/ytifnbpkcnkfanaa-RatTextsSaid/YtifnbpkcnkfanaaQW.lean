/-
  'a, b := rats(x), rats(y)': the operations of that region.
-/
import Derived.Test.YtifnbpkcnkfanaaRegU
import Derived.Test.YtifnbpkcnkfanaaQSame
import Derived.Test.YtifnbpkcnkfanaaQRats
import Derived.Test.YtifnbpkcnkfanaaQAwake
import Derived.Test.YtifnbpkcnkfanaaQCmp
import Derived.IntWalk
namespace Go.Proofs.Ytifnbpkcnkfanaa
open Go.RowKit

/-- A Rat of value x, in its normal form. -/
def Rv (b : Nat) (x : Rat) (v : Value) (w : World) : Prop := ∃ s A n c B m d, v = .agg #[.bool s, .slice A n c, .slice B m d] ∧ Rn w s A n c B m d b x
/-- A Rat of value x, in any form. -/
def Rw (b : Nat) (x : Rat) (v : Value) (w : World) : Prop := ∃ s A n c B m d, v = .agg #[.bool s, .slice A n c, .slice B m d] ∧ Ra w s A n c B m d b x
/-- A block that holds a Rat of value x. -/
def Bx (b : Nat) (x : Rat) (g : Nat) (w : World) : Prop := ∃ s A n c B m d, TB w g 29 (.bool s) (.slice A n c) (.slice B m d) ∧ Ra w s A n c B m d b x
/-- .. in its normal form. -/
def Bn (b : Nat) (x : Rat) (g : Nat) (w : World) : Prop := ∃ s A n c B m d, TB w g 29 (.bool s) (.slice A n c) (.slice B m d) ∧ Rn w s A n c B m d b x
section
variable {w w' : World} {b b' g : Nat} {x y : Rat} {v v' : Value}
theorem Rv.rw (h : Rv b x v w) : Rw b x v w := by obtain ⟨s, A, n, c, B, m, d, e, h⟩ := h; exact ⟨s, A, n, c, B, m, d, e, h.ra⟩
theorem Rv.new (h : Rv b x v w) (hb : Below w.heap.size w w') : Rv b x v w' := by obtain ⟨s, A, n, c, B, m, d, e, h⟩ := h; exact ⟨s, A, n, c, B, m, d, e, h.new hb⟩
theorem Rw.new (h : Rw b x v w) (hb : Below w.heap.size w w') : Rw b x v w' := by obtain ⟨s, A, n, c, B, m, d, e, h⟩ := h; exact ⟨s, A, n, c, B, m, d, e, h.new hb⟩
theorem Bx.new (h : Bx b x g w) (hb : Below w.heap.size w w') : Bx b x g w' := by obtain ⟨s, A, n, c, B, m, d, h1, h⟩ := h; exact ⟨s, A, n, c, B, m, d, h1.new hb, h.new hb⟩
theorem Bn.new (h : Bn b x g w) (hb : Below w.heap.size w w') : Bn b x g w' := by obtain ⟨s, A, n, c, B, m, d, h1, h⟩ := h; exact ⟨s, A, n, c, B, m, d, h1.new hb, h.new hb⟩
theorem Bx.lt (h : Bx b x g w) : g < w.heap.size := by obtain ⟨s, A, n, c, B, m, d, h1, h⟩ := h; exact h1.lt
theorem Bn.bx (h : Bn b x g w) : Bx b x g w := by obtain ⟨s, A, n, c, B, m, d, h1, h⟩ := h; exact ⟨s, A, n, c, B, m, d, h1, h.ra⟩
theorem add_v (h : Rw b x v w) (h' : Rw b' y v' w) (hb : b + b' ≤ 4900) : Calls Try.prog 22 #[v, v'] w (RV w (Rv (b + b' + 1) (x + y))) := by
  obtain ⟨s, A, n, c, B, m, d, rfl, h⟩ := h
  obtain ⟨s', A', n', c', B', m', d', rfl, h'⟩ := h'
  refine (qadd_any h h' hb).mono ?_
  rintro e w1 ⟨s1, A1, n1, c1, B1, m1, d1, rfl, h1, hb1⟩
  exact ⟨_, rfl, ⟨s1, A1, n1, c1, B1, m1, d1, rfl, h1⟩, hb1⟩
theorem sub_v (h : Rw b x v w) (h' : Rw b' y v' w) (hb : b + b' ≤ 4900) : Calls Try.prog 26 #[v, v'] w (RV w (Rv (b + b' + 1) (x - y))) := by
  obtain ⟨s, A, n, c, B, m, d, rfl, h⟩ := h
  obtain ⟨s', A', n', c', B', m', d', rfl, h'⟩ := h'
  refine (qsub_any h h' hb).mono ?_
  rintro e w1 ⟨s1, A1, n1, c1, B1, m1, d1, rfl, h1, hb1⟩
  exact ⟨_, rfl, ⟨s1, A1, n1, c1, B1, m1, d1, rfl, h1⟩, hb1⟩
theorem mul_v (h : Rw b x v w) (h' : Rw b' y v' w) (hb : b + b' ≤ 4900) : Calls Try.prog 23 #[v, v'] w (RV w (Rv (b + b') (x * y))) := by
  obtain ⟨s, A, n, c, B, m, d, rfl, h⟩ := h
  obtain ⟨s', A', n', c', B', m', d', rfl, h'⟩ := h'
  refine (qmul_any h h' (by omega)).mono ?_
  rintro e w1 ⟨s1, A1, n1, c1, B1, m1, d1, rfl, h1, hb1⟩
  exact ⟨_, rfl, ⟨s1, A1, n1, c1, B1, m1, d1, rfl, h1⟩, hb1⟩
theorem neg_v (h : Rw b x v w) (hb : b ≤ 4900) : Calls Try.prog 25 #[v] w (RV w (Rv b (-x))) := by
  obtain ⟨s, A, n, c, B, m, d, rfl, h⟩ := h
  refine (qneg_any h (by omega)).mono ?_
  rintro e w1 ⟨s1, A1, n1, c1, B1, m1, d1, rfl, h1, hb1⟩
  exact ⟨_, rfl, ⟨s1, A1, n1, c1, B1, m1, d1, rfl, h1⟩, hb1⟩
theorem norm_v (h : Rw b x v w) (hb : b ≤ 4900) : Calls Try.prog 18 #[v] w (RV w (Rv b x)) := by
  obtain ⟨s, A, n, c, B, m, d, rfl, h⟩ := h
  refine (qnorm_any h (by omega)).mono ?_
  rintro e w1 ⟨s1, A1, n1, c1, B1, m1, d1, rfl, h1, hb1⟩
  exact ⟨_, rfl, ⟨s1, A1, n1, c1, B1, m1, d1, rfl, h1⟩, hb1⟩
theorem int_v (z : Int) (h1 : -9223372036854775808 ≤ z) (h2 : z ≤ 9223372036854775807) (w : World) : Calls Try.prog 15 #[.int .i64 z] w (RV w (Rv 2 (z : Rat))) := by
  refine (qint_any z h1 h2).mono ?_
  rintro e w1 ⟨s1, A1, n1, c1, B1, m1, d1, rfl, h1, hb1⟩
  exact ⟨_, rfl, ⟨s1, A1, n1, c1, B1, m1, d1, rfl, h1⟩, hb1⟩
theorem int_w (z : Int) (h1 : -9223372036854775808 ≤ z) (h2 : z ≤ 9223372036854775807) (v : Value) (hv : v = .int .i64 z) (w : World) : Calls Try.prog 15 #[v] w (RV w (Rv 2 (z : Rat))) := by
  subst hv; exact int_v z h1 h2 w
theorem cmp_v (h : Rw b x v w) (h' : Rw b' y v' w) (hb : b + b' ≤ 4900) : Calls Try.prog 28 #[v, v'] w (RV w (fun u _ => u = .int .i64 (rcq x y))) := by
  obtain ⟨s, A, n, c, B, m, d, rfl, h⟩ := h
  obtain ⟨s', A', n', c', B', m', d', rfl, h'⟩ := h'
  exact rv_one (qcmp_any h h' hb)
theorem sign_v (h : Rw b x v w) : Calls Try.prog 24 #[v] w (RV w (fun u _ => u = .int .i64 x.num.sign)) := by
  obtain ⟨s, A, n, c, B, m, d, rfl, h⟩ := h
  exact rv_one (sign_any h)
theorem same_v (h : Rv b x v w) (h' : Rv b' y v' w) : Calls Try.prog 21 #[v, v'] w (RV w (fun u _ => u = .bool (decide (x = y)))) := by
  obtain ⟨s, A, n, c, B, m, d, rfl, h⟩ := h
  obtain ⟨s', A', n', c', B', m', d', rfl, h'⟩ := h'
  by_cases hxy : x = y
  · rw [decide_eq_true hxy]; exact rv_one (same_true h h' hxy)
  · rw [decide_eq_false hxy]; exact rv_one (same_false h h' hxy)
theorem same_y (h : Rv b x v w) (h' : Rv b' y v' w) (hxy : x = y) : Calls Try.prog 21 #[v, v'] w (RV w (fun u _ => u = .bool true)) := by
  have := same_v h h'
  rw [decide_eq_true hxy] at this
  exact this
theorem div_v (h : Rw b x v w) (h' : Rw b' y v' w) (hb : b + b' ≤ 4900) (hy : y ≠ 0) : Calls Try.prog 27 #[v, v'] w (RV w (fun u w1 => ∃ q, u = .tuple #[q, .int .i64 0] ∧ Rv (b + b') (x / y) q w1)) := by
  obtain ⟨s, A, n, c, B, m, d, rfl, h⟩ := h
  obtain ⟨s', A', n', c', B', m', d', rfl, h'⟩ := h'
  refine (qdiv_any h h' (by omega)).mono ?_
  rintro e w1 ⟨-, hd⟩
  obtain ⟨s1, A1, n1, c1, B1, m1, d1, rfl, h1, hb1⟩ := hd hy
  exact ⟨_, rfl, ⟨_, rfl, s1, A1, n1, c1, B1, m1, d1, rfl, h1⟩, hb1⟩
theorem div_0 (h : Rw b x v w) (h' : Rw b' y v' w) (hb : b + b' ≤ 4900) (hy : y = 0) : Calls Try.prog 27 #[v, v'] w (RV w (fun u _ => u = .tuple #[.agg #[.bool false, .slice none 0 0, .slice none 0 0], .int .i64 18])) := by
  obtain ⟨s, A, n, c, B, m, d, rfl, h⟩ := h
  obtain ⟨s', A', n', c', B', m', d', rfl, h'⟩ := h'
  refine (qdiv_any h h' (by omega)).mono ?_
  rintro e w1 ⟨hd, -⟩
  obtain ⟨rfl, hb1⟩ := hd hy
  exact ⟨_, rfl, rfl, hb1⟩
theorem awake_v (w : World) : Calls Try.prog 11 #[] w (RV w (fun u _ => u = .bool true)) := rv_one (qawake_any w)
end
/-- A load of a boxed Rat. -/
theorem load_bx {o : Oper} {a : Act} {w : World} {t : Tmp} {b g : Nat} {x : Rat} (ho : o.op = .load 29 (.tmp t)) (ht : tv a t = .pointer (some ⟨g, 0, none⟩)) (h : Bx b x g w) :
    gives Try.prog o a.eval w (fun v w' => Rw b x v w' ∧ Below w.heap.size w w') := by
  obtain ⟨s, A, n, c, B, m, d, h1, h⟩ := h
  exact gives_load_blk 29 (.tmp t) ho g 29 _ _ ht h1 Try.underlying29 rfl (by kernel_rfl) ⟨⟨s, A, n, c, B, m, d, rfl, h⟩, Below.refl _ _⟩
theorem load_bn {o : Oper} {a : Act} {w : World} {t : Tmp} {b g : Nat} {x : Rat} (ho : o.op = .load 29 (.tmp t)) (ht : tv a t = .pointer (some ⟨g, 0, none⟩)) (h : Bn b x g w) :
    gives Try.prog o a.eval w (fun v w' => Rv b x v w' ∧ Below w.heap.size w w') := by
  obtain ⟨s, A, n, c, B, m, d, h1, h⟩ := h
  exact gives_load_blk 29 (.tmp t) ho g 29 _ _ ht h1 Try.underlying29 rfl (by kernel_rfl) ⟨⟨s, A, n, c, B, m, d, rfl, h⟩, Below.refl _ _⟩
theorem call_add : callsB Try.prog 22 = true := by kernel_rfl
theorem call_sub : callsB Try.prog 26 = true := by kernel_rfl
theorem call_mul : callsB Try.prog 23 = true := by kernel_rfl
theorem call_div : callsB Try.prog 27 = true := by kernel_rfl
theorem call_neg : callsB Try.prog 25 = true := by kernel_rfl
theorem call_norm : callsB Try.prog 18 = true := by kernel_rfl
theorem call_int : callsB Try.prog 15 = true := by kernel_rfl
theorem call_cmp : callsB Try.prog 28 = true := by kernel_rfl
theorem call_sign : callsB Try.prog 24 = true := by kernel_rfl
theorem call_same : callsB Try.prog 21 = true := by kernel_rfl
theorem call_awake : callsB Try.prog 11 = true := by kernel_rfl
theorem call_rats : callsB Try.prog 20 = true := by kernel_rfl
end Go.Proofs.Ytifnbpkcnkfanaa
namespace Go.Proofs.Ytifnbpkcnkfanaa
open Go.RowKit

section
variable {P : Program} {ops : Array Oper} {o : Oper} {a : Act} {w : World}
theorem wpAny_next {Q : Exit → Act → World → Prop} {i fuel : Nat} {listed : Array Bool} (hr : Region.ready .any ops listed = [i]) (ho : ops[i]? = some o) (hg : o.guard = none) (h : o.wp P a w (fun a' w' => wpAny P .any ops Q fuel (listed.setIfInBounds i true) a' w') Q) : wpAny P .any ops Q (fuel + 1) listed a w := by
  refine ⟨fun h0 => absurd (hr.symm.trans h0) (by simp), fun j hj => ?_⟩
  rw [hr] at hj
  simp at hj
  subst hj
  unfold wpOp
  simp only [ho]
  rw [if_pos (by simp [Region.wanted, hg])]
  exact .inl h
theorem wpAny_end {Q : Exit → Act → World → Prop} {listed : Array Bool} (hr : Region.ready .any ops listed = []) (h : Q .normal a w) : ∀ fuel, wpAny P .any ops Q fuel listed a w
  | 0 => ⟨hr, h⟩
  | _ + 1 => ⟨fun _ => h, fun j hj => by rw [hr] at hj; cases hj⟩
end

theorem wpOps_next {P : Program} {ops : Array Oper} {o : Oper} {a : Act} {w : World} {Q : Exit → Act → World → Prop} {i : Nat} {r : List Nat} (ho : ops[i]? = some o) (hg : o.guard = none) (h : o.wp P a w (wpOps P ops Q r) Q) : wpOps P ops Q (i :: r) a w := by
  unfold wpOps
  simp only [ho]
  rw [if_pos (by simp [Region.wanted, hg])]
  exact .inl h
/-- A new box for a Rat. -/
def Zx (B g : Nat) (w : World) : Prop := B ≤ g ∧ TB w g 29 (.bool false) (.slice none 0 0) (.slice none 0 0)
def Zb (B : Nat) (v : Value) (w : World) : Prop := ∃ g, v = .pointer (some ⟨g, 0, none⟩) ∧ Zx B g w
theorem Zb.new {B : Nat} {v : Value} {w w' : World} (h : Zb B v w) (hb : Below w.heap.size w w') : Zb B v w' := by
  obtain ⟨g, h1, h2, h3⟩ := h
  exact ⟨g, h1, h2, h3.new hb⟩
theorem alloc_rat {o : Oper} {a : Act} {w0 w : World} (ho : o.op = .alloc 29) (hb : Below w0.heap.size w0 w) : gives Try.prog o a.eval w (fun v w' => (Zb w0.heap.size v w' ∧ Below w.heap.size w w') ∧ Fresh v w w') := by
  have hr : (execOp a.eval o).run Try.prog w = .ok (.value (.pointer (some ⟨w.heap.size, 0, none⟩))) (w.alloc (.cells #[.bool false, .slice none 0 0, .slice none 0 0] 29)) := by
    unfold execOp
    rw [ho]
    go_simp
  unfold gives
  rw [hr]
  exact ⟨⟨⟨_, rfl, hb.size, TB.made _ _ _ _ _⟩, al _ _⟩, _, rfl, Nat.le_refl _, by simp⟩
theorem rats_v {w : World} {s : Bool} {A B : Option Addr} {n c m d : Nat} {ds fs : List Nat} (h : Bg w A n c B m d ds fs) (hn : n ≤ 8) (hm : m ≤ 8) (v : Value) (hv : v = .agg #[.bool s, .slice A n c, .slice B m d]) :
    Calls Try.prog 20 #[v] w (RV w (Rw 8 (qv s (valB 4294967296 ds) (valB 4294967296 fs)))) := by
  subst hv
  refine (rats_any h hn hm).mono ?_
  rintro e w1 ⟨s1, A1, n1, c1, B1, m1, d1, rfl, h1, hb1⟩
  exact ⟨_, rfl, ⟨s1, A1, n1, c1, B1, m1, d1, rfl, h1⟩, hb1⟩
theorem load_big {o : Oper} {a : Act} {w : World} {t : Tmp} {g : Nat} {x y z : Value} (ho : o.op = .load 44 (.tmp t)) (ht : tv a t = .pointer (some ⟨g, 0, none⟩)) (h : TB w g 44 x y z) :
    gives Try.prog o a.eval w (fun v w' => v = .agg #[x, y, z] ∧ Below w.heap.size w w') :=
  gives_load_blk 44 (.tmp t) ho g 44 _ _ ht h Try.underlying44 rfl (by kernel_rfl) ⟨rfl, Below.refl _ _⟩

/-- What a store into a new box keeps. -/
structure Kept (w : World) (g : Nat) (w' : World) : Prop where
  rw : ∀ {b x v}, Rw b x v w → Rw b x v w'
  bx : ∀ {b x g'}, g' ≠ g → Bx b x g' w → Bx b x g' w'
  zx : ∀ {B g'}, g' ≠ g → Zx B g' w → Zx B g' w'
  below : ∀ {B W}, B ≤ g → Below B W w → Below B W w'
  gb : ∀ {g' t y z}, g' ≠ g → GB w g' t y z → GB w' g' t y z
theorem store_rat {o : Oper} {a : Act} {w : World} {t u : Tmp} {B g b : Nat} {x : Rat} {v : Value} {K : Act → World → Prop} {Q : Exit → Act → World → Prop} (ho : o.op = .store 29 (.tmp t) (.tmp u)) (hd : o.dst = none) (ht : a.eval (.tmp t) = .pointer (some ⟨g, 0, none⟩)) (hu : a.eval (.tmp u) = v)
    (hz : Zx B g w) (hv : Rw b x v w) (next : ∀ w', Bx b x g w' → Kept w g w' → K a w') : o.wp Try.prog a w K Q := by
  obtain ⟨s, A, n, c, C, m, d, rfl, h⟩ := hv
  have hT := hz.2
  refine wp_store_mid 29 (.tmp t) (.tmp u) ho g 0 #[.bool s, .slice A n c, .slice C m d] ht hu (fun j hj => ⟨?_, hT.blk.frozen _⟩) (by kernel_rfl) (by simp [Value.oneCell']) ?_
  · rw [hT.blk.cell]
    have : j < 3 := by simpa using hj
    simp [this]
  · rw [hd]
    have e : w.setCells g 0 [.bool s, .slice A n c, .slice C m d] = ((w.setCell ⟨g, 0, none⟩ (.bool s)).setCell ⟨g, 1, none⟩ (.slice A n c)).setCell ⟨g, 2, none⟩ (.slice C m d) := rfl
    show K a (w.setCells g 0 [.bool s, .slice A n c, .slice C m d])
    rw [e]
    refine next _ ⟨s, A, n, c, C, m, d, ((hT.blk.set_ 0 _).set_ 1 _).set_ 2 _, h.store3 hT _ _ _⟩ ⟨?_, ?_, ?_, ?_, ?_⟩
    · rintro b x v ⟨s', A', n', c', B', m', d', rfl, h'⟩
      exact ⟨s', A', n', c', B', m', d', rfl, h'.store3 hT _ _ _⟩
    · rintro b x g' hne ⟨s', A', n', c', B', m', d', h1, h'⟩
      exact ⟨s', A', n', c', B', m', d', ((h1.blk.far (p := ⟨g, 0, none⟩) hne _).far (p := ⟨g, 1, none⟩) hne _).far (p := ⟨g, 2, none⟩) hne _, h'.store3 hT _ _ _⟩
    · rintro B g' hne ⟨h1, h2⟩
      exact ⟨h1, ((h2.blk.far (p := ⟨g, 0, none⟩) hne _).far (p := ⟨g, 1, none⟩) hne _).far (p := ⟨g, 2, none⟩) hne _⟩
    · intro B W hB hb
      exact below_store3 hb hB _ _ _
    · intro g' t' y z hne h1
      exact ((h1.blk.far (p := ⟨g, 0, none⟩) hne _).far (p := ⟨g, 1, none⟩) hne _).far (p := ⟨g, 2, none⟩) hne _
/-- A quotient and no error. -/
def Dv (b : Nat) (x : Rat) (v : Value) (w : World) : Prop := ∃ q, v = .tuple #[q, .int .i64 0] ∧ Rv b x q w
theorem Dv.new {b : Nat} {x : Rat} {v : Value} {w w' : World} (h : Dv b x v w) (hb : Below w.heap.size w w') : Dv b x v w' := by
  obtain ⟨q, h1, h2⟩ := h
  exact ⟨q, h1, h2.new hb⟩
theorem ext_q {o : Oper} {a : Act} {w : World} {t : Tmp} {b : Nat} {x : Rat} (ho : o.op = .extract (.tmp t) 0) (h : Dv b x (tv a t) w) : gives Try.prog o a.eval w (fun v w' => Rv b x v w' ∧ Below w.heap.size w w') := by
  obtain ⟨q, h1, h2⟩ := h
  refine gives_val q ?_ ⟨h2, Below.refl _ _⟩
  unfold execOp
  rw [ho]
  simp only [eval_tmp, h1]
  go_simp
theorem ext_e {o : Oper} {a : Act} {w : World} {t : Tmp} {b : Nat} {x : Rat} (ho : o.op = .extract (.tmp t) 1) (h : Dv b x (tv a t) w) : gives Try.prog o a.eval w (fun v w' => v = .int .i64 0 ∧ Below w.heap.size w w') := by
  obtain ⟨q, h1, h2⟩ := h
  refine gives_val (.int .i64 0) ?_ ⟨rfl, Below.refl _ _⟩
  unfold execOp
  rw [ho]
  simp only [eval_tmp, h1]
  go_simp
theorem late_e {ops : Array Oper} {S : World → Prop} {o : Oper} {a : Act} {w : World} {t : Tmp} {b : Nat} {x : Rat} (ho : o.op = .extract (.tmp t) 1) (hg : o.guard = none) (h : Dv b x (tv a t) w) : Region.wanted o (yielded ops a.tmps) = true ∧ ∃ v, (∀ w', S w' → (execOp a.eval o).run Try.prog w' = .ok (.value v) w') ∧ v = .int .i64 0 := by
  obtain ⟨q, h1, h2⟩ := h
  refine ⟨by simp [Region.wanted, hg], .int .i64 0, fun w' _ => ?_, rfl⟩
  unfold execOp
  rw [ho]
  simp only [eval_tmp, h1]
  go_simp
theorem wp_assign {o : Oper} {a : Act} {w : World} {K : Act → World → Prop} {Q : Exit → Act → World → Prop} (t : Tmp) (x : Operand) (ho : o.op = .assign x) (hd : o.dst = some t) (v : Value) (hv : a.eval x = v) (h : K (a.put (some t) v) w) : o.wp Try.prog a w K Q := by
  rw [← hd, ← hv] at h
  unfold Oper.wp execOp
  rw [ho]
  exact h
theorem rw_zero (w : World) : Rw 1 0 (.agg #[.bool false, .slice none 0 0, .slice none 0 0]) w := ⟨_, _, _, _, _, _, _, rfl, 0, 0, nil_num' _ _ (by omega), nil_num' _ _ (by omega), (qv_zero _ _).symm⟩
theorem ext_z {o : Oper} {a : Act} {w : World} {t : Tmp} (ho : o.op = .extract (.tmp t) 0) (h : tv a t = .tuple #[.agg #[.bool false, .slice none 0 0, .slice none 0 0], .int .i64 18]) : gives Try.prog o a.eval w (fun v w' => Rw 1 0 v w' ∧ Below w.heap.size w w') := by
  refine gives_val (.agg #[.bool false, .slice none 0 0, .slice none 0 0]) ?_ ⟨rw_zero _, Below.refl _ _⟩
  unfold execOp
  rw [ho]
  simp only [eval_tmp, h]
  go_simp
theorem ext_ze {o : Oper} {a : Act} {w : World} {t : Tmp} (ho : o.op = .extract (.tmp t) 1) (h : tv a t = .tuple #[.agg #[.bool false, .slice none 0 0, .slice none 0 0], .int .i64 18]) : gives Try.prog o a.eval w (fun v w' => v = .int .i64 18 ∧ Below w.heap.size w w') := by
  refine gives_val (.int .i64 18) ?_ ⟨rfl, Below.refl _ _⟩
  unfold execOp
  rw [ho]
  simp only [eval_tmp, h]
  go_simp
section
variable {P : Program} {o : Oper} {a : Act} {w : World} {K : Value → World → Prop}
theorem gives_neg_int (i : Int) (t : TypeId) (x : Operand) (ho : o.op = .unOp .neg t x) (hx : a.eval x = .int .i64 i) (hb : -1000 ≤ i ∧ i ≤ 1000) (hK : K (.int .i64 (-i)) w) : gives P o a.eval w K := by
  refine gives_val _ ?_ hK
  have e : IntKind.i64.wrap (-i) = -i := IntWalk.i64_in _ (by omega)
  unfold execOp
  rw [ho]
  simp only [hx]
  go_simp
theorem gives_mul_int (i j : Int) (t t2 : TypeId) (x y : Operand) (ho : o.op = .binOp .mul t x y t2) (hx : a.eval x = .int .i64 i) (hy : a.eval y = .int .i64 j) (hb : -1000 ≤ i * j ∧ i * j ≤ 1000) (hK : K (.int .i64 (i * j)) w) : gives P o a.eval w K := by
  refine gives_val _ ?_ hK
  have e : IntKind.i64.wrap (i * j) = i * j := IntWalk.i64_in _ (by omega)
  unfold execOp
  rw [ho]
  simp only [hx, hy]
  go_simp
end
end Go.Proofs.Ytifnbpkcnkfanaa
