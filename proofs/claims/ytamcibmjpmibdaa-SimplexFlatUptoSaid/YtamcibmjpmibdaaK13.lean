/-
Contract of law28.of. Regions printed by gen/sof.py.
Opens a Program of Smalls; what the bound on the bulk of the arguments gives.
Plain: fractions of a common denominator.
Contract of the reference's Dot. Regions printed by gen/srd.py.
-/
import Derived.Test.YtamcibmjpmibdaaK11
import Derived.Test.YtamcibmjpmibdaaK12
import Derived.Test.YtamcibmjpmibdaaRows
import Derived.Deep.Slices
import Derived.Test.YtamcibmjpmibdaaK9
import Derived.Test.YtamcibmjpmibdaaK6
namespace Go.Proofs.Ytamcibmjpmibdaa
open Go.RowKit
set_option linter.unusedVariables false
set_option linter.unusedSimpArgs false

/-- A list of rows. -/
abbrev rwL (Ar : Nat → Option Addr) (ln cp : Nat → Nat) (m : Nat) : List Value := (List.range m).map fun i => Value.slice (Ar i) (ln i) (cp i)
def put1 {α : Type} (f : Nat → α) (i : Nat) (x : α) : Nat → α := fun l => if l = i then x else f l
theorem put1_at {α : Type} (f : Nat → α) (i : Nat) (x : α) : put1 f i x i = x := if_pos rfl
theorem put1_ne {α : Type} (f : Nat → α) {i l : Nat} (x : α) (h : l ≠ i) : put1 f i x l = f l := if_neg h
theorem rwL_succ (Ar : Nat → Option Addr) (ln cp : Nat → Nat) (i : Nat) (A : Option Addr) (c : Nat) : rwL (put1 Ar i A) ln (put1 cp i c) (i + 1) = rwL Ar ln cp i ++ [.slice A (ln i) c] := by
  simp only [rwL, List.range_succ, List.map_append, List.map_cons, List.map_nil, put1_at]
  congr 1
  refine List.map_congr_left fun l hl => ?_
  have := List.mem_range.1 hl
  rw [put1_ne _ _ (by omega), put1_ne _ _ (by omega)]
/-- A Program of Smalls in memory. -/
structure PgW (w : World) (n m k : Nat) (PC PA PB : Option Addr) (Pr : Nat → Option Addr) (ln cp : Nat → Nat) (NC NB : Nat → Int) (DC DB : Nat → Nat) (NA : Nat → Nat → Int) (DA : Nat → Nat → Nat) : Prop where
  c : Reads w w.heap.size 2 PC n (smL NC DC n)
  a : Reads w w.heap.size 1 PA m (rwL Pr ln cp m)
  row : ∀ i, i < m → Reads w w.heap.size 2 (Pr i) (ln i) (smL (NA i) (DA i) (ln i))
  b : Reads w w.heap.size 2 PB k (smL NB DB k)
  sc : SmB NC DC n
  sa : ∀ i, i < m → SmB (NA i) (DA i) (ln i)
  sb : SmB NB DB k
/-- The reference's problem in memory. -/
structure RqW (w : World) (n m k : Nat) (QC QA QB : Option Addr) (Qr : Nat → Option Addr) (ln qp : Nat → Nat) (A : Nat → Nat → Rat) (C B : Nat → Rat) : Prop where
  c : Reads w w.heap.size 2 QC n (qsL C n)
  a : Reads w w.heap.size 1 QA m (rwL Qr ln qp m)
  row : ∀ i, i < m → Reads w w.heap.size 2 (Qr i) (ln i) (qsL (A i) (ln i))
  b : Reads w w.heap.size 2 QB k (qsL B k)
section
variable {w w' : World} {n m k : Nat} {QC QA QB : Option Addr} {Qr : Nat → Option Addr} {ln qp : Nat → Nat} {A : Nat → Nat → Rat} {C B : Nat → Rat}
theorem RqW.new (h : RqW w n m k QC QA QB Qr ln qp A C B) (hb : Below w.heap.size w w') : RqW w' n m k QC QA QB Qr ln qp A C B :=
  ⟨(h.c.below hb).more hb.size, (h.a.below hb).more hb.size, fun i hi => ((h.row i hi).below hb).more hb.size, (h.b.below hb).more hb.size⟩
variable {PC PA PB : Option Addr} {Pr : Nat → Option Addr} {cp : Nat → Nat} {NC NB : Nat → Int} {DC DB : Nat → Nat} {NA : Nat → Nat → Int} {DA : Nat → Nat → Nat}
theorem PgW.new (h : PgW w n m k PC PA PB Pr ln cp NC NB DC DB NA DA) (hb : Below w.heap.size w w') : PgW w' n m k PC PA PB Pr ln cp NC NB DC DB NA DA :=
  ⟨(h.c.below hb).more hb.size, (h.a.below hb).more hb.size, fun i hi => ((h.row i hi).below hb).more hb.size, (h.b.below hb).more hb.size, h.sc, h.sa, h.sb⟩
end
/-- Lists that are made and no longer changed. -/
structure OfR (base : Nat) (w : World) (n k iq iy : Nat) (QC QB YC YB : Option Addr) (qc qb yc yb : Nat) (Qr Yr : Nat → Option Addr) (qp yp ln : Nat → Nat) (A : Nat → Nat → Rat) (C B : Nat → Rat) : Prop where
  cq : OwnC w base 58 2 (.slice QC n qc) n (qsL C n)
  bq : OwnC w base 58 2 (.slice QB k qb) k (qsL B k)
  rq : ∀ l, l < iq → OwnC w base 58 2 (.slice (Qr l) (ln l) (qp l)) (ln l) (qsL (A l) (ln l))
  cy : OR w base (.slice YC n yc) n (PN w 2 C)
  by_ : OR w base (.slice YB k yb) k (PN w 2 B)
  ry : ∀ l, l < iy → OR w base (.slice (Yr l) (ln l) (yp l)) (ln l) (PN w 2 (A l))
section
variable {base : Nat} {w w' : World} {n k iq iy g4 g5 : Nat} {QC QA QB YC YA YB : Option Addr} {qc qa qb yc ya yb : Nat} {Qr Yr : Nat → Option Addr} {qp yp ln : Nat → Nat} {A : Nat → Nat → Rat} {C B : Nat → Rat}
theorem OfR.step (h : OfR base w n k iq iy QC QB YC YB qc qb yc yb Qr Yr qp yp ln A C B) (hk : ∀ {e : TypeId} {size n : Nat} {v : Value} {xs : List Value}, (e = 58 ∨ e = 41) → OwnC w base e size v n xs → OwnC w' base e size v n xs) (kp : KeepsN w w') :
    OfR base w' n k iq iy QC QB YC YB qc qb yc yb Qr Yr qp yp ln A C B := by
  have hr : ∀ {v : Value} {n : Nat} {f : Nat → Rat}, OR w base v n (PN w 2 f) → OR w' base v n (PN w' 2 f) := by
    rintro v n f ⟨xs, h1, h2⟩
    exact ⟨xs, hk (.inr rfl) h1, h2.mono fun j u _ hv => PN.keep hv kp⟩
  exact ⟨hk (.inl rfl) h.cq, hk (.inl rfl) h.bq, fun l hl => hk (.inl rfl) (h.rq l hl), hr h.cy, hr h.by_, fun l hl => hr (h.ry l hl)⟩
theorem OfR.below (h : OfR base w n k iq iy QC QB YC YB qc qb yc yb Qr Yr qp yp ln A C B) (hb : Below w.heap.size w w') : OfR base w' n k iq iy QC QB YC YB qc qb yc yb Qr Yr qp yp ln A C B :=
  h.step (fun _ h => h.below hb) (KeepsN.below hb)
/-- .. and the lists of rows that grow, in their boxes. -/
structure OfI (base : Nat) (w : World) (n k iq iy g4 g5 : Nat) (QC QA QB YC YA YB : Option Addr) (qc qa qb yc ya yb : Nat) (Qr Yr : Nat → Option Addr) (qp yp ln : Nat → Nat) (A : Nat → Nat → Rat) (C B : Nat → Rat) : Prop where
  r : OfR base w n k iq iy QC QB YC YB qc qb yc yb Qr Yr qp yp ln A C B
  x : Blk w g4 35 #[.slice QC n qc, .slice QA iq qa, .slice QB k qb]
  y : Blk w g5 31 #[.slice YC n yc, .slice YA iy ya, .slice YB k yb]
  xl : OwnC w base 32 1 (.slice QA iq qa) iq (rwL Qr ln qp iq)
  yl : OwnC w base 28 1 (.slice YA iy ya) iy (rwL Yr ln yp iy)
  low : base ≤ w.heap.size ∧ base ≤ g4 ∧ base ≤ g5
theorem OfI.below (h : OfI base w n k iq iy g4 g5 QC QA QB YC YA YB qc qa qb yc ya yb Qr Yr qp yp ln A C B) (hb : Below w.heap.size w w') : OfI base w' n k iq iy g4 g5 QC QA QB YC YA YB qc qa qb yc ya yb Qr Yr qp yp ln A C B :=
  ⟨h.r.below hb, h.x.keep hb, h.y.keep hb, h.xl.below hb, h.yl.below hb, Nat.le_trans h.low.1 hb.size, h.low.2⟩
/-- A row of fractions is put behind. -/
theorem OfI.pushQ (h : OfI base w n k iq iy g4 g5 QC QA QB YC YA YB qc qa qb yc ya yb Qr Yr qp yp ln A C B) {w1 : World} {A6 A9 : Option Addr} {c6 c9 : Nat} (h6 : OwnC w base 58 2 (.slice A6 (ln iq) c6) (ln iq) (qsL (A iq) (ln iq))) (ho : OwnC w1 base 32 1 (.slice A9 (iq + 1) c9) (iq + 1) (rwL Qr ln qp iq ++ [.slice A6 (ln iq) c6])) (hg : w.grownBy w1 (Value.slice QA iq qa).ownBlock) (kp : KeepsN w w1) :
    Blk w1 g4 35 #[.slice QC n qc, .slice QA iq qa, .slice QB k qb] ∧ OfI base (w1.setCell ⟨g4, 1, none⟩ (.slice A9 (iq + 1) c9)) n k (iq + 1) iy g4 g5 QC A9 QB YC YA YB qc c9 qb yc ya yb (put1 Qr iq A6) Yr (put1 qp iq c6) yp ln A C B := by
  have hbk := Blk.appended h.x h.xl.own hg (by decide)
  have hby := Blk.appended h.y h.xl.own hg (by decide)
  have hkp := KeepsN.blk hbk (i := 1) (by show 1 < 3; omega) (by intro x; simp) (.slice A9 (iq + 1) c9)
  have hg2 := only_setCell (World.grownBy.refl w1 (some g4)) (p := ⟨g4, 1, none⟩) (.inl rfl) (.slice A9 (iq + 1) c9)
  have s1 : ∀ {e : TypeId} {size n : Nat} {v : Value} {xs : List Value}, (e = 58 ∨ e = 41) → OwnC w base e size v n xs → OwnC w1 base e size v n xs := fun he hh => hh.beside h.xl.own (by rcases he with rfl | rfl <;> decide) hg
  have s2 : ∀ {e : TypeId} {size n : Nat} {v : Value} {xs : List Value}, (e = 58 ∨ e = 41) → OwnC w1 base e size v n xs → OwnC (w1.setCell ⟨g4, 1, none⟩ (.slice A9 (iq + 1) c9)) base e size v n xs := fun he hh => hh.blk hbk (by rcases he with rfl | rfl <;> decide) hg2
  have hr := (h.r.step s1 kp).step s2 hkp
  refine ⟨hbk, ⟨⟨hr.cq, hr.bq, fun l hl => ?_, hr.cy, hr.by_, hr.ry⟩, hbk.set_ 1 _, hby.grown hg2 (fun e => by injection e with e; exact Blk.ne_ hby hbk (by decide) e), ?_, (h.yl.beside h.xl.own (by decide) hg).blk hbk (by decide) hg2, by rw [size_setCell]; exact Nat.le_trans h.low.1 hg.size, h.low.2⟩⟩
  · by_cases hl2 : l = iq
    · subst hl2
      rw [put1_at, put1_at]
      exact s2 (.inl rfl) (s1 (.inl rfl) h6)
    · rw [put1_ne _ _ hl2, put1_ne _ _ hl2]
      exact hr.rq l (by omega)
  · rw [rwL_succ]
    exact ho.blk hbk (by decide) hg2
theorem OfI.pushY (h : OfI base w n k iq iy g4 g5 QC QA QB YC YA YB qc qa qb yc ya yb Qr Yr qp yp ln A C B) {w1 : World} {A6 A9 : Option Addr} {c6 c9 : Nat} (h6 : OR w base (.slice A6 (ln iy) c6) (ln iy) (PN w 2 (A iy))) (ho : OwnC w1 base 28 1 (.slice A9 (iy + 1) c9) (iy + 1) (rwL Yr ln yp iy ++ [.slice A6 (ln iy) c6])) (hg : w.grownBy w1 (Value.slice YA iy ya).ownBlock) (kp : KeepsN w w1) :
    Blk w1 g5 31 #[.slice YC n yc, .slice YA iy ya, .slice YB k yb] ∧ OfI base (w1.setCell ⟨g5, 1, none⟩ (.slice A9 (iy + 1) c9)) n k iq (iy + 1) g4 g5 QC QA QB YC A9 YB qc qa qb yc c9 yb Qr (put1 Yr iy A6) qp (put1 yp iy c6) ln A C B := by
  have hbk := Blk.appended h.y h.yl.own hg (by decide)
  have hby := Blk.appended h.x h.yl.own hg (by decide)
  have hkp := KeepsN.blk hbk (i := 1) (by show 1 < 3; omega) (by intro x; simp) (.slice A9 (iy + 1) c9)
  have hg2 := only_setCell (World.grownBy.refl w1 (some g5)) (p := ⟨g5, 1, none⟩) (.inl rfl) (.slice A9 (iy + 1) c9)
  have s1 : ∀ {e : TypeId} {size n : Nat} {v : Value} {xs : List Value}, (e = 58 ∨ e = 41) → OwnC w base e size v n xs → OwnC w1 base e size v n xs := fun he hh => hh.beside h.yl.own (by rcases he with rfl | rfl <;> decide) hg
  have s2 : ∀ {e : TypeId} {size n : Nat} {v : Value} {xs : List Value}, (e = 58 ∨ e = 41) → OwnC w1 base e size v n xs → OwnC (w1.setCell ⟨g5, 1, none⟩ (.slice A9 (iy + 1) c9)) base e size v n xs := fun he hh => hh.blk hbk (by rcases he with rfl | rfl <;> decide) hg2
  have hr := (h.r.step s1 kp).step s2 hkp
  refine ⟨hbk, ⟨⟨hr.cq, hr.bq, hr.rq, hr.cy, hr.by_, fun l hl => ?_⟩, hby.grown hg2 (fun e => by injection e with e; exact Blk.ne_ hby hbk (by decide) e), hbk.set_ 1 _, (h.xl.beside h.yl.own (by decide) hg).blk hbk (by decide) hg2, ?_, by rw [size_setCell]; exact Nat.le_trans h.low.1 hg.size, h.low.2⟩⟩
  · by_cases hl2 : l = iy
    · subst hl2
      rw [put1_at, put1_at]
      obtain ⟨xs, q1, q2⟩ := h6
      exact ⟨xs, s2 (.inr rfl) (s1 (.inr rfl) q1), q2.mono fun j u _ hv => PN.keep hv (kp.trans hkp)⟩
    · rw [put1_ne _ _ hl2, put1_ne _ _ hl2]
      exact hr.ry l (by omega)
  · rw [rwL_succ]
    exact ho.blk hbk (by decide) hg2
end
section
variable {base : Nat} {w w' : World} {n k iq iy g4 g5 : Nat} {QC QA QB YC YA YB : Option Addr} {qc qa qb yc ya yb : Nat} {Qr Yr : Nat → Option Addr} {qp yp ln : Nat → Nat} {A : Nat → Nat → Rat} {C B : Nat → Rat}
/-- A store into another box. -/
theorem OfI.set (h : OfI base w n k iq iy g4 g5 QC QA QB YC YA YB qc qa qb yc ya yb Qr Yr qp yp ln A C B) {g j : Nat} {t : TypeId} {cs : Array Value} (hb : Blk w g t cs) (ht : t = 31 ∨ t = 35) (h4 : g4 ≠ g) (h5 : g5 ≠ g) (hj : j < cs.size) (hc : ∀ x, cs[j]? ≠ some (.int .u32 x)) (u : Value) :
    OfI base (w.setCell ⟨g, j, none⟩ u) n k iq iy g4 g5 QC QA QB YC YA YB qc qa qb yc ya yb Qr Yr qp yp ln A C B := by
  have hg2 := only_setCell (World.grownBy.refl w (some g)) (p := ⟨g, j, none⟩) (.inl rfl) u
  have kp := KeepsN.blk hb hj hc u
  refine ⟨h.r.step (fun he hh => hh.blk hb (by rcases he with rfl | rfl <;> rcases ht with rfl | rfl <;> decide) hg2) kp, h.x.far h4 u, h.y.far h5 u, h.xl.blk hb (by rcases ht with rfl | rfl <;> decide) hg2, h.yl.blk hb (by rcases ht with rfl | rfl <;> decide) hg2, by rw [size_setCell]; exact h.low.1, h.low.2⟩
theorem OfI.fin (h : OfI base w n k iq iy g4 g5 QC QA QB YC YA YB qc qa qb yc ya yb Qr Yr qp yp ln A C B) : PrW w 2 n iy k YC YA YB Yr ln yp A C B ∧ RqW w n iq k QC QA QB Qr ln qp A C B :=
  ⟨⟨h.r.cy.rs.toW, Reads.of_own h.yl.own, fun i hi => (h.r.ry i hi).rs.toW, h.r.by_.rs.toW⟩, ⟨Reads.of_own h.r.cq.own, Reads.of_own h.xl.own, fun i hi => Reads.of_own (h.r.rq i hi).own, Reads.of_own h.r.bq.own⟩⟩
end
section
variable {o : Oper} {a : Act} {w : World} {t u : Tmp}
theorem fld_pgm {g k : Nat} (ho : o.op = .fieldAddr 25 (.tmp t) k) (hk : k < 3) (h : tv a t = .pointer (some ⟨g, 0, none⟩)) : gives Try.prog o a.eval w (fun v w' => v = .pointer (some ⟨g, k, none⟩) ∧ Below w.heap.size w w') := by
  refine gives_val (.pointer (some ⟨g, k, none⟩)) ?_ ⟨rfl, Below.refl _ _⟩
  have : k = 0 ∨ k = 1 ∨ k = 2 := by omega
  rcases this with rfl | rfl | rfl <;> (unfold execOp; rw [ho]; simp only [eval_tmp, h]; go_simp)
theorem fld_rpb {g k : Nat} (ho : o.op = .fieldAddr 35 (.tmp t) k) (hk : k < 3) (h : tv a t = .pointer (some ⟨g, 0, none⟩)) : gives Try.prog o a.eval w (fun v w' => v = .pointer (some ⟨g, k, none⟩) ∧ Below w.heap.size w w') := by
  refine gives_val (.pointer (some ⟨g, k, none⟩)) ?_ ⟨rfl, Below.refl _ _⟩
  have : k = 0 ∨ k = 1 ∨ k = 2 := by omega
  rcases this with rfl | rfl | rfl <;> (unfold execOp; rw [ho]; simp only [eval_tmp, h]; go_simp)
theorem load_c22 {p : Addr} {v : Value} (ho : o.op = .load 22 (.tmp t)) (hx : tv a t = .pointer (some p)) (hc : w.cell? p = some v) : gives Try.prog o a.eval w (fun z w' => z = v ∧ Below w.heap.size w w') := by
  refine gives_val v ?_ ⟨rfl, Below.refl _ _⟩
  unfold execOp; rw [ho]; simp only [eval_tmp, hx]; go_simp
theorem load_c32 {p : Addr} {v : Value} (ho : o.op = .load 32 (.tmp t)) (hx : tv a t = .pointer (some p)) (hc : w.cell? p = some v) : gives Try.prog o a.eval w (fun z w' => z = v ∧ Below w.heap.size w w') := by
  refine gives_val v ?_ ⟨rfl, Below.refl _ _⟩
  unfold execOp; rw [ho]; simp only [eval_tmp, hx]; go_simp
theorem load_c33 {p : Addr} {v : Value} (ho : o.op = .load 33 (.tmp t)) (hx : tv a t = .pointer (some p)) (hc : w.cell? p = some v) : gives Try.prog o a.eval w (fun z w' => z = v ∧ Below w.heap.size w w') := by
  refine gives_val v ?_ ⟨rfl, Below.refl _ _⟩
  unfold execOp; rw [ho]; simp only [eval_tmp, hx]; go_simp
theorem load_rpb {g : Nat} {v0 v1 v2 : Value} (ho : o.op = .load 35 (.tmp t)) (hx : tv a t = .pointer (some ⟨g, 0, none⟩)) (hb : Blk w g 35 #[v0, v1, v2]) : gives Try.prog o a.eval w (fun v w' => v = .agg #[v0, v1, v2] ∧ Below w.heap.size w w') :=
  gives_load_blk 35 (.tmp t) ho g 35 #[v0, v1, v2] _ hx hb Try.underlying35 rfl (by kernel_rfl) ⟨rfl, Below.refl _ _⟩
/-- A new box for a reference's problem. -/
def Zr (B : Nat) (v : Value) (w : World) : Prop := ∃ g, v = .pointer (some ⟨g, 0, none⟩) ∧ B ≤ g ∧ Blk w g 35 #[.slice none 0 0, .slice none 0 0, .slice none 0 0]
theorem Zr.new {B : Nat} {v : Value} {w w' : World} (h : Zr B v w) (hb : Below w.heap.size w w') : Zr B v w' := by
  obtain ⟨g, h1, h2, h3⟩ := h
  exact ⟨g, h1, h2, h3.keep hb⟩
theorem alloc_rpb {w0 : World} (ho : o.op = .alloc 35) (hb : Below w0.heap.size w0 w) : gives Try.prog o a.eval w (fun v w' => (Zr w0.heap.size v w' ∧ Below w.heap.size w w') ∧ Fresh v w w') := by
  have hr : (execOp a.eval o).run Try.prog w = .ok (.value (.pointer (some ⟨w.heap.size, 0, none⟩))) (w.alloc (.cells #[.slice none 0 0, .slice none 0 0, .slice none 0 0] 35)) := by
    unfold execOp
    rw [ho]
    go_simp
  unfold gives
  rw [hr]
  exact ⟨⟨⟨_, rfl, hb.size, Blk.new _ _ _⟩, al _ _⟩, _, rfl, Nat.le_refl _, by simp⟩
theorem gives_bs_rows {A : Option Addr} {k c : Nat} (ho : o.op = .buildSlice 29 1 #[(0, .tmp t)]) (h : tv a t = .slice A k c) : gives Try.prog o a.eval w (fun v w' => (∃ g, v = .slice (some ⟨g, 0, none⟩) 1 1 ∧ Blk w' g 28 #[.slice A k c]) ∧ Below w.heap.size w w') := by
  have hh : a.tmps[t]?.getD undef = .slice A k c := by simpa [tv] using h
  have hr : (execOp a.eval o).run Try.prog w = .ok (.value (.slice (some ⟨w.heap.size, 0, none⟩) 1 1)) (w.alloc (.cells #[.slice A k c] 28)) := by
    unfold execOp
    rw [ho]
    go_simp
  unfold gives
  rw [hr]
  exact ⟨⟨_, rfl, Blk.new _ _ _⟩, al _ _⟩
theorem wp_store_c29 {K : Act → World → Prop} {Q : Exit → Act → World → Prop} {p : Addr} {A : Option Addr} {n c : Nat} {v0 : Value} (ho : o.op = .store 29 (.tmp t) (.tmp u)) (hd : o.dst = none) (ht : tv a t = .pointer (some p)) (hu : tv a u = .slice A n c) (hc : w.cell? p = some v0) (hf : w.frozen? p = false) (h : K a (w.setCell p (.slice A n c))) : o.wp Try.prog a w K Q := by
  unfold Oper.wp execOp
  have h1 : a.tmps[t]?.getD undef = .pointer (some p) := by simpa [tv] using ht
  have h2 : a.tmps[u]?.getD undef = .slice A n c := by simpa [tv] using hu
  rw [ho]
  go_simp
  exact h
end
theorem fld_prb_w {o : Oper} {a : Act} {w : World} {t : Tmp} {g k : Nat} (ho : o.op = .fieldAddr 31 (.tmp t) k) (hk : k < 3) (h : tv a t = .pointer (some ⟨g, 0, none⟩)) : gives Try.prog o a.eval w (fun v w' => v = .pointer (some ⟨g, k, none⟩) ∧ w' = w) := by
  refine gives_val (.pointer (some ⟨g, k, none⟩)) ?_ ⟨rfl, rfl⟩
  have : k = 0 ∨ k = 1 ∨ k = 2 := by omega
  rcases this with rfl | rfl | rfl <;> (unfold execOp; rw [ho]; simp only [eval_tmp, h]; go_simp)
theorem OwnC.lower {w : World} {b b' : Nat} {e : TypeId} {size n : Nat} {v : Value} {xs : List Value} (h : OwnC w b e size v n xs) (hb : b' ≤ b) : OwnC w b' e size v n xs := by
  refine ⟨⟨h.own.1, ?_⟩, h.cl⟩
  rcases h.own.2 with h0 | ⟨g, cap, cur, h1, h2, h3⟩
  · exact .inl h0
  · exact .inr ⟨g, cap, cur, h1, Nat.le_trans hb h2, h3⟩
theorem OR.lower {w : World} {b b' n : Nat} {v : Value} {P : Nat → Value → Prop} (h : OR w b v n P) (hb : b' ≤ b) : OR w b' v n P := by
  obtain ⟨xs, h1, h2⟩ := h
  exact ⟨xs, h1.lower hb, h2⟩
theorem app_qrows {ops : Array Oper} {o : Oper} {a : Act} {w : World} {Q : Exit → Act → World → Prop} {rest : List Oper} (hgd : o.guard = none) (s x : Operand) (ho : o.op = .call { callee := .builtin .append, args := #[s, x], argTypes := #[33, 33] })
    (base : Nat) (v : Value) (n : Nat) (xs : List Value) (hs : a.eval s = v) (hown : OwnC w base 32 1 v n xs) (g : Nat) (A : Option Addr) (k c : Nat) (hx : a.eval x = .slice (some ⟨g, 0, none⟩) 1 1) (hb : Blk w g 32 #[.slice A k c])
    (hk : n ≤ 1000000) (hbase : base ≤ w.heap.size)
    (h : ∀ v' w', OwnC w' base 32 1 v' (n + 1) (xs ++ [.slice A k c]) → w.grownBy w' v.ownBlock → (v'.ownBlock = v.ownBlock ∨ v'.ownBlock = some w.heap.size) → KeepsN w w' → wpList Try.prog ops Q rest (a.put o.dst v') w') : wpList Try.prog ops Q (o :: rest) a w :=
  wpList_plain hgd fun _ hK => wp_app_qrows s x ho base v n xs hs hown g A k c hx hb hk hbase fun v' w' h2 h3 h4 h5 => hK _ _ (h v' w' h2 h3 h4 h5)
theorem built_prb2 (AC AB : Option Addr) (n cC k cB : Nat) : Try.prog.built 31 [(0, .slice AC n cC), (2, .slice AB k cB)] = some #[.slice AC n cC, .slice none 0 0, .slice AB k cB] := by kernel_rfl
theorem built_rpb2 (AC AB : Option Addr) (n cC k cB : Nat) : Try.prog.built 35 [(0, .slice AC n cC), (2, .slice AB k cB)] = some #[.slice AC n cC, .slice none 0 0, .slice AB k cB] := by kernel_rfl
theorem store_rpb {o : Oper} {a : Act} {w : World} {t u : Tmp} {g : Nat} {v0 v1 v2 u0 u1 u2 : Value} {K : Act → World → Prop} {Q : Exit → Act → World → Prop} (ho : o.op = .store 35 (.tmp t) (.tmp u)) (hd : o.dst = none) (ht : a.eval (.tmp t) = .pointer (some ⟨g, 0, none⟩)) (hu : a.eval (.tmp u) = .agg #[u0, u1, u2])
    (hr : Blk w g 35 #[v0, v1, v2]) (hcl : ∀ u ∈ [v0, v1, v2], ∀ x, u ≠ .int .u32 x) (h1 : #[u0, u1, u2].all (·.oneCell') = true)
    (next : ∀ w', KeepsN w w' → w.grownBy w' (some g) → w'.heap.size = w.heap.size → Blk w' g 35 #[u0, u1, u2] → K a w') : o.wp Try.prog a w K Q := by
  refine wp_store_mid 35 (.tmp t) (.tmp u) ho g 0 #[u0, u1, u2] ht hu (fun i hi => ⟨?_, hr.frozen _⟩) (by kernel_rfl) h1 ?_
  · rw [hr.cell]
    have hi7 : i < 3 := by simpa using hi
    rw [Nat.zero_add, Array.getElem?_eq_getElem hi7]; rfl
  · rw [hd]
    have b0 : Blk (w.setCell ⟨g, 0, none⟩ u0) g 35 #[u0, v1, v2] := hr.set_ 0 u0
    have b1 : Blk ((w.setCell ⟨g, 0, none⟩ u0).setCell ⟨g, 1, none⟩ u1) g 35 #[u0, u1, v2] := b0.set_ 1 u1
    have b2 : Blk (((w.setCell ⟨g, 0, none⟩ u0).setCell ⟨g, 1, none⟩ u1).setCell ⟨g, 2, none⟩ u2) g 35 #[u0, u1, u2] := b1.set_ 2 u2
    have q0 : ∀ x, v0 ≠ .int .u32 x := hcl v0 (by simp)
    have q1 : ∀ x, v1 ≠ .int .u32 x := hcl v1 (by simp)
    have q2 : ∀ x, v2 ≠ .int .u32 x := hcl v2 (by simp)
    have kp := ((KeepsN.blk hr (i := 0) (by show 0 < 3; omega) (by intro x; simpa using q0 x) u0).trans
      (KeepsN.blk b0 (i := 1) (by show 1 < 3; omega) (by intro x; simpa using q1 x) u1)).trans
      (KeepsN.blk b1 (i := 2) (by show 2 < 3; omega) (by intro x; simpa using q2 x) u2)
    exact next _ kp (only_setCells _ _ _ (World.grownBy.refl w _)) (by show (((w.setCell _ _).setCell _ _).setCell _ _).heap.size = _; simp only [size_setCell]) b2
/-- What of answers. -/
def OfRet (n m k : Nat) (ln : Nat → Nat) (A : Nat → Nat → Rat) (C B : Nat → Rat) (w : World) (e : Ending) (w' : World) : Prop := ∃ (YC YA YB QC QA QB : Option Addr) (Yr Qr : Nat → Option Addr) (yp qp : Nat → Nat) (yc ya yb qc qa qb : Nat),
  e = .returned (.tuple #[.agg #[.slice YC n yc, .slice YA m ya, .slice YB k yb], .agg #[.slice QC n qc, .slice QA m qa, .slice QB k qb]]) ∧
  PrW w' 2 n m k YC YA YB Yr ln yp A C B ∧ RqW w' n m k QC QA QB Qr ln qp A C B ∧ Below w.heap.size w w'
set_option maxRecDepth 100000 in
set_option maxHeartbeats 16000000 in
theorem of_any (n m k cC cA cB : Nat) (PC PA PB : Option Addr) (Pr : Nat → Option Addr) (ln cp : Nat → Nat) (NC NB : Nat → Int) (DC DB : Nat → Nat) (NA : Nat → Nat → Int) (DA : Nat → Nat → Nat) (w : World) (hP : PgW w n m k PC PA PB Pr ln cp NC NB DC DB NA DA) (hn : n ≤ 1000000) (hm : m ≤ 1000000) (hk : k ≤ 1000000) (hl : ∀ i, i < m → ln i ≤ 1000000)
    (A : Nat → Nat → Rat) (C B : Nat → Rat) (eC : C = fun i => smq (NC i) (DC i)) (eB : B = fun i => smq (NB i) (DB i)) (eA : A = fun i j => smq (NA i j) (DA i j)) (hSm : ∀ (x : Int) (y : Nat), Sm (smq x y)) :
    Calls Try.prog 12 #[.agg #[.slice PC n cC, .slice PA m cA, .slice PB k cB]] w (OfRet n m k ln A C B w) := by
  have HP := Lib.hid hP; have HL := Lib.hid hl; have HSm := Lib.hid hSm; clear hP hl hSm
  have EC := Lib.hid eC; have EB := Lib.hid eB; have EA := Lib.hid eA; clear eC eB eA
  have HsC := Lib.hid (show ∀ i, i < n → Sm (C i) from fun i _ => by rw [EC.out]; exact HSm.out _ _)
  have HsB := Lib.hid (show ∀ i, i < k → Sm (B i) from fun i _ => by rw [EB.out]; exact HSm.out _ _)
  have HsA := Lib.hid (show ∀ i j, Sm (A i j) from fun i j => by rw [EA.out]; exact HSm.out _ _)
  go_enter Try.func12, Try.ntmps12
  go_upto_region 1 with (fail)
  have H1 := Lib.hid (((Blk.new w 25 #[.slice PC n cC, .slice PA m cA, .slice PB k cB]).keep (al _ (.cells #[.slice none 0 0, .slice none 0 0, .slice none 0 0] 31))).keep (al _ (.cells #[.slice none 0 0, .slice none 0 0, .slice none 0 0] 35)))
  have H2 := Lib.hid ((Blk.new (w.alloc (.cells #[.slice PC n cC, .slice PA m cA, .slice PB k cB] 25)) 31 #[.slice none 0 0, .slice none 0 0, .slice none 0 0]).keep (al _ (.cells #[.slice none 0 0, .slice none 0 0, .slice none 0 0] 35)))
  have H3 := Lib.hid (Blk.new ((w.alloc (.cells #[.slice PC n cC, .slice PA m cA, .slice PB k cB] 25)).alloc (.cells #[.slice none 0 0, .slice none 0 0, .slice none 0 0] 31)) 35 #[.slice none 0 0, .slice none 0 0, .slice none 0 0])
  have HB := Lib.hid (bthen (bthen (al w (.cells #[.slice PC n cC, .slice PA m cA, .slice PB k cB] 25)) (al _ (.cells #[.slice none 0 0, .slice none 0 0, .slice none 0 0] 31)) (by simp)) (al _ (.cells #[.slice none 0 0, .slice none 0 0, .slice none 0 0] 35)) (by simp; omega))
  rw [show (w.alloc (.cells #[.slice PC n cC, .slice PA m cA, .slice PB k cB] 25)).heap.size = w.heap.size + 1 from Array.size_push _] at H2
  rw [show ((w.alloc (.cells #[.slice PC n cC, .slice PA m cA, .slice PB k cB] 25)).alloc (.cells #[.slice none 0 0, .slice none 0 0, .slice none 0 0] 31)).heap.size = w.heap.size + 1 + 1 from by simp] at H3
  generalize ((w.alloc (.cells #[.slice PC n cC, .slice PA m cA, .slice PB k cB] 25)).alloc (.cells #[.slice none 0 0, .slice none 0 0, .slice none 0 0] 31)).alloc (.cells #[.slice none 0 0, .slice none 0 0, .slice none 0 0] 35) = w1 at *
  obtain ⟨g1, hg1⟩ : ∃ g1, g1 = w.heap.size := ⟨_, rfl⟩
  obtain ⟨g2, hg2⟩ : ∃ g2, g2 = w.heap.size + 1 := ⟨_, rfl⟩
  obtain ⟨g3, hg3⟩ : ∃ g3, g3 = w.heap.size + 1 + 1 := ⟨_, rfl⟩
  rw [← hg3] at H3 ⊢
  rw [← hg2] at H2 ⊢
  rw [← hg1] at H1 ⊢
  have HG2 := Lib.hid (show w.heap.size ≤ g2 by omega); have HG3 := Lib.hid (show w.heap.size ≤ g3 by omega)
  clear hg1 hg2 hg3
  obtain ⟨bs, hbs⟩ : ∃ bs, bs = w.heap.size := ⟨_, rfl⟩
  have HBs := Lib.hid hbs; clear hbs
  refine wp_region_join (kss := [[], [(0, 8)], [(1, 9)], [], [(3, 11)], [(4, 12)], [(2, 10), (5, 13)], []]) [(1, .pointer (some ⟨g1, 0, none⟩))] [EV (.pointer (some ⟨g1, 0, none⟩)), EV (.slice PC n cC), fun v w' => ∃ (A0 : Option Addr) (c0 : Nat), v = .slice A0 n c0 ∧ OwnC w' bs 58 2 (.slice A0 n c0) n (qsL C n), EV (.pointer (some ⟨g1, 2, none⟩)), EV (.slice PB k cB), fun v w' => ∃ (A0 : Option Addr) (c0 : Nat), v = .slice A0 k c0 ∧ OwnC w' bs 58 2 (.slice A0 k c0) k (qsL B k), fun v w' => ∃ (A0 : Option Addr) (c0 : Nat) (A1 : Option Addr) (c1 : Nat), v = .agg #[.slice A0 n c0, .slice none 0 0, .slice A1 k c1] ∧ OwnC w' bs 58 2 (.slice A0 n c0) n (qsL C n) ∧ OwnC w' bs 58 2 (.slice A1 k c1) k (qsL B k), Zr w1.heap.size] 8 [] (by kernel_rfl) (by kernel_rfl) ⟨rfl, trivial⟩ [false, false, false, false, false, false, false, true] ?_ ?_ ?_ ?_
  · exact fun i hi => absurd hi (by simp)
  · exact ⟨eI, eI, fun _ _ _ ⟨A0, c0, h1, h2⟩ hb => ⟨A0, c0, h1, h2.below hb⟩, eI, eI, fun _ _ _ ⟨A0, c0, h1, h2⟩ hb => ⟨A0, c0, h1, h2.below hb⟩, fun _ _ _ ⟨A0, c0, A1, c1, h1, h2, h3⟩ hb => ⟨A0, c0, A1, c1, h1, h2.below hb, h3.below hb⟩, fun _ _ _ h hb => h.new hb, trivial⟩
  · refine ⟨?_, ?_, ?_, ?_, ?_, ?_, ?_, ?_, trivial⟩
    · exact fun aa ww hb he hd => ob_plain rfl (fld_pgm rfl (by decide) he.1)
    · exact fun aa ww hb he hd => ob_plain rfl (load_c22 rfl hd.1 (Blk.at0 H1.out hb))
    · exact fun aa ww hb he hd => ob_plain rfl (gives_call1 _ _ _ rfl (by kernel_rfl) (by rw [show aa.eval (.tmp 9) = .slice PC n cC from hd.1]; exact (qs_any n cC PC NC DC _ ((HP.out.new (bthen HB.out hb HB.out.size)).c) (HP.out.sc) (by omega)).mono (fun _ _ ⟨A0, c0, h1, h2, h3⟩ => ⟨_, h1, ⟨A0, c0, rfl, by rw [EC.out]; exact h2.lower (by rw [HBs.out]; exact Nat.le_trans HB.out.size hb.size)⟩, h3⟩)))
    · exact fun aa ww hb he hd => ob_plain rfl (fld_pgm rfl (by decide) he.1)
    · exact fun aa ww hb he hd => ob_plain rfl (load_c22 rfl hd.1 (Blk.at2 H1.out hb))
    · exact fun aa ww hb he hd => ob_plain rfl (gives_call1 _ _ _ rfl (by kernel_rfl) (by rw [show aa.eval (.tmp 12) = .slice PB k cB from hd.1]; exact (qs_any k cB PB NB DB _ ((HP.out.new (bthen HB.out hb HB.out.size)).b) (HP.out.sb) (by omega)).mono (fun _ _ ⟨A0, c0, h1, h2, h3⟩ => ⟨_, h1, ⟨A0, c0, rfl, by rw [EB.out]; exact h2.lower (by rw [HBs.out]; exact Nat.le_trans HB.out.size hb.size)⟩, h3⟩)))
    · exact fun aa ww hb he hd => ob_plain rfl (by obtain ⟨A0, c0, h1, h2⟩ := hd.1; obtain ⟨A1, c1, h3, h4⟩ := hd.2.1; exact gives_mono (gives_built2 rfl h1 h3 (built_rpb2 _ _ _ _ _ _)) (fun v w' ⟨h5, h6⟩ => ⟨⟨A0, c0, A1, c1, h5, h2.below h6, h4.below h6⟩, h6⟩))
    · exact fun aa ww hb he hd => ⟨by simp [Region.wanted], alloc_rpb rfl hb⟩
  intro vs w2 hb hR _
  have r14 := hR 6 (by decide)
  have r4 := hR 7 (by decide)
  clear hR
  simp only [putsL, Nat.zero_add, Nat.reduceAdd, List.take_succ_cons, List.take_zero, Act.put, List.setIfInBounds_toArray, List.set_cons_zero, List.set_cons_succ]
  obtain ⟨QC, qc, QB, qb, k14, hq1, hq2⟩ := (show ∃ (A0 : Option Addr) (c0 : Nat) (A1 : Option Addr) (c1 : Nat), vs 6 = .agg #[.slice A0 n c0, .slice none 0 0, .slice A1 k c1] ∧ OwnC w2 bs 58 2 (.slice A0 n c0) n (qsL C n) ∧ OwnC w2 bs 58 2 (.slice A1 k c1) k (qsL B k) from r14)
  obtain ⟨g4, k4, hg4, hb4⟩ := (show Zr w1.heap.size (vs 7) w2 from r4)
  clear r14 r4
  rw [k14, k4]
  clear k14 k4
  show wpAny _ _ _ _ 1 _ _ _
  refine wpAny_next (i := 8) (by kernel_rfl) rfl rfl (store_rpb (g := g4) rfl rfl rfl rfl hb4 (by simp) (by simp [Value.oneCell']) ?_)
  intro w3 kp hg hsz hG
  have H4 := Lib.hid hG
  have HbC := Lib.hid (hq1.blk hb4 (by decide) hg)
  have HbB := Lib.hid (hq2.blk hb4 (by decide) hg)
  have hbelow : Below w1.heap.size w1 w3 := hb.grown hg hb.size (fun x hx => by cases hx; exact hg4)
  have HN34 := Lib.hid (show g3 ≠ g4 from by have := H3.out.lt; omega)
  have HG4 := Lib.hid (show bs ≤ g4 from by rw [HBs.out]; exact Nat.le_trans HB.out.size hg4)
  have H1n := Lib.hid (H1.out.keep hbelow); have H2n := Lib.hid (H2.out.keep hbelow); have H3n := Lib.hid (H3.out.keep hbelow)
  have HBn := Lib.hid (bthen HB.out hbelow HB.out.size)
  clear hb kp hg hsz hG hq1 hq2 hb4 hg4 hbelow H1 H2 H3 HB
  refine wpAny_end (by kernel_rfl) (calm_normal ?_) _
  go_upto_region 2 with (fail)
  refine wp_region_join (kss := [[], [(0, 15)], [(1, 16)], [], [(3, 18)], [(4, 19)], [(2, 17), (5, 20)], []]) [(4, .pointer (some ⟨g4, 0, none⟩))] [EV (.pointer (some ⟨g4, 0, none⟩)), EV (.slice QC n qc), fun v w' => ∃ (A0 : Option Addr) (c0 : Nat), v = .slice A0 n c0 ∧ OR w' bs (.slice A0 n c0) n (PN w' 2 C), EV (.pointer (some ⟨g4, 2, none⟩)), EV (.slice QB k qb), fun v w' => ∃ (A0 : Option Addr) (c0 : Nat), v = .slice A0 k c0 ∧ OR w' bs (.slice A0 k c0) k (PN w' 2 B), fun v w' => ∃ (A0 : Option Addr) (c0 : Nat) (A1 : Option Addr) (c1 : Nat), v = .agg #[.slice A0 n c0, .slice none 0 0, .slice A1 k c1] ∧ OR w' bs (.slice A0 n c0) n (PN w' 2 C) ∧ OR w' bs (.slice A1 k c1) k (PN w' 2 B), Zp w3.heap.size] 8 [] (by kernel_rfl) (by kernel_rfl) ⟨rfl, trivial⟩ [false, false, false, false, false, false, false, true] ?_ ?_ ?_ ?_
  · exact fun i hi => absurd hi (by simp)
  · exact ⟨eI, eI, fun _ _ _ ⟨A0, c0, h1, h2⟩ hb => ⟨A0, c0, h1, h2.newN hb⟩, eI, eI, fun _ _ _ ⟨A0, c0, h1, h2⟩ hb => ⟨A0, c0, h1, h2.newN hb⟩, fun _ _ _ ⟨A0, c0, A1, c1, h1, h2, h3⟩ hb => ⟨A0, c0, A1, c1, h1, h2.newN hb, h3.newN hb⟩, fun _ _ _ h hb => h.new hb, trivial⟩
  · refine ⟨?_, ?_, ?_, ?_, ?_, ?_, ?_, ?_, trivial⟩
    · exact fun aa ww hb he hd => ob_plain rfl (fld_rpb rfl (by decide) he.1)
    · exact fun aa ww hb he hd => ob_plain rfl (load_c32 rfl hd.1 (Blk.at0 H4.out hb))
    · exact fun aa ww hb he hd => ob_plain rfl (gives_call1 _ _ _ rfl (by kernel_rfl) (by rw [show aa.eval (.tmp 16) = .slice QC n qc from hd.1]; exact (Rats_any n qc QC C _ (Reads.of_own (HbC.out.below hb).own) (HsC.out) (by omega)).mono (fun _ _ ⟨A0, c0, h1, h2, h3⟩ => ⟨_, h1, ⟨A0, c0, rfl, h2.lower (by rw [HBs.out]; exact Nat.le_trans HBn.out.size hb.size)⟩, h3⟩)))
    · exact fun aa ww hb he hd => ob_plain rfl (fld_rpb rfl (by decide) he.1)
    · exact fun aa ww hb he hd => ob_plain rfl (load_c32 rfl hd.1 (Blk.at2 H4.out hb))
    · exact fun aa ww hb he hd => ob_plain rfl (gives_call1 _ _ _ rfl (by kernel_rfl) (by rw [show aa.eval (.tmp 19) = .slice QB k qb from hd.1]; exact (Rats_any k qb QB B _ (Reads.of_own (HbB.out.below hb).own) (HsB.out) (by omega)).mono (fun _ _ ⟨A0, c0, h1, h2, h3⟩ => ⟨_, h1, ⟨A0, c0, rfl, h2.lower (by rw [HBs.out]; exact Nat.le_trans HBn.out.size hb.size)⟩, h3⟩)))
    · exact fun aa ww hb he hd => ob_plain rfl (by obtain ⟨A0, c0, h1, h2⟩ := hd.1; obtain ⟨A1, c1, h3, h4⟩ := hd.2.1; exact gives_mono (gives_built2 rfl h1 h3 (built_prb2 _ _ _ _ _ _)) (fun v w' ⟨h5, h6⟩ => ⟨⟨A0, c0, A1, c1, h5, h2.newN h6, h4.newN h6⟩, h6⟩))
    · exact fun aa ww hb he hd => ⟨by simp [Region.wanted], alloc_prb rfl hb⟩
  intro vs w4 hb hR _
  have r21 := hR 6 (by decide)
  have r5 := hR 7 (by decide)
  clear hR
  simp only [putsL, Nat.zero_add, Nat.reduceAdd, List.take_succ_cons, List.take_zero, Act.put, List.setIfInBounds_toArray, List.set_cons_zero, List.set_cons_succ]
  obtain ⟨YC, yc, YB, yb, k21, hy1, hy2⟩ := (show ∃ (A0 : Option Addr) (c0 : Nat) (A1 : Option Addr) (c1 : Nat), vs 6 = .agg #[.slice A0 n c0, .slice none 0 0, .slice A1 k c1] ∧ OR w4 bs (.slice A0 n c0) n (PN w4 2 C) ∧ OR w4 bs (.slice A1 k c1) k (PN w4 2 B) from r21)
  obtain ⟨g5, k5, hg5, hb5⟩ := (show Zp w3.heap.size (vs 7) w4 from r5)
  clear r21 r5
  rw [k21, k5]
  clear k21 k5
  show wpAny _ _ _ _ 1 _ _ _
  refine wpAny_next (i := 8) (by kernel_rfl) rfl rfl (store_prb (g := g5) rfl rfl rfl rfl hb5 (by simp) (by simp [Value.oneCell']) ?_)
  intro w5 kp hg hsz hG
  have hbelow : Below w3.heap.size w3 w5 := hb.grown hg hb.size (fun x hx => by cases hx; exact hg5)
  have HN := Lib.hid (show g2 ≠ g5 from by have := H2n.out.lt; omega)
  have HI0 := Lib.hid (show OfI bs w5 n k 0 0 g4 g5 QC none QB YC none YB qc 0 qb yc 0 yb (fun _ => none) (fun _ => none) (fun _ => 0) (fun _ => 0) ln A C B from
    ⟨⟨HbC.out.below hbelow, HbB.out.below hbelow, fun l hl => absurd hl (by omega), hy1.blk hb5 (by decide) hg (fun j u _ hv => PN.keep hv kp), hy2.blk hb5 (by decide) hg (fun j u _ hv => PN.keep hv kp), fun l hl => absurd hl (by omega)⟩,
      H4.out.keep hbelow, hG, OwnC.nil _ _ _ _, OwnC.nil _ _ _ _, by rw [HBs.out]; exact Nat.le_trans HBn.out.size hbelow.size, HG4.out, by rw [HBs.out]; exact Nat.le_trans HBn.out.size hg5⟩)
  have HN3 := Lib.hid (show g3 ≠ g4 ∧ g3 ≠ g5 from ⟨HN34.out, by have := H3n.out.lt; omega⟩)
  have H1 := Lib.hid (H1n.out.keep hbelow); have H2 := Lib.hid (H2n.out.keep hbelow); have H3 := Lib.hid (H3n.out.keep hbelow)
  have HB := Lib.hid (bthen HBn.out hbelow HBn.out.size)
  clear hb kp hg hsz hG hy1 hy2 hb5 hg5 hbelow H1n H2n H3n HBn HbC HbB H4
  refine wpAny_end (by kernel_rfl) (calm_normal ?_) _
  go_wp2_with fail
  go_loopg [6] m (fun g iv wr => ∃ (i : Nat) (QA YA : Option Addr) (qa ya : Nat) (Qr Yr : Nat → Option Addr) (qp yp : Nat → Nat), iv = .int .i64 i ∧ i + g = m ∧ Hid (OfI bs wr n k i i g4 g5 QC QA QB YC YA YB qc qa qb yc ya yb Qr Yr qp yp ln A C B ∧ Blk wr g1 25 #[.slice PC n cC, .slice PA m cA, .slice PB k cB] ∧ Blk wr g2 31 #[.slice none 0 0, .slice none 0 0, .slice none 0 0] ∧ Blk wr g3 35 #[.slice none 0 0, .slice none 0 0, .slice none 0 0] ∧ Below w.heap.size w wr))
  case atStart => exact ⟨0, none, none, 0, 0, fun _ => none, fun _ => none, fun _ => 0, fun _ => 0, rfl, by omega, Lib.hid ⟨HI0.out, H1.out, H2.out, H3.out, HB.out⟩⟩
  case round =>
    obtain ⟨i, QA, YA, qa, ya, Qr, Yr, qp, yp, rfl, him, HI⟩ := hrel
    clear HI0 H1 H2 H3 HB
    have HT := Lib.hid HI.out.1
    have H1 := Lib.hid HI.out.2.1
    have H2 := Lib.hid HI.out.2.2.1
    have H3 := Lib.hid HI.out.2.2.2.1
    have HB := Lib.hid HI.out.2.2.2.2
    clear HI
    have c1 := H1.out.at1 (Below.refl _ _)
    by_cases hi : i < m
    · have i1 : ((i : Int) < (m : Int)) := by omega
      have i0 : (0 : Int) ≤ (i : Int) := by omega
      obtain ⟨ad, e9, had, hcs⟩ := (HP.out.new HB.out).a.2 (by omega)
      have hr := hcs i _ (by rw [List.getElem?_map, List.getElem?_range hi]; rfl)
      subst e9
      clear hcs had
      have HR := Lib.hid ((HP.out.new HB.out).row i hi)
      have HSm2 := Lib.hid (HP.out.sa i hi)
      have HLi := Lib.hid (HL.out i hi)
      go_wp2_with fail
      refine (qs_any (ln i) (cp i) (Pr i) (NA i) (DA i) _ HR.out HSm2.out HLi.out).mono ?_
      rintro e w6 ⟨A6, c6, rfl, h6, hb⟩
      have h6' : OwnC w6 bs 58 2 (.slice A6 (ln i) c6) (ln i) (qsL (A i) (ln i)) := by
        rw [EA.out]; exact h6.lower (by rw [HBs.out]; exact HB.out.size)
      have H6 := Lib.hid h6'
      clear h6 h6' hr c1 HR HSm2
      have HT6 := Lib.hid (HT.out.below hb); have H16 := Lib.hid (H1.out.keep hb); have H26 := Lib.hid (H2.out.keep hb); have H36 := Lib.hid (H3.out.keep hb); have HB6 := Lib.hid (bthen HB.out hb HB.out.size)
      clear HT H1 H2 H3 HB hb
      have c1 := HT6.out.x.at1 (Below.refl _ _); have f1 := HT6.out.x.frozen 1; have pl := HT6.out.x.lt
      go_upto_region 8 with (at_builtin; refine app_qrows rfl _ _ rfl bs (.slice QA i qa) i (rwL Qr ln qp i) rfl (HT6.out.xl.alloc _) w6.heap.size A6 (ln i) c6 rfl (Blk.new _ _ _) (by omega) (by have := HT6.out.low.1; simp; omega) ?_; intro v' w7 ho hgr hor kp; obtain ⟨A9, c9, rfl⟩ := own_form ho.own; obtain ⟨hbk, hTn⟩ := (HT6.out.below (al w6 _)).pushQ (H6.out.below (al w6 _)) ho hgr kp; clear c1 f1 pl; have c1 := Blk.at1 hbk (Below.refl _ _); have f1 := hbk.frozen 1; have pl := hbk.lt; have HTn := Lib.hid hTn; clear hTn hbk)
      have hbw : Below w.heap.size w (w7.setCell ⟨g4, 1, none⟩ (.slice A9 (i + 1) c9)) := by
        have h1 := bthen HB6.out (al w6 (.cells #[.slice A6 (ln i) c6] 32)) HB6.out.size
        exact (Below.appended h1 (HT6.out.xl.own.alloc _) hgr (by have := HB6.out.size; simp; omega) (by rw [HBs.out]; exact Nat.le_refl _)).setCell (p := ⟨g4, 1, none⟩) (by rw [← HBs.out]; exact HG4.out) _
      have HB7 := Lib.hid hbw
      have H17 := Lib.hid (((H16.out.keep (al w6 _)).appended (HT6.out.xl.own.alloc _) hgr (by decide)).far (p := ⟨g4, 1, none⟩) (fun e => Blk.ne_ H16.out HT6.out.x (by decide) e) (.slice A9 (i + 1) c9))
      have H27 := Lib.hid (((H26.out.keep (al w6 _)).appended (HT6.out.xl.own.alloc _) hgr (by decide)).far (p := ⟨g4, 1, none⟩) (fun e => Blk.ne_ H26.out HT6.out.x (by decide) e) (.slice A9 (i + 1) c9))
      have H37 := Lib.hid (((H36.out.keep (al w6 _)).appended (HT6.out.xl.own.alloc _) hgr (by decide)).far (p := ⟨g4, 1, none⟩) HN3.out.1 (.slice A9 (i + 1) c9))
      have HQ7 := Lib.hid (HTn.out.r.rq i (by omega))
      rw [put1_at, put1_at] at HQ7
      clear HT6 H16 H26 H36 HB6 H6 ho hgr hor kp c1 f1 pl hbw
      generalize w7.setCell ⟨g4, 1, none⟩ (.slice A9 (i + 1) c9) = w8 at *
      refine wp_region_join (kss := [[], [(0, 41)], [], [(2, 43)], [(3, 44)]]) [(5, .pointer (some ⟨g5, 0, none⟩)), (7, .slice A6 (ln i) c6)] [EV (.pointer (some ⟨g5, 1, none⟩)), EV (.slice YA i ya), EV (.slice A6 (ln i) c6), fun v w' => ∃ (A0 : Option Addr) (c0 : Nat), v = .slice A0 (ln i) c0 ∧ OR w' bs (.slice A0 (ln i) c0) (ln i) (PN w' 2 (A i)), fun v w' => ∃ (g0 : Nat) (A0 : Option Addr) (c0 : Nat), v = .slice (some ⟨g0, 0, none⟩) 1 1 ∧ Blk w' g0 28 #[.slice A0 (ln i) c0] ∧ OR w' bs (.slice A0 (ln i) c0) (ln i) (PN w' 2 (A i))] 5 [] (by kernel_rfl) (by kernel_rfl) ⟨rfl, rfl, trivial⟩ [false, false, false, false, false] ?_ ?_ ?_ ?_
      · exact fun i hi => absurd hi (by simp)
      · exact ⟨eI, eI, eI, fun _ _ _ ⟨A0, c0, h1, h2⟩ hb => ⟨A0, c0, h1, h2.newN hb⟩, fun _ _ _ ⟨g0, A0, c0, h1, h2, h3⟩ hb => ⟨g0, A0, c0, h1, h2.keep hb, h3.newN hb⟩, trivial⟩
      · refine ⟨?_, ?_, ?_, ?_, ?_, trivial⟩
        · exact fun aa ww hb he hd => ob_plain rfl (fld_prb rfl (by decide) he.1)
        · exact fun aa ww hb he hd => ob_plain rfl (load_c29 rfl hd.1 (Blk.at1 HTn.out.y hb))
        · exact fun _ _ _ he hd => ob_mv rfl rfl he.2.1
        · exact fun aa ww hb he hd => ob_plain rfl (gives_call1 _ _ _ rfl (by kernel_rfl) (by rw [show aa.eval (.tmp 43) = .slice A6 (ln i) c6 from hd.1]; exact (Rats_any (ln i) c6 A6 (A i) _ (Reads.of_own (HQ7.out.below hb).own) (fun l _ => HsA.out i l) (by exact HLi.out)).mono (fun _ _ ⟨A0, c0, h1, h2, h3⟩ => ⟨_, h1, ⟨A0, c0, rfl, h2.lower (by rw [HBs.out]; exact Nat.le_trans HB7.out.size hb.size)⟩, h3⟩)))
        · exact fun aa ww hb he hd => ob_plain rfl (by obtain ⟨A0, c0, h1, h2⟩ := hd.1; exact gives_mono (gives_bs_rows rfl h1) (fun v w' ⟨⟨g0, h3, h4⟩, h5⟩ => ⟨⟨g0, A0, c0, h3, h4, h2.newN h5⟩, h5⟩))
      intro vs w9 hb hR _
      have r45 := hR 4 (by decide)
      have e42 : vs 1 = .slice YA i ya := hR 1 (by decide)
      clear hR
      simp only [putsL, Nat.zero_add, Nat.reduceAdd, List.take_succ_cons, List.take_zero, Act.put, List.setIfInBounds_toArray, List.set_cons_zero, List.set_cons_succ]
      rw [e42]
      clear e42
      obtain ⟨g0, A0, c0, k45, hb0, hy0⟩ := (show ∃ (g0 : Nat) (A0 : Option Addr) (c0 : Nat), vs 4 = .slice (some ⟨g0, 0, none⟩) 1 1 ∧ Blk w9 g0 28 #[.slice A0 (ln i) c0] ∧ OR w9 bs (.slice A0 (ln i) c0) (ln i) (PN w9 2 (A i)) from r45)
      clear r45
      rw [k45]
      clear k45
      show wpAny _ _ _ _ 3 _ _ _
      refine wpAny_next (i := 5) (by kernel_rfl) rfl rfl (wp_app_rows _ _ rfl bs (.slice YA i ya) i _ rfl (HTn.out.yl.below hb) g0 A0 (ln i) c0 rfl hb0 (by omega) (Nat.le_trans HTn.out.low.1 hb.size) ?_)
      intro v' w10 ho hgr hor kp
      obtain ⟨A8, c8, rfl⟩ := own_form ho.own
      simp only [Act.put, List.setIfInBounds_toArray, List.set_cons_zero, List.set_cons_succ]
      refine wpAny_next (i := 6) (by kernel_rfl) rfl rfl (wp_of_gives (fld_prb_w rfl (by decide) rfl) ?_)
      rintro _ w10 ⟨rfl, rfl⟩
      simp only [Act.put, List.setIfInBounds_toArray, List.set_cons_zero, List.set_cons_succ]
      have hlo : bs ≤ w9.heap.size := Nat.le_trans HTn.out.low.1 hb.size
      obtain ⟨hbk, hTm⟩ := (HTn.out.below hb).pushY hy0 ho hgr kp
      refine wpAny_next (i := 7) (by kernel_rfl) rfl rfl (wp_store_c29 rfl rfl rfl rfl (Blk.at1 hbk (Below.refl _ _)) (hbk.frozen 1) ?_)
      refine wpAny_end (by kernel_rfl) (calm_normal ?_) _
      have HTm := Lib.hid hTm
      have HBm := Lib.hid ((Below.appended (bthen HB7.out hb HB7.out.size) (HTn.out.yl.own |> fun h => own_below h hb) hgr (by rw [← HBs.out]; exact hlo) (by rw [HBs.out]; exact Nat.le_refl _)).setCell (p := ⟨g5, 1, none⟩) (by rw [← HBs.out]; exact HTn.out.low.2.2) (.slice A8 (i + 1) c8))
      have hyo := (HTn.out.below hb).yl.own
      have H1m := Lib.hid (((H17.out.keep hb).appended hyo hgr (by decide)).far (p := ⟨g5, 1, none⟩) (fun e => Blk.ne_ H17.out HTn.out.y (by decide) e) (.slice A8 (i + 1) c8))
      have H2m := Lib.hid (((H27.out.keep hb).appended hyo hgr (by decide)).far (p := ⟨g5, 1, none⟩) HN.out (.slice A8 (i + 1) c8))
      have H3m := Lib.hid (((H37.out.keep hb).appended hyo hgr (by decide)).far (p := ⟨g5, 1, none⟩) HN3.out.2 (.slice A8 (i + 1) c8))
      clear hyo hlo hTm hbk hb ho hgr hor kp hb0 hy0 HTn HB7 H17 H27 H37 HQ7
      generalize w10.setCell ⟨g5, 1, none⟩ (.slice A8 (i + 1) c8) = w11 at *
      go_wp2_with fail
      go_roundg (gk - 1)
      case measure => omega
      case rel => exact ⟨i + 1, A9, A8, c9, c8, _, _, _, _, by go_num, by omega, Lib.hid ⟨HTm.out, H1m.out, H2m.out, H3m.out, HBm.out⟩⟩
    · obtain rfl : m = i := by omega
      have y0 := HT.out.y.at0 (Below.refl _ _); have y1 := HT.out.y.at1 (Below.refl _ _); have y2 := HT.out.y.at2 (Below.refl _ _)
      have q0 := HT.out.x.at0 (Below.refl _ _); have q1 := HT.out.x.at1 (Below.refl _ _); have q2 := HT.out.x.at2 (Below.refl _ _)
      have r0 := H2.out.at0 (Below.refl _ _); have r1 := H2.out.at1 (Below.refl _ _); have r2 := H2.out.at2 (Below.refl _ _)
      have f0 := H2.out.frozen 0; have f1 := H2.out.frozen 1; have f2 := H2.out.frozen 2
      have s0 := H3.out.at0 (Below.refl _ _); have s1 := H3.out.at1 (Below.refl _ _); have s2 := H3.out.at2 (Below.refl _ _)
      have k0 := H3.out.frozen 0; have k1 := H3.out.frozen 1; have k2 := H3.out.frozen 2
      have l2 := H2.out.lt; have l3 := H3.out.lt; have l4 := HT.out.x.lt; have l5 := HT.out.y.lt
      have n24 : g2 ≠ g4 := Blk.ne_ H2.out HT.out.x (by decide)
      have n25 : g2 ≠ g5 := HN.out
      have n23 : g2 ≠ g3 := Blk.ne_ H2.out H3.out (by decide)
      have n34 : g3 ≠ g4 := HN3.out.1
      have n35 : g3 ≠ g5 := HN3.out.2
      go_upto_region 9 with (fail)
      clear c1
      go_region_law (fail)
      all_goals
        clear y0 y1 y2 q0 q1 q2 r0 r1 r2 f0 f1 f2 s0 s1 s2 k0 k1 k2 l2 l3 l4 l5
        have p1 := H2.out.set_ 0 (.slice YC n yc)
        have p2 := p1.set_ 1 (.slice YA m ya)
        have p3 := p2.set_ 2 (.slice YB k yb)
        have t1 := H3.out.far (p := ⟨g2, 0, none⟩) (Ne.symm n23) (.slice YC n yc)
        have t2 := t1.far (p := ⟨g2, 1, none⟩) (Ne.symm n23) (.slice YA m ya)
        have t3 := t2.far (p := ⟨g2, 2, none⟩) (Ne.symm n23) (.slice YB k yb)
        have t4 := t3.set_ 0 (.slice QC n qc)
        have t5 := t4.set_ 1 (.slice QA m qa)
        have t6 := t5.set_ 2 (.slice QB k qb)
        have p4 := p3.far (p := ⟨g3, 0, none⟩) n23 (.slice QC n qc)
        have p5 := p4.far (p := ⟨g3, 1, none⟩) n23 (.slice QA m qa)
        have p6 := p5.far (p := ⟨g3, 2, none⟩) n23 (.slice QB k qb)
        have o1 := HT.out.set H2.out (j := 0) (.inl rfl) (Ne.symm n24) (Ne.symm n25) (by decide) (by intro x; simp) (.slice YC n yc)
        have o2 := o1.set p1 (j := 1) (.inl rfl) (Ne.symm n24) (Ne.symm n25) (by simp) (by intro x; simp) (.slice YA m ya)
        have o3 := o2.set p2 (j := 2) (.inl rfl) (Ne.symm n24) (Ne.symm n25) (by simp) (by intro x; simp) (.slice YB k yb)
        have o4 := o3.set t3 (j := 0) (.inr rfl) (Ne.symm n34) (Ne.symm n35) (by decide) (by intro x; simp) (.slice QC n qc)
        have o5 := o4.set t4 (j := 1) (.inr rfl) (Ne.symm n34) (Ne.symm n35) (by simp) (by intro x; simp) (.slice QA m qa)
        have o6 := o5.set t5 (j := 2) (.inr rfl) (Ne.symm n34) (Ne.symm n35) (by simp) (by intro x; simp) (.slice QB k qb)
        have HF := Lib.hid o6.fin
        have HZ := Lib.hid (And.intro p6.drew t6.drew)
        have HBf := Lib.hid ((((((HB.out.setCell (p := ⟨g2, 0, none⟩) HG2.out (.slice YC n yc)).setCell (p := ⟨g2, 1, none⟩) HG2.out (.slice YA m ya)).setCell (p := ⟨g2, 2, none⟩) HG2.out (.slice YB k yb)).setCell (p := ⟨g3, 0, none⟩) HG3.out (.slice QC n qc)).setCell (p := ⟨g3, 1, none⟩) HG3.out (.slice QA m qa)).setCell (p := ⟨g3, 2, none⟩) HG3.out (.slice QB k qb))
        clear p1 p2 p3 p4 p5 p6 t1 t2 t3 t4 t5 t6 o1 o2 o3 o4 o5 o6
        generalize hW : (((((wr.setCell ⟨g2, 0, none⟩ (.slice YC n yc)).setCell ⟨g2, 1, none⟩ (.slice YA m ya)).setCell ⟨g2, 2, none⟩ (.slice YB k yb)).setCell ⟨g3, 0, none⟩ (.slice QC n qc)).setCell ⟨g3, 1, none⟩ (.slice QA m qa)).setCell ⟨g3, 2, none⟩ (.slice QB k qb) = W at *
        go_wp2_with fail
        refine bodyPost_ret (v := .tuple #[.agg #[.slice YC n yc, .slice YA m ya, .slice YB k yb], .agg #[.slice QC n qc, .slice QA m qa, .slice QB k qb]]) (results_cell2 Try.results12 _ _ _ _ _ _ _ _ _ _ rfl rfl HZ.out.1 HZ.out.2 Try.underlying31 rfl rfl Try.underlying35 rfl rfl) rfl ?_
        exact ⟨YC, YA, YB, QC, QA, QB, Yr, Qr, yp, qp, yc, ya, yb, qc, qa, qb, rfl, PrW.new HF.out.1 (Below.drew (Below.refl _ _)), RqW.new HF.out.2 (Below.drew (Below.refl _ _)), Below.drew HBf.out⟩
end Go.Proofs.Ytamcibmjpmibdaa
namespace Go.Proofs.Ytamcibmjpmibdaa
open Go.RowKit Go.ChangeShapes Go.WideShapes Go.Deep
set_option linter.unusedVariables false

namespace bulks
theorem one_le {H : Type} (d : DataW H) : 1 ≤ Rows.uptoBulk d := by
  cases d with
  | lit l => cases l <;> simp [Rows.uptoBulk]
  | nil => simp [Rows.uptoBulk]
  | ptr d => simp [Rows.uptoBulk]
  | slice elems spare => simp [Rows.uptoBulk]
  | agg parts => simp [Rows.uptoBulk]
  | iface t d => simp [Rows.uptoBulk]
  | map entries => simp [Rows.uptoBulk]
  | held h => simp [Rows.uptoBulk]
theorem part_le {H : Type} {d : DataW H} : ∀ {l : List (DataW H)}, d ∈ l → Rows.uptoBulk d ≤ Rows.uptoBulkAll l
  | [], h => by cases h
  | x :: r, h => by
    simp only [Rows.uptoBulkAll]
    rcases List.mem_cons.1 h with e | e
    · subst e; omega
    · have := part_le e; omega
theorem length_le {H : Type} : ∀ (l : List (DataW H)), l.length ≤ Rows.uptoBulkAll l
  | [] => by simp
  | x :: r => by have := one_le x; have := length_le r; simp only [Rows.uptoBulkAll, List.length_cons]; omega
theorem append {H : Type} (l r : List (DataW H)) : Rows.uptoBulkAll (l ++ r) = Rows.uptoBulkAll l + Rows.uptoBulkAll r := by
  induction l with
  | nil => simp [Rows.uptoBulkAll]
  | cons x l ih => simp only [List.cons_append, Rows.uptoBulkAll, ih]; omega
theorem pairs {H : Type} (E F : Nat → DataW H) : ∀ n, 3 * n ≤ Rows.uptoBulkAll ((List.range n).map fun i => .agg [E i, F i])
  | 0 => by omega
  | n + 1 => by
    have h := pairs E F n
    have h1 := one_le (E n); have h2 := one_le (F n)
    rw [List.range_succ, List.map_append, append]
    simp only [List.map_cons, List.map_nil, Rows.uptoBulkAll, Rows.uptoBulk]
    omega
theorem slice_len {H : Type} {n : Nat} (E : Nat → DataW H) (sp : List (DataW H)) : n ≤ Rows.uptoBulk (.slice ((List.range n).map E) sp) := by
  have h := length_le ((List.range n).map E)
  simp only [List.length_map, List.length_range] at h
  simp only [Rows.uptoBulk]
  omega
theorem slice_at {H : Type} {n i : Nat} (E : Nat → DataW H) (sp : List (DataW H)) (hi : i < n) : Rows.uptoBulk (E i) ≤ Rows.uptoBulk (.slice ((List.range n).map E) sp) := by
  have h := part_le (l := (List.range n).map E) (List.mem_map.2 ⟨i, List.mem_range.2 hi, rfl⟩)
  simp only [Rows.uptoBulk]
  omega
theorem agg_at {H : Type} {d : DataW H} {l : List (DataW H)} (h : d ∈ l) : Rows.uptoBulk d ≤ Rows.uptoBulk (.agg l) := by
  have := part_le h
  simp only [Rows.uptoBulk]
  omega
theorem bound {H : Type} {l : List (DataW H)} (hk : Rows.uptoSmall H l = true) : Rows.uptoBulkAll l ≤ 1048576 := by
  simpa [Rows.uptoSmall] using hk
theorem arg {H : Type} {d : DataW H} {l : List (DataW H)} (hk : Rows.uptoSmall H l = true) (h : d ∈ l) : Rows.uptoBulk d ≤ 1048576 := Nat.le_trans (part_le h) (bound hk)
end bulks
section
variable {H : Type} {enc : TypeId × Value → H} {w : World} {base : Nat} {spare : Nat → Bool} {held : Bool}
theorem open_smalls' {fuel : Nat} {v : Value} {x : DataW H × List MemPlace} (h : DataW.trod enc Try.prog w base spare held fuel 22 [v] = some x) :
    ∃ (A : Option Addr) (len cap : Nat) (N : Nat → Int) (D : Nat → Nat), v = .slice A len cap ∧ Reads w w.heap.size 2 A len (smL N D len) ∧ SmB N D len ∧ 3 * len ≤ Rows.uptoBulk x.1 := by
  obtain ⟨A, len, cap, N, D, h1, h2, h3, h4⟩ := open_smalls h
  refine ⟨A, len, cap, N, D, h1, h2, h3, ?_⟩
  rcases h4 with ⟨_, h⟩ | ⟨E, F, sp, h⟩
  · omega
  · rw [h]
    have := bulks.pairs E F len
    simp only [Rows.uptoBulk]
    omega
theorem open_smrows {fuel : Nat} {v : Value} {x : DataW H × List MemPlace} (h : DataW.trod enc Try.prog w base spare held fuel 23 [v] = some x) :
    ∃ (A : Option Addr) (len cap : Nat) (Pr : Nat → Option Addr) (ln cp : Nat → Nat) (N : Nat → Nat → Int) (D : Nat → Nat → Nat), v = .slice A len cap ∧ Reads w w.heap.size 1 A len (rwL Pr ln cp len) ∧
      (∀ i, i < len → Reads w w.heap.size 2 (Pr i) (ln i) (smL (N i) (D i) (ln i)) ∧ SmB (N i) (D i) (ln i) ∧ 3 * ln i ≤ Rows.uptoBulk x.1) ∧ len ≤ Rows.uptoBulk x.1 := by
  rcases open_slice1 Try.underlying23 (by kernel_rfl) h with ⟨hcs, hx⟩ | ⟨a, len, cap, m, n, V, D, Pl, hcs, hb, hl, hm, hmm, hx, hc⟩
  · cases hcs
    exact ⟨none, 0, 0, fun _ => none, fun _ => 0, fun _ => 0, fun _ _ => 0, fun _ _ => 0, rfl, ⟨rfl, fun h => absurd h (by omega)⟩, fun i hi => absurd hi (by omega), by omega⟩
  · cases hcs
    have hlm : len ≤ m := by rw [hmm]; split <;> omega
    have each : ∀ i, i < len → ∃ q : Option Addr × Nat × Nat × (Nat → Int) × (Nat → Nat), V i = .slice q.1 q.2.1 q.2.2.1 ∧ Reads w w.heap.size 2 q.1 q.2.1 (smL q.2.2.2.1 q.2.2.2.2 q.2.1) ∧ SmB q.2.2.2.1 q.2.2.2.2 q.2.1 ∧ 3 * q.2.1 ≤ Rows.uptoBulk (D i) := by
      intro i hi
      obtain ⟨A, l, c, N, E, h1, h2, h3, h4⟩ := open_smalls' (hc i (by omega)).2
      exact ⟨(A, l, c, N, E), h1, h2, h3, h4⟩
    obtain ⟨q, hq⟩ := choose_lt (α := Option Addr × Nat × Nat × (Nat → Int) × (Nat → Nat)) each
    refine ⟨some a, len, cap, fun i => (q i).1, fun i => (q i).2.1, fun i => (q i).2.2.1, fun i => (q i).2.2.2.1, fun i => (q i).2.2.2.2, rfl, ⟨by simp, fun hn => ⟨a, rfl, ?_, fun j u hu => ?_⟩⟩, fun i hi => ⟨(hq i hi).2.1, (hq i hi).2.2.1, ?_⟩, ?_⟩
    · have := block_lt_of_cell (hc 0 (by omega)).1
      rwa [block_of_add] at this
    · have hj : j < len := by
        have := (List.getElem?_eq_some_iff.1 hu).1
        simpa using this
      rw [List.getElem?_map, List.getElem?_range hj] at hu
      injection hu with hu
      rw [← hu, (hc j (by omega)).1, (hq j hj).1]
    · rw [hx]
      exact Nat.le_trans (hq i hi).2.2.2 (bulks.slice_at D _ hi)
    · rw [hx]; exact bulks.slice_len D _
end
/-- A Program with lengths at most a million. -/
structure PgL (w : World) (n m k : Nat) (PC PA PB : Option Addr) (Pr : Nat → Option Addr) (ln cp : Nat → Nat) (NC NB : Nat → Int) (DC DB : Nat → Nat) (NA : Nat → Nat → Int) (DA : Nat → Nat → Nat) : Prop where
  p : PgW w n m k PC PA PB Pr ln cp NC NB DC DB NA DA
  l : ∀ i, i < m → ln i ≤ 1000000
theorem open_pgm {H : Type} {enc : TypeId × Value → H} {w : World} {base f0 f1 f2 : Nat} {spare : Nat → Bool} {held : Bool} {a0 a1 a2 : Value} {y0 y1 y2 : DataW H × List MemPlace} {l : List (DataW H)} {d : DataW H} (hd : d = .agg [y0.1, y1.1, y2.1]) (hk : Rows.uptoSmall H l = true) (hm : d ∈ l)
    (e0 : DataW.trod enc Try.prog w base spare held f0 22 [a0] = some y0) (e1 : DataW.trod enc Try.prog w base spare held f1 23 [a1] = some y1) (e2 : DataW.trod enc Try.prog w base spare held f2 22 [a2] = some y2) :
    ∃ (n m k cC cA cB : Nat) (PC PA PB : Option Addr) (Pr : Nat → Option Addr) (ln cp : Nat → Nat) (NC NB : Nat → Int) (DC DB : Nat → Nat) (NA : Nat → Nat → Int) (DA : Nat → Nat → Nat),
      a0 = .slice PC n cC ∧ a1 = .slice PA m cA ∧ a2 = .slice PB k cB ∧ PgL w n m k PC PA PB Pr ln cp NC NB DC DB NA DA := by
  obtain ⟨PC, n, cC, NC, DC, r1, r2, r3, r4⟩ := open_smalls' e0
  obtain ⟨PA, m, cA, Pr, ln, cp, NA, DA, s1, s2, s3, s4⟩ := open_smrows e1
  obtain ⟨PB, k, cB, NB, DB, t1, t2, t3, t4⟩ := open_smalls' e2
  have hb := bulks.arg hk hm
  have b0 := bulks.agg_at (d := y0.1) (l := [y0.1, y1.1, y2.1]) (by simp)
  have b1 := bulks.agg_at (d := y1.1) (l := [y0.1, y1.1, y2.1]) (by simp)
  have b2 := bulks.agg_at (d := y2.1) (l := [y0.1, y1.1, y2.1]) (by simp)
  rw [← hd] at b0 b1 b2
  exact ⟨n, m, k, cC, cA, cB, PC, PA, PB, Pr, ln, cp, NC, NB, DC, DB, NA, DA, r1, s1, t1, ⟨⟨r2, s2, fun i hi => (s3 i hi).1, t2, r3, fun i hi => (s3 i hi).2.1, t3⟩, fun i hi => by have := (s3 i hi).2.2; omega⟩⟩
end Go.Proofs.Ytamcibmjpmibdaa
namespace Go.Proofs.Ytamcibmjpmibdaa
set_option linter.unusedVariables false

theorem Frac.mul {D H D' H' : Nat} {x y : Rat} (h : Frac D H x) (h' : Frac D' H' y) : Frac (D * D') (H * H') (x * y) := by
  obtain ⟨a, h1, h2⟩ := h; obtain ⟨b, h3, h4⟩ := h'
  refine ⟨a * b, by rw [Int.natAbs_mul]; exact Nat.mul_le_mul h1 h3, ?_⟩
  rw [Rat.intCast_mul, ← h2, ← h4]
  have : ((((D * D' : Nat) : Int)) : Rat) = (((D : Nat) : Int) : Rat) * (((D' : Nat) : Int) : Rat) := by rw [← Rat.intCast_mul]; congr 1
  rw [this]; grind
theorem Frac.add {D H H' : Nat} {x y : Rat} (h : Frac D H x) (h' : Frac D H' y) : Frac D (H + H') (x + y) := by
  obtain ⟨a, h1, h2⟩ := h; obtain ⟨b, h3, h4⟩ := h'
  refine ⟨a + b, by omega, ?_⟩
  rw [Rat.intCast_add, ← h2, ← h4]; grind
theorem Frac.more {D H H' : Nat} {x : Rat} (h : Frac D H x) (hh : H ≤ H') : Frac D H' x := by
  obtain ⟨a, h1, h2⟩ := h
  exact ⟨a, by omega, h2⟩
theorem Frac.sm {D H : Nat} {f : Nat → Rat} : ∀ {n : Nat}, (∀ i, i < n → Frac D H (f i)) → Frac D (n * H) (sm f n)
  | 0, _ => by rw [Nat.zero_mul]; exact Frac.zero
  | n + 1, h => by
    have h1 := (Frac.sm (n := n) (fun i hi => h i (by omega))).add (h n (by omega))
    rw [show (n + 1) * H = n * H + H by rw [Nat.succ_mul]]
    exact h1
theorem Frac.small {D H : Nat} {x : Rat} (h : Frac D H x) (hD : 0 < D) (hD' : D ≤ 1073741824) (hH : H ≤ 1073741824) : Sm x := by
  have h1 := FracP.small (D := D) (a := 30) hD (by omega) (h.more (show H ≤ 2 ^ 30 by omega))
  exact h1
theorem smq_frac (x : Int) (y : Nat) : Frac 12 108 (smq x y) := by
  have hk : (x.tmod 10).natAbs = x.natAbs % 10 := Int.natAbs_tmod x 10
  have hy : y % 4 = 0 ∨ y % 4 = 1 ∨ y % 4 = 2 ∨ y % 4 = 3 := by omega
  unfold smq
  generalize x.tmod 10 = z at hk
  rcases hy with h | h | h | h <;> rw [h]
  · exact ⟨12 * z, by omega, by simp [Rat.intCast_mul]; grind⟩
  · exact ⟨6 * z, by omega, by simp [Rat.intCast_mul]; grind⟩
  · exact ⟨4 * z, by omega, by simp [Rat.intCast_mul]; grind⟩
  · exact ⟨3 * z, by omega, by simp [Rat.intCast_mul]; grind⟩
end Go.Proofs.Ytamcibmjpmibdaa
namespace Go.Proofs.Ytamcibmjpmibdaa
open Go.RowKit
set_option linter.unusedVariables false
set_option linter.unusedSimpArgs false

theorem store_qb {o : Oper} {a : Act} {w : World} {t u : Tmp} {g : Nat} {x : Rat} {K : Act → World → Prop} {Q : Exit → Act → World → Prop} (ho : o.op = .store 58 (.tmp t) (.tmp u)) (hd : o.dst = none) (ht : a.eval (.tmp t) = .pointer (some ⟨g, 0, none⟩)) (hu : a.eval (.tmp u) = QL x)
    (hr : ∃ y z : Int, Blk w g 58 #[.int .i64 y, .int .i64 z]) (next : ∀ w', KeepsN w w' → w.grownBy w' (some g) → w'.heap.size = w.heap.size → Qb x g w' → K a w') : o.wp Try.prog a w K Q := by
  obtain ⟨y, z, hr⟩ := hr
  refine wp_store_mid 58 (.tmp t) (.tmp u) ho g 0 #[.int .i64 x.num, .int .i64 (x.den : Int)] ht hu (fun j hj => ⟨?_, hr.frozen _⟩) (by kernel_rfl) (by simp [Value.oneCell']) ?_
  · rw [hr.cell]
    have : j < 2 := by simpa using hj
    simp [this]
  · rw [hd]
    have b0 : Blk (w.setCell ⟨g, 0, none⟩ (.int .i64 x.num)) g 58 #[.int .i64 x.num, .int .i64 z] := hr.set_ 0 _
    have b1 : Blk ((w.setCell ⟨g, 0, none⟩ (.int .i64 x.num)).setCell ⟨g, 1, none⟩ (.int .i64 (x.den : Int))) g 58 #[.int .i64 x.num, .int .i64 (x.den : Int)] := b0.set_ 1 _
    have kp := (KeepsN.blk hr (i := 0) (by show 0 < 2; omega) (by intro x; simp) (.int .i64 x.num)).trans (KeepsN.blk b0 (i := 1) (by show 1 < 2; omega) (by intro x; simp) (.int .i64 (x.den : Int)))
    exact next _ kp (only_setCells _ _ _ (World.grownBy.refl w _)) (by show ((w.setCell _ _).setCell _ _).heap.size = _; simp only [size_setCell]) b1
theorem Qb.blk {x : Rat} {g : Nat} {w : World} (h : Qb x g w) : ∃ y z : Int, Blk w g 58 #[.int .i64 y, .int .i64 z] := ⟨_, _, GB.blk h⟩
/-- The products and sums of a dot of the reference are small. -/
structure DotS (f g : Nat → Rat) (n : Nat) : Prop where
  h1 : ∀ k, k < n → Sm (f k)
  h2 : ∀ k, k < n → Sm (g k)
  h3 : ∀ k, k < n → Sm (f k * g k)
  h4 : ∀ k, k ≤ n → Sm (sm (fun l => f l * g l) k)
set_option maxRecDepth 100000 in
set_option maxHeartbeats 8000000 in
theorem rdot_any (n n' ca cb : Nat) (AA AB : Option Addr) (f g : Nat → Rat) (w : World) (hA : Reads w w.heap.size 2 AA n (qsL f n)) (hB : Reads w w.heap.size 2 AB n' (qsL g n')) (hn : n ≤ n') (hn1 : n ≤ 1000000) (hS : DotS f g n) :
    Calls Try.prog 28 #[.slice AA n ca, .slice AB n' cb] w (RV w (fun u _ => u = QL (sm (fun l => f l * g l) n))) := by
  have HA := Lib.hid hA; have HBB := Lib.hid hB; have HS := Lib.hid hS; clear hA hB hS
  go_enter Try.func28, Try.ntmps28
  go_upto_region 1 with (fail)
  have H4 := Lib.hid (Blk.new w 58 #[.int .i64 0, .int .i64 0])
  have HB := Lib.hid (al w (.cells #[.int .i64 0, .int .i64 0] 58))
  obtain ⟨g4, hg4⟩ : ∃ g4, g4 = w.heap.size := ⟨_, rfl⟩
  have HG4 := Lib.hid hg4
  rw [← hg4] at H4 ⊢
  clear hg4
  generalize w.alloc (.cells #[.int .i64 0, .int .i64 0] 58) = w1 at *
  go_wp2_with fail
  refine (rzero_any w1).mono ?_
  rintro e w2 ⟨he, hb⟩
  obtain rfl : e = .returned (.agg #[.int .i64 (0 : Rat).num, .int .i64 ((0 : Rat).den : Int)]) := he
  have H42 := Lib.hid (H4.out.keep hb)
  have HB2 := Lib.hid (bthen HB.out hb HB.out.size)
  clear hb H4 HB
  go_upto_region 2 with (fail)
  have HX := Lib.hid (show Qb (sm (fun l => f l * g l) 0) w2.heap.size (w2.alloc (.cells #[.int .i64 0, .int .i64 1] 58)) from GB.made _ _ _ _)
  have H43 := Lib.hid (H42.out.keep (al w2 (.cells #[.int .i64 0, .int .i64 1] 58)))
  have HB3 := Lib.hid (bthen HB2.out (al w2 (.cells #[.int .i64 0, .int .i64 1] 58)) HB2.out.size)
  obtain ⟨g5, hg5⟩ : ∃ g5, g5 = w2.heap.size := ⟨_, rfl⟩
  have HG5 := Lib.hid (show g4 ≠ g5 ∧ w.heap.size ≤ g5 from ⟨by have := H42.out.lt; omega, by have := HB2.out.size; omega⟩)
  rw [← hg5] at HX ⊢
  clear hg5 H42 HB2
  generalize w2.alloc (.cells #[.int .i64 0, .int .i64 1] 58) = w3 at *
  go_wp2_with fail
  go_loopg [6] n (fun q iv wr => ∃ k : Nat, iv = .int .i64 k ∧ k + q = n ∧ Hid (Qb (sm (fun l => f l * g l) k) g5 wr ∧ Blk wr g4 58 #[.int .i64 0, .int .i64 0] ∧ Below w.heap.size w wr))
  case atStart => exact ⟨0, rfl, by omega, Lib.hid ⟨HX.out, H43.out, HB3.out⟩⟩
  case round =>
    obtain ⟨k, rfl, hkn, HI⟩ := hrel
    clear HX H43 HB3
    have HX := Lib.hid HI.out.1
    have H4 := Lib.hid HI.out.2.1
    have HB := Lib.hid HI.out.2.2
    clear HI
    by_cases hk : k < n
    · obtain ⟨adA, rfl, -⟩ := Reads.pr HA.out hk
      obtain ⟨adB, rfl, -⟩ := Reads.pr HBB.out (show k < n' by omega)
      have i1 : ((k : Int) < (n : Int)) := by omega
      go_upto_region 5 with (fail)
      refine wp_region_join (kss := [[], [], [], [(1, 15), (2, 16)], [(3, 17)], [], [], [(5, 19), (6, 20)], [(7, 21)], [(4, 18), (8, 22)], [(0, 14), (9, 23)]]) [(5, .pointer (some ⟨g5, 0, none⟩)), (0, .slice ((some adA)) n ca), (6, .int .i64 ((k : Int))), (1, .slice ((some adB)) (n') cb)] [EV (QL (sm (fun l => f l * g l) k)), EV (.slice ((some adA)) n ca), EV (.int .i64 ((k : Int))), EV (.pointer (some (Addr.add adA (k * 2)))), EV (QL (f k)), EV (.slice ((some adB)) (n') cb), EV (.int .i64 ((k : Int))), EV (.pointer (some (Addr.add adB (k * 2)))), EV (QL (g k)), EV (QL ((f k) * (g k))), EV (QL ((sm (fun l => f l * g l) k) + ((f k) * (g k))))] 11 [] (by kernel_rfl) (by kernel_rfl) ⟨rfl, rfl, rfl, rfl, trivial⟩ [false, false, false, false, false, false, false, false, false, false, false] ?_ ?_ ?_ ?_
      · exact fun i hi => absurd hi (by simp)
      · exact ⟨eI, eI, eI, eI, eI, eI, eI, eI, eI, eI, eI, trivial⟩
      · refine ⟨?_, ?_, ?_, ?_, ?_, ?_, ?_, ?_, ?_, ?_, ?_, trivial⟩
        · exact fun aa ww hb he hd => ob_plain rfl (load_qb rfl he.1 (Qb.new HX.out hb))
        · exact fun _ _ _ he hd => ob_mv rfl rfl he.2.1
        · exact fun _ _ _ he hd => ob_mv rfl rfl he.2.2.1
        · exact fun aa ww hb he hd => ob_plain rfl (idx_qs (by omega) rfl hd.1 hd.2.1)
        · exact fun aa ww hb he hd => ob_plain rfl (load_qs rfl hd.1 ((HA.out.below HB.out).below (hb.mono HB.out.size)) (by omega))
        · exact fun _ _ _ he hd => ob_mv rfl rfl he.2.2.2.1
        · exact fun _ _ _ he hd => ob_mv rfl rfl he.2.2.1
        · exact fun aa ww hb he hd => ob_plain rfl (idx_qs (by omega) rfl hd.1 hd.2.1)
        · exact fun aa ww hb he hd => ob_plain rfl (load_qs rfl hd.1 ((HBB.out.below HB.out).below (hb.mono HB.out.size)) (by omega))
        · exact fun aa ww hb he hd => ob_plain rfl (gives_call2 _ _ _ _ rfl (by kernel_rfl) (rmul_v (x := f k) (y := g k) (HS.out.h1 k (by omega)) (HS.out.h2 k (by omega)) _ _ hd.1 hd.2.1 _))
        · exact fun aa ww hb he hd => ob_plain rfl (gives_call2 _ _ _ _ rfl (by kernel_rfl) (radd_v (x := sm (fun l => f l * g l) k) (y := (f k) * (g k)) (HS.out.h4 k (by omega)) (HS.out.h3 k (by omega)) _ _ hd.1 hd.2.1 _))
      intro vs w4 hb hR _
      have e24 : vs 10 = QL ((sm (fun l => f l * g l) k) + ((f k) * (g k))) := hR 10 (by decide)
      clear hR
      simp only [putsL, Nat.zero_add, Nat.reduceAdd, List.take_succ_cons, List.take_zero, Act.put, List.setIfInBounds_toArray, List.set_cons_zero, List.set_cons_succ]
      rw [e24]
      clear e24
      show wpAny _ _ _ _ 1 _ _ _
      refine wpAny_next (i := 11) (by kernel_rfl) rfl rfl (store_qb (g := g5) (x := sm (fun l => f l * g l) k + f k * g k) rfl rfl rfl rfl (HX.out.new hb).blk ?_)
      intro wa kp hg hsz hX
      have HXa := Lib.hid (show Qb (sm (fun l => f l * g l) (k + 1)) g5 wa from hX)
      have H4a := Lib.hid ((H4.out.keep hb).grown hg (fun e => by injection e with e; exact HG5.out.1 e))
      have HBa := Lib.hid (show Below w.heap.size w wa from (bthen HB.out hb HB.out.size).grown hg (bthen HB.out hb HB.out.size).size (fun x hx => by cases hx; exact HG5.out.2))
      clear hb kp hg hsz hX
      refine wpAny_end (by kernel_rfl) (calm_normal ?_) _
      go_wp2_with fail
      go_roundg (gk - 1)
      case measure => omega
      case rel => exact ⟨k + 1, by go_num, by omega, Lib.hid ⟨HXa.out, H4a.out, HBa.out⟩⟩
    · obtain rfl : n = k := by omega
      go_upto_region 6 with (fail)
      refine wp_region_joins (kss := [[]]) [(5, .pointer (some ⟨g5, 0, none⟩))] [EV (QL (sm (fun l => f l * g l) n))] 1 (by kernel_rfl) ⟨rfl, trivial⟩ [false] ?_ ?_ ?_
      · exact ⟨eI, trivial⟩
      · refine ⟨?_, trivial⟩
        · exact fun aa ww hb he hd => ob_plain rfl (load_qb rfl he.1 (Qb.new HX.out hb))
      intro vs w4 hb hR
      have e25 : vs 0 = QL (sm (fun l => f l * g l) n) := hR 0 (by decide)
      clear hR
      simp only [putsL, Nat.zero_add, Nat.reduceAdd, List.take_succ_cons, List.take_zero, Act.put, List.setIfInBounds_toArray, List.set_cons_zero, List.set_cons_succ]
      rw [e25]
      clear e25
      show wpOps _ _ _ [1] _ _
      refine wpOps_next rfl rfl (store_qb (g := g4) (x := sm (fun l => f l * g l) n) rfl rfl rfl rfl ⟨0, 0, H4.out.keep hb⟩ ?_)
      intro wa kp hg hsz hX
      have HXa := Lib.hid (GB.blk hX)
      have HBa := Lib.hid (show Below w.heap.size w wa from (bthen HB.out hb HB.out.size).grown hg (bthen HB.out hb HB.out.size).size (fun x hx => by cases hx; rw [HG4.out]; exact Nat.le_refl _))
      clear hb kp hg hsz hX
      unfold wpOps
      go_wp2_with fail
      refine bodyPost_ret (v := QL (sm (fun l => f l * g l) n)) (results_cell_row Try.results28 _ _ _ _ _ (0, 0) _ rfl HXa.out Try.underlying58 rfl rfl) rfl ?_
      exact ⟨_, rfl, rfl, HBa.out⟩
end Go.Proofs.Ytamcibmjpmibdaa
