/-
The tableau in memory; contracts of right and artificial.
Contract of pivot. Regions printed by gen/sx.py.
-/
import Derived.Test.YtpnklmgfdihjfaaK6
namespace Go.Proofs.Ytpnklmgfdihjfaa
open Go.RowKit
set_option linter.unusedVariables false
set_option linter.unusedSimpArgs false

/-- The row of the rows' slices. -/
def rowsL (rs : Nat → Nat) (N m : Nat) : List Value := (List.range m).map fun i => Value.slice (some ⟨rs i, 0, none⟩) N N
def basL (b : Nat → Nat) (m : Nat) : List Value := (List.range m).map fun i => Value.int .i64 (b i : Int)
/-- A tableau of n variables and m constraints, all of it in blocks from base on. -/
structure TabW (base : Nat) (w : World) (p n m N b gg : Nat) (Ar : Option Addr) (cr : Nat) (Ab : Option Addr) (cb : Nat) (rs : Nat → Nat) (S : Tab) : Prop where
  blk : Blk w p 116 #[.int .i64 n, .int .i64 m, .slice Ar m cr, .slice (some ⟨gg, 0, none⟩) N N, .slice Ab m cb]
  rows : w.ownsRow base 28 1 (.slice Ar m cr) m (rowsL rs N m)
  row : ∀ {i : Nat}, i < m → RB w (rs i) N (PN w b (S.T i))
  bas : w.ownsRow base 3 1 (.slice Ab m cb) m (basL S.b m)
  goal : RB w gg N (PN w b S.G)
  low : base ≤ p ∧ base ≤ w.heap.size ∧ N = n + m + 2
section
variable {base : Nat} {w w' : World} {p n m N b gg gr cr gb cb : Nat} {Ar Ab : Option Addr} {rs : Nat → Nat} {S : Tab}
theorem TabW.new (h : TabW base w p n m N b gg Ar cr Ab cb rs S) (hb : Below w.heap.size w w') : TabW base w' p n m N b gg Ar cr Ab cb rs S :=
  ⟨h.blk.below hb h.blk.lt, own_below h.rows hb, fun hi => (h.row hi).newN hb, own_below h.bas hb, h.goal.newN hb, h.low.1, Nat.le_trans h.low.2.1 hb.size, h.low.2.2⟩
theorem TabW.some_ (h : TabW base w p n m N b gg Ar cr Ab cb rs S) (hm : 0 < m) : (∃ gr, Ar = some ⟨gr, 0, none⟩ ∧ base ≤ gr ∧ gr < w.heap.size) ∧ ∃ gb, Ab = some ⟨gb, 0, none⟩ ∧ base ≤ gb ∧ gb < w.heap.size := by
  obtain ⟨g1, c1, e1, h1, k1⟩ := h.rows.form hm
  obtain ⟨g2, c2, e2, h2, k2⟩ := h.bas.form hm
  injection e1 with e1
  injection e2 with e2
  exact ⟨⟨g1, e1, h1, k1⟩, ⟨g2, e2, h2, k2⟩⟩
theorem TabW.c0 (h : TabW base w p n m N b gg Ar cr Ab cb rs S) : w.cell? ⟨p, 0, none⟩ = some (.int .i64 (n : Int)) := by rw [h.blk.cell]; rfl
theorem TabW.c1 (h : TabW base w p n m N b gg Ar cr Ab cb rs S) : w.cell? ⟨p, 1, none⟩ = some (.int .i64 (m : Int)) := by rw [h.blk.cell]; rfl
theorem TabW.c2 (h : TabW base w p n m N b gg Ar cr Ab cb rs S) : w.cell? ⟨p, 2, none⟩ = some (.slice Ar m cr) := by rw [h.blk.cell]; rfl
theorem TabW.c3 (h : TabW base w p n m N b gg Ar cr Ab cb rs S) : w.cell? ⟨p, 3, none⟩ = some (.slice (some ⟨gg, 0, none⟩) N N) := by rw [h.blk.cell]; rfl
theorem TabW.c4 (h : TabW base w p n m N b gg Ar cr Ab cb rs S) : w.cell? ⟨p, 4, none⟩ = some (.slice Ab m cb) := by rw [h.blk.cell]; rfl
theorem TabW.rcell (h : TabW base w p n m N b gg (some ⟨gr, 0, none⟩) cr Ab cb rs S) {i : Nat} (hi : i < m) : w.cell? (Addr.add ⟨gr, 0, none⟩ i) = some (.slice (some ⟨rs i, 0, none⟩) N N) := by
  rw [addr_zero, h.rows.cellAt i (by omega)]
  simp [rowsL, hi]
theorem TabW.bcell (h : TabW base w p n m N b gg Ar cr (some ⟨gb, 0, none⟩) cb rs S) {i : Nat} (hi : i < m) : w.cell? (Addr.add ⟨gb, 0, none⟩ i) = some (.int .i64 (S.b i : Int)) := by
  rw [addr_zero, h.bas.cellAt i (by omega)]
  simp [basL, hi]
theorem rowsL_set (rs : Nat → Nat) (N m r g : Nat) (hr : r < m) : (rowsL rs N m).set r (.slice (some ⟨g, 0, none⟩) N N) = rowsL (fun i => if i = r then g else rs i) N m := by
  apply List.ext_getElem?
  intro i
  rw [List.getElem?_set]
  by_cases hi : r = i
  · subst hi
    simp [rowsL, hr]
  · simp only [rowsL, List.getElem?_map, if_neg hi]
    by_cases hm : i < m
    · simp [hm, Ne.symm hi]
    · simp [hm]
theorem basL_set (b : Nat → Nat) (m r k : Nat) (hr : r < m) : (basL b m).set r (.int .i64 (k : Int)) = basL (fun i => if i = r then k else b i) m := by
  apply List.ext_getElem?
  intro i
  rw [List.getElem?_set]
  by_cases hi : r = i
  · subst hi
    simp [basL, hr]
  · simp only [basL, List.getElem?_map, if_neg hi]
    by_cases hm : i < m
    · simp [hm, Ne.symm hi]
    · simp [hm]
/-- Row r is replaced by a row in a block of its own. -/
theorem TabW.setRow (h : TabW base w p n m N b gg (some ⟨gr, 0, none⟩) cr Ab cb rs S) {r g : Nat} (hr : r < m) {f : Nat → Rat} (hg : RB w g N (PN w b f)) :
    TabW base (w.setCell ⟨gr, r, none⟩ (.slice (some ⟨g, 0, none⟩) N N)) p n m N b gg (some ⟨gr, 0, none⟩) cr Ab cb (fun i => if i = r then g else rs i) ⟨fun i => if i = r then f else S.T i, S.G, S.b⟩ ∧ w.grownBy (w.setCell ⟨gr, r, none⟩ (.slice (some ⟨g, 0, none⟩) N N)) (some gr) ∧ KeepsN w (w.setCell ⟨gr, r, none⟩ (.slice (some ⟨g, 0, none⟩) N N)) := by
  have hc := h.rcell hr
  rw [addr_zero] at hc
  have kp := KeepsN.setCell hc (by intro x; simp) (.slice (some ⟨g, 0, none⟩) N N)
  obtain ⟨s1, s2⟩ := World.ownsRow.stored h.rows r (.slice (some ⟨g, 0, none⟩) N N)
  rw [rowsL_set _ _ _ _ _ hr] at s1
  have hrb : ∀ {g' : Nat} {f' : Nat → Rat}, RB w g' N (PN w b f') → RB (w.setCell ⟨gr, r, none⟩ (.slice (some ⟨g, 0, none⟩) N N)) g' N (PN (w.setCell ⟨gr, r, none⟩ (.slice (some ⟨g, 0, none⟩) N N)) b f') := by
    intro g' f' hh
    refine hh.far ?_ (fun j v _ hv => PN.keep hv kp)
    obtain ⟨cs, hb', _⟩ := hh
    intro he
    have := own_blk_ne h.rows hb' (by decide)
    exact this (by simp only [Value.ownBlock]; rw [he])
  have hp : p ≠ gr := by
    intro he
    have := own_blk_ne h.rows h.blk (by decide)
    exact this (by simp only [Value.ownBlock]; rw [he])
  refine ⟨⟨h.blk.far (p := ⟨gr, r, none⟩) hp _, s1, fun {i} hi => ?_, own_grown_own h.bas h.rows (by decide) s2, hrb h.goal, h.low.1, by rw [size_setCell]; exact h.low.2.1, h.low.2.2⟩, s2, kp⟩
  by_cases hir : i = r
  · simp only [if_pos hir]; exact hrb hg
  · simp only [if_neg hir]; exact hrb (h.row hi)
/-- The basic column of row r is replaced. -/
theorem TabW.setBas (h : TabW base w p n m N b gg Ar cr (some ⟨gb, 0, none⟩) cb rs S) {r k : Nat} (hr : r < m) :
    TabW base (w.setCell ⟨gb, r, none⟩ (.int .i64 (k : Int))) p n m N b gg Ar cr (some ⟨gb, 0, none⟩) cb rs ⟨S.T, S.G, fun i => if i = r then k else S.b i⟩ ∧ w.grownBy (w.setCell ⟨gb, r, none⟩ (.int .i64 (k : Int))) (some gb) := by
  have hc := h.bcell hr
  rw [addr_zero] at hc
  have kp := KeepsN.setCell hc (by intro x; simp) (.int .i64 (k : Int))
  obtain ⟨s1, s2⟩ := World.ownsRow.stored h.bas r (.int .i64 (k : Int))
  rw [basL_set _ _ _ _ hr] at s1
  have hrb : ∀ {g' : Nat} {f' : Nat → Rat}, RB w g' N (PN w b f') → RB (w.setCell ⟨gb, r, none⟩ (.int .i64 (k : Int))) g' N (PN (w.setCell ⟨gb, r, none⟩ (.int .i64 (k : Int))) b f') := by
    intro g' f' hh
    refine hh.far ?_ (fun j v _ hv => PN.keep hv kp)
    obtain ⟨cs, hb', _⟩ := hh
    intro he
    have := own_blk_ne h.bas hb' (by decide)
    exact this (by simp only [Value.ownBlock]; rw [he])
  have hp : p ≠ gb := by
    intro he
    have := own_blk_ne h.bas h.blk (by decide)
    exact this (by simp only [Value.ownBlock]; rw [he])
  exact ⟨⟨h.blk.far (p := ⟨gb, r, none⟩) hp _, own_grown_own h.rows h.bas (by decide) s2, fun hi => hrb (h.row hi), s1, hrb h.goal, h.low.1, by rw [size_setCell]; exact h.low.2.1, h.low.2.2⟩, s2⟩
/-- The reduced costs are replaced by a row in a block of its own. -/
theorem TabW.setGoal (h : TabW base w p n m N b gg Ar cr Ab cb rs S) {g : Nat} {f : Nat → Rat} (hg : RB w g N (PN w b f)) :
    TabW base (w.setCell ⟨p, 3, none⟩ (.slice (some ⟨g, 0, none⟩) N N)) p n m N b g Ar cr Ab cb rs ⟨S.T, f, S.b⟩ ∧ w.grownBy (w.setCell ⟨p, 3, none⟩ (.slice (some ⟨g, 0, none⟩) N N)) (some p) := by
  have kp := KeepsN.setCell h.c3 (by intro x; simp) (.slice (some ⟨g, 0, none⟩) N N)
  have hrb : ∀ {g' : Nat} {f' : Nat → Rat}, RB w g' N (PN w b f') → RB (w.setCell ⟨p, 3, none⟩ (.slice (some ⟨g, 0, none⟩) N N)) g' N (PN (w.setCell ⟨p, 3, none⟩ (.slice (some ⟨g, 0, none⟩) N N)) b f') := by
    intro g' f' hh
    refine hh.far ?_ (fun j v _ hv => PN.keep hv kp)
    obtain ⟨cs, hb', _⟩ := hh
    exact Blk.ne_ hb' h.blk (by decide)
  have hb := h.blk.set_ 3 (.slice (some ⟨g, 0, none⟩) N N)
  exact ⟨⟨hb, own_far h.rows h.blk (by decide) 3 _, fun hi => hrb (h.row hi), own_far h.bas h.blk (by decide) 3 _, hrb hg, h.low.1, by rw [size_setCell]; exact h.low.2.1, h.low.2.2⟩, only_setCell (World.grownBy.refl w _) (.inl rfl) _⟩
end
section
variable {o : Oper} {a : Act} {w : World} {t u : Tmp}
theorem nil_c {p : Nat} (ho : o.op = .nilCheck (.tmp t)) (h : tv a t = .pointer (some ⟨p, 0, none⟩)) : gives Try.prog o a.eval w (fun v w' => v = .pointer (some ⟨p, 0, none⟩) ∧ Below w.heap.size w w') := by
  refine gives_val (.pointer (some ⟨p, 0, none⟩)) ?_ ⟨rfl, Below.refl _ _⟩
  unfold execOp; rw [ho]; simp only [eval_tmp, h]; go_simp
theorem fld_tab {p k : Nat} (ho : o.op = .fieldAddr 116 (.tmp t) k) (hk : k < 5) (h : tv a t = .pointer (some ⟨p, 0, none⟩)) : gives Try.prog o a.eval w (fun v w' => v = .pointer (some ⟨p, k, none⟩) ∧ Below w.heap.size w w') := by
  refine gives_val (.pointer (some ⟨p, k, none⟩)) ?_ ⟨rfl, Below.refl _ _⟩
  have : k = 0 ∨ k = 1 ∨ k = 2 ∨ k = 3 ∨ k = 4 := by omega
  rcases this with rfl | rfl | rfl | rfl | rfl <;> (unfold execOp; rw [ho]; simp only [eval_tmp, h]; go_simp)
theorem load_c3 {p : Addr} {v : Value} (ho : o.op = .load 3 (.tmp t)) (hx : tv a t = .pointer (some p)) (hc : w.cell? p = some v) : gives Try.prog o a.eval w (fun z w' => z = v ∧ Below w.heap.size w w') := by
  refine gives_val v ?_ ⟨rfl, Below.refl _ _⟩
  unfold execOp; rw [ho]; simp only [eval_tmp, hx]; go_simp
theorem load_c28 {p : Addr} {v : Value} (ho : o.op = .load 28 (.tmp t)) (hx : tv a t = .pointer (some p)) (hc : w.cell? p = some v) : gives Try.prog o a.eval w (fun z w' => z = v ∧ Below w.heap.size w w') := by
  refine gives_val v ?_ ⟨rfl, Below.refl _ _⟩
  unfold execOp; rw [ho]; simp only [eval_tmp, hx]; go_simp
theorem load_c29 {p : Addr} {v : Value} (ho : o.op = .load 73 (.tmp t)) (hx : tv a t = .pointer (some p)) (hc : w.cell? p = some v) : gives Try.prog o a.eval w (fun z w' => z = v ∧ Below w.heap.size w w') := by
  refine gives_val v ?_ ⟨rfl, Below.refl _ _⟩
  unfold execOp; rw [ho]; simp only [eval_tmp, hx]; go_simp
theorem load_c86 {p : Addr} {v : Value} (ho : o.op = .load 45 (.tmp t)) (hx : tv a t = .pointer (some p)) (hc : w.cell? p = some v) : gives Try.prog o a.eval w (fun z w' => z = v ∧ Below w.heap.size w w') := by
  refine gives_val v ?_ ⟨rfl, Below.refl _ _⟩
  unfold execOp; rw [ho]; simp only [eval_tmp, hx]; go_simp
theorem idx_rws {ad : Addr} {n c k : Nat} {y : Operand} (hk : k < n) (ho : o.op = .indexAddr 73 (.tmp t) y) (h : tv a t = .slice (some ad) n c) (h2 : a.eval y = .int .i64 (k : Int)) : gives Try.prog o a.eval w (fun v w' => v = .pointer (some (ad.add k)) ∧ Below w.heap.size w w') := by
  refine gives_val (.pointer (some (ad.add k))) ?_ ⟨rfl, Below.refl _ _⟩
  have i1 : (0 : Int) ≤ (k : Int) := by omega
  have i2 : (k : Int) < (n : Int) := by omega
  unfold execOp; rw [ho]; simp only [eval_tmp, h, h2]; go_simp
end
section
variable {base : Nat} {w : World} {p n m : Nat} {v2 v3 v4 : Value}
set_option maxHeartbeats 1000000 in
theorem right_any (h : Blk w p 116 #[.int .i64 n, .int .i64 m, v2, v3, v4]) (hn : n ≤ 1000) (hm : m ≤ 1000) : Calls Try.prog 71 #[.pointer (some ⟨p, 0, none⟩)] w fun e w' => e = .returned (.int .i64 ((n + m + 1 : Nat) : Int)) ∧ Below w.heap.size w w' := by
  have c0 : w.cell? ⟨p, 0, none⟩ = some (.int .i64 (n : Int)) := by rw [h.cell]; rfl
  have c1 : w.cell? ⟨p, 1, none⟩ = some (.int .i64 (m : Int)) := by rw [h.cell]; rfl
  have hl := h.lt
  clear h
  go_enter Try.func71, Try.ntmps71
  go_upto_region 1 with (fail)
  go_quiet (fail)
  go_wp2_with fail
  go_ret
  exact ⟨by go_num, below_drewN (Below.refl _ _) _⟩
set_option maxHeartbeats 1000000 in
theorem artificial_any (h : Blk w p 116 #[.int .i64 n, .int .i64 m, v2, v3, v4]) (hn : n ≤ 1000) (hm : m ≤ 1000) : Calls Try.prog 89 #[.pointer (some ⟨p, 0, none⟩)] w fun e w' => e = .returned (.int .i64 ((n + m : Nat) : Int)) ∧ Below w.heap.size w w' := by
  have c0 : w.cell? ⟨p, 0, none⟩ = some (.int .i64 (n : Int)) := by rw [h.cell]; rfl
  have c1 : w.cell? ⟨p, 1, none⟩ = some (.int .i64 (m : Int)) := by rw [h.cell]; rfl
  have hl := h.lt
  clear h
  go_enter Try.func89, Try.ntmps89
  go_upto_region 1 with (fail)
  go_quiet (fail)
  go_wp2_with fail
  go_ret
  exact ⟨by go_num, below_drewN (Below.refl _ _) _⟩
end
end Go.Proofs.Ytpnklmgfdihjfaa
namespace Go.Proofs.Ytpnklmgfdihjfaa
open Go.RowKit
set_option linter.unusedVariables false
set_option linter.unusedSimpArgs false

theorem Bn.kept {b g0 g : Nat} {x : Rat} {w w' : World} (h : Bn b x g0 w) (hg : w.grownBy w' (some g)) (hne : g0 ≠ g) (kp : KeepsN w w') : Bn b x g0 w' := by
  obtain ⟨s, A, n, c, B, m, d, h1, q1, ⟨h2, h3⟩, h4, h5⟩ := h
  exact ⟨s, A, n, c, B, m, d, Blk.grown h1 hg (fun e => hne (by injection e)), q1, ⟨h2.keepN kp, h3.keepN kp⟩, h4.keepN kp, h5.keepN kp⟩
def Fit (b : Nat) (x : Rat) : Prop := x.num.natAbs < PB b ∧ x.den < PB b
theorem rv_comb {P : Program} {f : FuncId} {args : Array Value} {w : World} {N b : Nat} {q : Nat → Rat} (h : Calls P f args w (RowRetQ N b q w)) : Calls P f args w (RV w (fun v w' => ∃ g0 : Nat, v = .slice (some ⟨g0, 0, none⟩) N N ∧ RB w' g0 N (PN w' b q))) :=
  h.mono fun _ _ ⟨g, he, _, hr, hb⟩ => ⟨_, he, ⟨g, rfl, hr⟩, hb⟩
theorem gives_comb {o : Oper} {a : Act} {w : World} {t1 t2 t3 : Tmp} {ts : Array TypeId} {N b bq c1 c2 : Nat} {ad1 ad2 : Addr} {f g F : Nat → Rat} {q : Rat} (ho : o.op = .call { callee := .value (.func 92), args := #[.tmp t1, .tmp t2, .tmp t3], argTypes := ts })
    (e1 : tv a t1 = .slice (some ad1) N c1) (h1 : Rs w w.heap.size (some ad1) N (PN w b f)) (e2 : tv a t2 = .slice (some ad2) N c2) (h2 : Rs w w.heap.size (some ad2) N (PN w b g)) (hq : Rw bq q (tv a t3) w) (hN : 0 < N) (hN2 : N ≤ 1000) (hb : 2 * b + bq ≤ 4800) (hbq : 1 ≤ bq) (hF : ∀ j, F j = f j - q * g j) :
    gives Try.prog o a.eval w (fun v w' => (∃ g0 : Nat, v = .slice (some ⟨g0, 0, none⟩) N N ∧ RB w' g0 N (PN w' (b + (bq + b) + 1) F)) ∧ Below w.heap.size w w') := by
  have e : F = fun j => f j - q * g j := funext hF
  subst e
  refine gives_call3 _ _ _ _ _ ho (by kernel_rfl) ?_
  rw [eval_tmp, eval_tmp, eval_tmp, e1, e2]
  exact rv_comb (combined_any N b bq ad1 ad2 c1 c2 f g q _ w h1 h2 hq hN hN2 hb hbq)
theorem TabW.congr {base : Nat} {w : World} {p n m N b gg cr cb : Nat} {Ar Ab : Option Addr} {rs : Nat → Nat} {S S' : Tab} (h : TabW base w p n m N b gg Ar cr Ab cb rs S) (hT : ∀ i, i < m → ∀ j, j < N → S.T i j = S'.T i j) (hG : ∀ j, j < N → S.G j = S'.G j) (hB : ∀ i, i < m → S.b i = S'.b i) : TabW base w p n m N b gg Ar cr Ab cb rs S' := by
  refine ⟨h.blk, h.rows, fun {i} hi => (h.row hi).mono fun j v hj hv => ?_, ?_, h.goal.mono fun j v hj hv => ?_, h.low⟩
  · have hv' : Rv b (S.T i j) v w := hv
    rw [hT i hi j hj] at hv'; exact hv'
  · have e : basL S'.b m = basL S.b m := by
      unfold basL
      refine List.map_congr_left fun i hi => ?_
      rw [hB i (List.mem_range.1 hi)]
    rw [e]; exact h.bas
  · have hv' : Rv b (S.G j) v w := hv
    rw [hG j hj] at hv'; exact hv'
/-- A slice of Rats is written into one cell. -/
theorem store_c28 {o : Oper} {a : Act} {w : World} {t u : Tmp} {p : Addr} {v0 : Value} {A : Option Addr} {n c : Nat} {K : Act → World → Prop} {Q : Exit → Act → World → Prop} (ho : o.op = .store 28 (.tmp t) (.tmp u)) (hd : o.dst = none) (ht : a.eval (.tmp t) = .pointer (some p)) (hu : a.eval (.tmp u) = .slice A n c)
    (hc : w.cell? p = some v0) (hf : w.frozen? p = false) (h : K a (w.setCell p (.slice A n c))) : o.wp Try.prog a w K Q := by
  unfold Oper.wp execOp
  rw [ho]
  simp only [ht, hu]
  go_simp
  exact h
theorem TabW.rfz {base : Nat} {w : World} {p n m N b gg gr cr cb : Nat} {Ab : Option Addr} {rs : Nat → Nat} {S : Tab} (h : TabW base w p n m N b gg (some ⟨gr, 0, none⟩) cr Ab cb rs S) (i : Nat) : w.frozen? (Addr.add ⟨gr, 0, none⟩ i) = false := by
  rw [addr_zero]; exact h.rows.frozenAt i
theorem RB.setFar {w : World} {g gr i n b : Nat} {f : Nat → Rat} {base : Nat} {rs : List Value} {cr m : Nat} (h : RB w g n (PN w b f)) (hr : w.ownsRow base 28 1 (.slice (some ⟨gr, 0, none⟩) m cr) m rs) {u : Value} (kp : KeepsN w (w.setCell ⟨gr, i, none⟩ u)) : RB (w.setCell ⟨gr, i, none⟩ u) g n (PN (w.setCell ⟨gr, i, none⟩ u) b f) := by
  refine h.far ?_ (fun j v _ hv => PN.keep hv kp)
  obtain ⟨cs, hb', _⟩ := h
  intro he
  exact own_blk_ne hr hb' (by decide) (by simp only [Value.ownBlock]; rw [he])
/-- The rows while the pivot goes through them. -/
def stT (S : Tab) (r k i : Nat) : Nat → Nat → Rat := fun l j => if l < i ∧ l ≠ r then (S.piv r k).T l j else S.T l j
theorem stT_self (S : Tab) (r k i : Nat) : stT S r k i i = S.T i := by funext j; simp [stT]
theorem stT_zero (S : Tab) (r k : Nat) : stT S r k 0 = S.T := by funext l j; simp [stT]
theorem stT_skip (S : Tab) {r k i : Nat} (h : i = r) : stT S r k (i + 1) = stT S r k i := by
  funext l j
  unfold stT
  by_cases h1 : l < i ∧ l ≠ r
  · rw [if_pos h1, if_pos ⟨by omega, h1.2⟩]
  · rw [if_neg h1, if_neg (by omega)]
theorem stT_next (S : Tab) {r k i : Nat} (h : i ≠ r) : stT S r k (i + 1) = fun l => if l = i then (S.piv r k).T i else stT S r k i l := by
  funext l j
  unfold stT
  by_cases h1 : l = i
  · subst h1; rw [if_pos ⟨by omega, h⟩, if_pos rfl]
  · rw [if_neg h1]
    by_cases h2 : l < i ∧ l ≠ r
    · rw [if_pos h2, if_pos ⟨by omega, h2.2⟩]
    · rw [if_neg h2, if_neg (by omega)]
def PvRet (base p n m N b gr cr gb cb : Nat) (S : Tab) (w : World) (e : Ending) (w' : World) : Prop := ∃ (gg : Nat) (rs : Nat → Nat), e = .returned (.tuple #[]) ∧ TabW base w' p n m N b gg (some ⟨gr, 0, none⟩) cr (some ⟨gb, 0, none⟩) cb rs S ∧ Below base w w'
set_option maxRecDepth 100000 in
set_option maxHeartbeats 8000000 in
theorem pivot_any (base p n m N b gg gr cr gb cb r k : Nat) (rs : Nat → Nat) (S : Tab) (w : World) (hT : TabW base w p n m N b gg (some ⟨gr, 0, none⟩) cr (some ⟨gb, 0, none⟩) cb rs S) (hr : r < m) (hk : k < N) (hN2 : N ≤ 1000) (hb0 : b ≤ 1000) (hb1 : 1 ≤ b)
    (hne0 : S.T r k ≠ 0) (hF : ∀ i, i < m → ∀ j, j < N → Fit b ((S.piv r k).T i j)) (hFG : ∀ j, j < N → Fit b ((S.piv r k).G j)) :
    Calls Try.prog 90 #[.pointer (some ⟨p, 0, none⟩), .int .i64 r, .int .i64 k] w (PvRet base p n m N b gr cr gb cb (S.piv r k) w) := by
  have HNn := Lib.hid hT.low.2.2
  have hmm : m ≤ 1000 := by have := hT.low.2.2; omega
  have hbw : base ≤ w.heap.size := hT.low.2.1
  have HT := Lib.hid hT; have HNE := Lib.hid hne0; have HF := Lib.hid hF; have HFG := Lib.hid hFG
  clear hT hne0 hF hFG
  have c2 := HT.out.c2; have pl := HT.out.blk.lt
  have rc := HT.out.rcell hr
  rw [addr_zero] at rc
  have hmk := mk_rat N (by omega)
  have i1 : (0 : Int) ≤ (r : Int) := by omega
  have i2 : (r : Int) < (m : Int) := by omega
  go_enter Try.func90, Try.ntmps90
  go_upto_region 1 with (fail)
  clear hmk
  have HT1 := Lib.hid (HT.out.new (al w (.cells (zrow N) 31)))
  have HZ1 := Lib.hid (rb_zrow w N (fun _ _ => True) (fun _ _ => trivial))
  have HB1 := Lib.hid ((Below.refl base w).alloc hbw (.cells (zrow N) 31))
  have HBO := Lib.hid (al w (.cells (zrow N) 31))
  obtain ⟨g6, hg6⟩ : ∃ g6, g6 = w.heap.size := ⟨_, rfl⟩
  rw [← hg6] at HZ1 ⊢
  have HG6 := Lib.hid hg6; clear hg6
  generalize w.alloc (.cells (zrow N) 31) = W1 at *
  clear c2 pl rc
  have c2 := HT1.out.c2; have pl := HT1.out.blk.lt
  have rc := HT1.out.rcell hr
  rw [addr_zero] at rc
  have HS := Lib.hid (Rs.of_rb (HT1.out.row hr))
  have hNpos : 0 < N := by omega
  have i1 : (0 : Int) ≤ (r : Int) := by omega
  have i2 : (r : Int) < (m : Int) := by omega
  go_upto_region 2 with (refine wpList_copy_rat (g := g6) (n := N) rfl rfl rfl rfl HZ1.out HS.out hNpos ?_; intro w2 kp hg hsz hR)
  have HB2 := Lib.hid (show Below w.heap.size w w2 from HBO.out.grown hg HBO.out.size (fun x hx => by cases hx; have := HG6.out; omega))
  have HR2 := Lib.hid (hR (fun i u => Rv b (S.T r i) u w2) (fun i u _ h => Rv.keepN h kp))
  clear hR kp hg hsz HZ1 HS HT1 HB1 c2 pl rc
  have hg62 := HR2.out.lt
  obtain ⟨ad, s, A0, k0, c0, B0, m0, d0, had, -, q0, q1, q2, q3⟩ := (Rs.of_rb HR2.out).at_ hk
  injection had with had
  subst had
  rw [addr_zero] at q0 q1 q2
  have HQ := Lib.hid q3; clear q3
  have i1 : (0 : Int) ≤ (k : Int) := by omega
  have i2 : (k : Int) < (N : Int) := by omega
  go_upto_region 3 with (fail)
  obtain ⟨g7, hg7⟩ : ∃ g7, g7 = w2.heap.size := ⟨_, rfl⟩
  have HB3 := Lib.hid (bthen HB2.out (al w2 (.cells #[.bool s, .slice A0 k0 c0, .slice B0 m0 d0] 31)) HB2.out.size)
  have HD3 := Lib.hid (show Bn b (S.T r k) g7 (w2.alloc (.cells #[.bool s, .slice A0 k0 c0, .slice B0 m0 d0] 31)) by
    obtain ⟨s', A', n', c', B', m', d', e, h⟩ := HQ.out
    injection e with e; injection e with e; injection e with e0 e; injection e with e1 e; injection e with e2 _
    injection e0 with e0; injection e1 with e1 e1' e1''; injection e2 with e2 e2' e2''
    subst e0 e1 e1' e1'' e2 e2' e2''
    exact ⟨_, _, _, _, _, _, _, by rw [hg7]; exact Blk.new w2 _ _, h.new (al w2 _)⟩)
  have HR3 := Lib.hid (HR2.out.below (al w2 (.cells #[.bool s, .slice A0 k0 c0, .slice B0 m0 d0] 31)) (Q := fun i u => (i < 0 → Rv (b + b) (S.T r i / S.T r k) u (w2.alloc (.cells #[.bool s, .slice A0 k0 c0, .slice B0 m0 d0] 31))) ∧ (0 ≤ i → Rv b (S.T r i) u (w2.alloc (.cells #[.bool s, .slice A0 k0 c0, .slice B0 m0 d0] 31)))) (fun i u _ h => ⟨fun h0 => absurd h0 (by omega), fun _ => h.new (al w2 _)⟩))
  have hg67 : g6 < g7 := by omega
  rw [← hg7]
  clear hg7 HR2 HB2 HQ q0 q1 q2 hg62
  generalize w2.alloc (.cells #[.bool s, .slice A0 k0 c0, .slice B0 m0 d0] 31) = w3 at *
  go_wp2_with fail
  go_loopw [34] (fun iv wr => ∃ j : Nat, iv = .int .i64 j ∧ j ≤ N ∧ Hid (RB wr g6 N (fun i u => (i < j → Rv (b + b) (S.T r i / S.T r k) u wr) ∧ (j ≤ i → Rv b (S.T r i) u wr)) ∧ Bn b (S.T r k) g7 wr ∧ Below w.heap.size w wr)) (fun iv _ => N - (intOf iv).toNat)
  case atStart => exact ⟨0, rfl, Nat.zero_le _, Lib.hid ⟨HR3.out, HD3.out, HB3.out⟩⟩
  case round =>
    obtain ⟨j, rfl, hj, HI⟩ := hrel
    by_cases hjN : j < N
    · have HR := Lib.hid HI.out.1; have HD := Lib.hid HI.out.2.1; have HB := Lib.hid HI.out.2.2
      clear HI
      have HRW := Lib.hid (fun (ww : World) (hb : Below wr.heap.size wr ww) => HR.out.below hb (Q := fun i u => (i < j → Rv (b + b) (S.T r i / S.T r k) u ww) ∧ (j ≤ i → Rv b (S.T r i) u ww)) (fun i u _ h => ⟨fun hi => (h.1 hi).new hb, fun hi => (h.2 hi).new hb⟩))
      have HE := Lib.hid (fun (ww : World) (hb : Below wr.heap.size wr ww) => (Rs.of_rb (HRW.out ww hb)).mono (Q := fun i v => i = j → Rv b (S.T r j) v ww) (fun i v _ h hij => by subst hij; exact h.2 (Nat.le_refl _)))
      by_cases hz : S.T r j = 0
      · have hs1 : ((S.T r j).num.sign != 0) = false := by rw [bne_of (sign_zero hz)]; rfl
        go_upto_region 6 with (fail)
        refine wp_region_seq (kss := [[], [], [(0, 37), (1, 38)], [(2, 39)], [(3, 40)], [(4, 41)]]) [(6, .slice (some (⟨g6, 0, none⟩)) N N), (8, .int .i64 ((j : Int)))] [EV (.slice (some (⟨g6, 0, none⟩)) N N), EV (.int .i64 ((j : Int))), EV (.pointer (some (Addr.add (⟨g6, 0, none⟩) (j * 3)))), Rv (b) (S.T r j), EV (.int .i64 ((S.T r j).num.sign)), EV (.bool false)] (by kernel_rfl) ⟨rfl, rfl, trivial⟩ ?_ ?_ ?_
        · exact ⟨eI, eI, eI, fun _ _ _ h hb => h.new hb, eI, eI, trivial⟩
        · refine ⟨?_, ?_, ?_, ?_, ?_, ?_, trivial⟩
          · exact fun _ _ _ he hd => ob_mv rfl rfl he.1
          · exact fun _ _ _ he hd => ob_mv rfl rfl he.2.1
          · exact fun aa ww hb he hd => ob_plain rfl (idx_rs (by omega) rfl hd.1 hd.2.1)
          · exact fun aa ww hb he hd => ob_plain rfl (load_rp rfl hd.1 (HE.out _ hb) (by omega) (fun _ h => h rfl))
          · exact fun aa ww hb he hd => ob_plain rfl (gives_call1 _ _ _ rfl (by kernel_rfl) (sign_v (hd.1.rw)))
          · exact fun aa ww hb he hd => ob_plain rfl (gives_ne_int ((S.T r j).num.sign) 0 .i64 _ _ _ _ rfl hd.1 rfl ⟨congrArg Value.bool (hs1), Below.refl _ _⟩)
        intro vs w3 hb hR
        have e42 : vs 5 = .bool false := hR 5 (by decide)
        clear hR
        simp only [putsL, Nat.zero_add, Nat.reduceAdd, List.take_succ_cons, List.take_zero, Act.put, List.setIfInBounds_toArray, List.set_cons_zero, List.set_cons_succ]
        rw [e42]
        clear e42
        go_wp2_with fail
        refine ⟨⟨j + 1, by go_num, by omega, Lib.hid ⟨(HRW.out _ hb).mono (fun i u _ h => ⟨fun hi => ?_, fun hi => h.2 (by omega)⟩), HD.out.new hb, bthen HB.out hb HB.out.size⟩⟩, by simp [intOf]; omega⟩
        by_cases hij : i = j
        · subst hij
          have e : S.T r i / S.T r k = S.T r i := by rw [hz]; grind
          rw [e]; exact (h.2 (Nat.le_refl _)).more (by omega)
        · exact h.1 (by omega)
      · have hs1 : ((S.T r j).num.sign != 0) = true := by rw [bne_of (sign_ne hz)]; rfl
        go_upto_region 6 with (fail)
        refine wp_region_seq (kss := [[], [], [(0, 37), (1, 38)], [(2, 39)], [(3, 40)], [(4, 41)]]) [(6, .slice (some (⟨g6, 0, none⟩)) N N), (8, .int .i64 ((j : Int)))] [EV (.slice (some (⟨g6, 0, none⟩)) N N), EV (.int .i64 ((j : Int))), EV (.pointer (some (Addr.add (⟨g6, 0, none⟩) (j * 3)))), Rv (b) (S.T r j), EV (.int .i64 ((S.T r j).num.sign)), EV (.bool true)] (by kernel_rfl) ⟨rfl, rfl, trivial⟩ ?_ ?_ ?_
        · exact ⟨eI, eI, eI, fun _ _ _ h hb => h.new hb, eI, eI, trivial⟩
        · refine ⟨?_, ?_, ?_, ?_, ?_, ?_, trivial⟩
          · exact fun _ _ _ he hd => ob_mv rfl rfl he.1
          · exact fun _ _ _ he hd => ob_mv rfl rfl he.2.1
          · exact fun aa ww hb he hd => ob_plain rfl (idx_rs (by omega) rfl hd.1 hd.2.1)
          · exact fun aa ww hb he hd => ob_plain rfl (load_rp rfl hd.1 (HE.out _ hb) (by omega) (fun _ h => h rfl))
          · exact fun aa ww hb he hd => ob_plain rfl (gives_call1 _ _ _ rfl (by kernel_rfl) (sign_v (hd.1.rw)))
          · exact fun aa ww hb he hd => ob_plain rfl (gives_ne_int ((S.T r j).num.sign) 0 .i64 _ _ _ _ rfl hd.1 rfl ⟨congrArg Value.bool (hs1), Below.refl _ _⟩)
        intro vs w3 hb hR
        have e42 : vs 5 = .bool true := hR 5 (by decide)
        clear hR
        simp only [putsL, Nat.zero_add, Nat.reduceAdd, List.take_succ_cons, List.take_zero, Act.put, List.setIfInBounds_toArray, List.set_cons_zero, List.set_cons_succ]
        rw [e42]
        clear e42
        go_upto_region 7 with (fail)
        have HR3 := Lib.hid (HRW.out _ hb)
        replace HD := Lib.hid (HD.out.new hb); replace HB := Lib.hid (bthen HB.out hb HB.out.size)
        clear hb HR HE HRW
        have HRW := Lib.hid (fun (ww : World) (hb : Below w3.heap.size w3 ww) => HR3.out.below hb (Q := fun i u => (i < j → Rv (b + b) (S.T r i / S.T r k) u ww) ∧ (j ≤ i → Rv b (S.T r i) u ww)) (fun i u _ h => ⟨fun hi => (h.1 hi).new hb, fun hi => (h.2 hi).new hb⟩))
        have HE := Lib.hid (fun (ww : World) (hb : Below w3.heap.size w3 ww) => (Rs.of_rb (HRW.out ww hb)).mono (Q := fun i v => i = j → Rv b (S.T r j) v ww) (fun i v _ h hij => by subst hij; exact h.2 (Nat.le_refl _)))
        have hne := HNE.out
        refine wp_region_join (kss := [[], [], [], [], [(2, 46), (3, 47)], [(4, 48)], [], [(5, 49), (6, 50)], [(7, 51)], [(8, 43)], [(8, 43)], [(0, 44), (1, 45)]]) [(6, .slice (some (⟨g6, 0, none⟩)) N N), (8, .int .i64 ((j : Int))), (7, .pointer (some ⟨g7, 0, none⟩))] [EV (.slice (some (⟨g6, 0, none⟩)) N N), EV (.int .i64 ((j : Int))), EV (.slice (some (⟨g6, 0, none⟩)) N N), EV (.int .i64 ((j : Int))), EV (.pointer (some (Addr.add (⟨g6, 0, none⟩) (j * 3)))), Rv (b) (S.T r j), Rv (b) (S.T r k), Dv (b + b) ((S.T r j) / (S.T r k)), Dv (b + b) ((S.T r j) / (S.T r k)), Rv (b + b) ((S.T r j) / (S.T r k)), EV (.int .i64 0), EV (.pointer (some (Addr.add (⟨g6, 0, none⟩) (j * 3))))] 12 [10] (by kernel_rfl) (by kernel_rfl) ⟨rfl, rfl, rfl, trivial⟩ [false, false, false, false, false, false, false, false, false, false, false, false] ?_ ?_ ?_ ?_
        · intro i hi
          simp only [List.mem_cons, List.not_mem_nil, or_false] at hi
          subst hi
          exact ⟨rfl, fun o ks ho hk => by cases ho; cases hk; exact fun a w _ _ hd => late_e rfl rfl hd.1⟩
        · exact ⟨eI, eI, eI, eI, eI, fun _ _ _ h hb => h.new hb, fun _ _ _ h hb => h.new hb, fun _ _ _ h hb => h.new hb, fun _ _ _ h hb => h.new hb, fun _ _ _ h hb => h.new hb, eI, eI, trivial⟩
        · refine ⟨?_, ?_, ?_, ?_, ?_, ?_, ?_, ?_, ?_, ?_, ?_, ?_, trivial⟩
          · exact fun _ _ _ he hd => ob_mv rfl rfl he.1
          · exact fun _ _ _ he hd => ob_mv rfl rfl he.2.1
          · exact fun _ _ _ he hd => ob_mv rfl rfl he.1
          · exact fun _ _ _ he hd => ob_mv rfl rfl he.2.1
          · exact fun aa ww hb he hd => ob_plain rfl (idx_rs (by omega) rfl hd.1 hd.2.1)
          · exact fun aa ww hb he hd => ob_plain rfl (load_rp rfl hd.1 (HE.out _ hb) (by omega) (fun _ h => h rfl))
          · exact fun aa ww hb he hd => ob_plain rfl (load_bn rfl he.2.2.1 (Bn.new HD.out hb))
          · exact fun aa ww hb he hd => ob_plain rfl (gives_call2 _ _ _ _ rfl (by kernel_rfl) (div_v (hd.1.rw) (hd.2.1.rw) (by omega) hne))
          · exact fun _ _ _ he hd => ob_mv rfl rfl hd.1
          · exact fun aa ww hb he hd => ob_plain rfl (ext_q rfl hd.1)
          · exact fun aa ww hb he hd => ob_plain rfl (ext_e rfl hd.1)
          · exact fun aa ww hb he hd => ob_plain rfl (idx_rs (by omega) rfl hd.1 hd.2.1)
        intro vs w4 hb hR _
        have e54 : vs 11 = .pointer (some (Addr.add (⟨g6, 0, none⟩) (j * 3))) := hR 11 (by decide)
        have r52 : Rv (b + b) ((S.T r j) / (S.T r k)) (vs 9) w4 := hR 9 (by decide)
        clear hR
        simp only [putsL, Nat.zero_add, Nat.reduceAdd, List.take_succ_cons, List.take_zero, Act.put, List.setIfInBounds_toArray, List.set_cons_zero, List.set_cons_succ]
        rw [e54]
        clear e54
        show wpAny _ _ _ _ 1 _ _ _
        refine wpAny_next (i := 12) (by kernel_rfl) rfl rfl (store_row (v := vs 9) (g := g6) (j := j) (b := b + b) (x := S.T r j / S.T r k) rfl rfl rfl rfl (HRW.out _ hb) hjN r52.rw ?_)
        clear hne
        intro w5 kp hg hsz hR
        refine wpAny_end (by kernel_rfl) (calm_normal ?_) _
        go_wp2_with fail
        have HB4 := Lib.hid (bthen HB.out hb HB.out.size)
        refine ⟨⟨j + 1, by go_num, by omega, Lib.hid ⟨hR _ (fun i u hi hne h => ⟨fun h1 => (h.1 (by omega)).keepN kp, fun h1 => (h.2 (by omega)).keepN kp⟩) ⟨fun _ => r52.keepN kp, fun h1 => absurd h1 (by omega)⟩, (HD.out.new hb).kept hg (by omega) kp, ?_⟩⟩, by simp [intOf]; omega⟩
        exact HB4.out.grown hg HB4.out.size (fun x hx => by cases hx; have := HG6.out; omega)
    · have hjN' : j = N := by omega
      subst hjN'
      clear hjN hj
      have HTr := Lib.hid (HT.out.new HI.out.2.2)
      have HPr := Lib.hid (HI.out.1.mono (Q := PN wr b (fun j => S.T r j / S.T r k)) (fun i u hi h => (h.1 hi).fit (by have := (HF.out r hr i hi).1; rwa [piv_row] at this) (by have := (HF.out r hr i hi).2; rwa [piv_row] at this) hb1))
      have HBr := Lib.hid (show Below base w wr from HI.out.2.2.mono hbw)
      clear HI
      have c2 := HTr.out.c2; have pl := HTr.out.blk.lt
      go_wp2_with fail
      clear c2 pl
      go_loopw [61] (fun iv wr => ∃ i : Nat, iv = .int .i64 i ∧ i ≤ m ∧ Hid (∃ rs1, TabW base wr p n m j b gg (some ⟨gr, 0, none⟩) cr (some ⟨gb, 0, none⟩) cb rs1 ⟨stT S r k i, S.G, S.b⟩ ∧ RB wr g6 j (PN wr b (fun l => S.T r l / S.T r k)) ∧ Below base w wr)) (fun iv _ => m - (intOf iv).toNat)
      case atStart => exact ⟨0, rfl, Nat.zero_le _, Lib.hid ⟨rs, by rw [stT_zero]; exact HTr.out, HPr.out, HBr.out⟩⟩
      case round =>
        obtain ⟨i, rfl, hi, HI⟩ := hrel
        obtain ⟨rs1, hI⟩ := HI.out
        have HJ := Lib.hid hI; clear hI HI
        by_cases him : i < m
        · by_cases hir : i = r
          · have t0 : ((i : Int) != (r : Int)) = false := by simp [hir]
            have HE := Lib.hid (stT_skip S (k := k) hir); clear hir
            go_wp2_with fail
            exact ⟨⟨i + 1, by go_num, by omega, Lib.hid ⟨rs1, by rw [HE.out]; exact HJ.out.1, HJ.out.2⟩⟩, by simp [intOf]; omega⟩
          · have t0 : ((i : Int) != (r : Int)) = true := by rw [bne_iff_ne]; omega
            have HE := Lib.hid (stT_next S (k := k) hir)
            have HS1 := Lib.hid (stT_self S r k i)
            have HPO := Lib.hid (fun jj => piv_oth S k jj hir)
            clear hir
            obtain ⟨S1, hS1⟩ : ∃ S1 : Tab, S1 = ⟨stT S r k i, S.G, S.b⟩ := ⟨_, rfl⟩
            have HT := Lib.hid (show TabW base wr p n m j b gg (some ⟨gr, 0, none⟩) cr (some ⟨gb, 0, none⟩) cb rs1 S1 by rw [hS1]; exact HJ.out.1)
            have HP := Lib.hid HJ.out.2.1; have HB := Lib.hid HJ.out.2.2
            have HSE := Lib.hid hS1
            clear HJ hS1
            go_upto_region 13 with (fail)
            refine wp_region_join (kss := [[], [(0, 67)], [(1, 68)], [(2, 69)], [], [], [(5, 72)], [(6, 73)], [(7, 74)], [], [(8, 75), (9, 76)], [(10, 77)], [], [], [(13, 80)], [(14, 81)], [(15, 82)], [], [(16, 83), (17, 84)], [(18, 85)], [], [(19, 86), (20, 87)], [(21, 88)], [(11, 78), (12, 79), (22, 89)], [(3, 70), (4, 71)]]) [(0, .pointer (some ⟨p, 0, none⟩)), (9, .int .i64 ((i : Int))), (6, .slice (some (⟨g6, 0, none⟩)) j j), (2, .int .i64 ((k : Int)))] [EV (.pointer (some ⟨p, 0, none⟩)), EV (.pointer (some ⟨p, 0, none⟩)), EV (.pointer (some ⟨p, 2, none⟩)), EV (.slice (some ⟨gr, 0, none⟩) m cr), EV (.int .i64 ((i : Int))), EV (.pointer (some ⟨p, 0, none⟩)), EV (.pointer (some ⟨p, 0, none⟩)), EV (.pointer (some ⟨p, 2, none⟩)), EV (.slice (some ⟨gr, 0, none⟩) m cr), EV (.int .i64 ((i : Int))), EV (.pointer (some (Addr.add ⟨gr, 0, none⟩ i))), EV (.slice (some (⟨rs1 i, 0, none⟩)) j j), EV (.slice (some (⟨g6, 0, none⟩)) j j), EV (.pointer (some ⟨p, 0, none⟩)), EV (.pointer (some ⟨p, 0, none⟩)), EV (.pointer (some ⟨p, 2, none⟩)), EV (.slice (some ⟨gr, 0, none⟩) m cr), EV (.int .i64 ((i : Int))), EV (.pointer (some (Addr.add ⟨gr, 0, none⟩ i))), EV (.slice (some (⟨rs1 i, 0, none⟩)) j j), EV (.int .i64 ((k : Int))), EV (.pointer (some (Addr.add (⟨rs1 i, 0, none⟩) (k * 3)))), Rv (b) ((S1.T i) k), fun v w' => ∃ g0 : Nat, v = .slice (some ⟨g0, 0, none⟩) j j ∧ RB w' g0 j (PN w' (b + (b + b) + 1) (fun l => S1.T i l - S1.T i k * (S.T r l / S.T r k))), EV (.pointer (some (Addr.add ⟨gr, 0, none⟩ i)))] 25 [] (by kernel_rfl) (by kernel_rfl) ⟨rfl, rfl, rfl, rfl, trivial⟩ [false, false, false, false, false, false, false, false, false, false, false, false, false, false, false, false, false, false, false, false, false, false, false, false, false] ?_ ?_ ?_ ?_
            · exact fun i hi => absurd hi (by simp)
            · exact ⟨eI, eI, eI, eI, eI, eI, eI, eI, eI, eI, eI, eI, eI, eI, eI, eI, eI, eI, eI, eI, eI, eI, fun _ _ _ h hb => h.new hb, fun _ _ _ ⟨g0, h1, h2⟩ hb => ⟨g0, h1, h2.newN hb⟩, eI, trivial⟩
            · refine ⟨?_, ?_, ?_, ?_, ?_, ?_, ?_, ?_, ?_, ?_, ?_, ?_, ?_, ?_, ?_, ?_, ?_, ?_, ?_, ?_, ?_, ?_, ?_, ?_, ?_, trivial⟩
              · exact fun _ _ _ he hd => ob_mv rfl rfl he.1
              · exact fun aa ww hb he hd => ob_plain rfl (nil_c rfl hd.1)
              · exact fun aa ww hb he hd => ob_plain rfl (fld_tab rfl (by decide) hd.1)
              · exact fun aa ww hb he hd => ob_plain rfl (load_c29 rfl hd.1 (TabW.new HT.out hb).c2)
              · exact fun _ _ _ he hd => ob_mv rfl rfl he.2.1
              · exact fun _ _ _ he hd => ob_mv rfl rfl he.1
              · exact fun aa ww hb he hd => ob_plain rfl (nil_c rfl hd.1)
              · exact fun aa ww hb he hd => ob_plain rfl (fld_tab rfl (by decide) hd.1)
              · exact fun aa ww hb he hd => ob_plain rfl (load_c29 rfl hd.1 (TabW.new HT.out hb).c2)
              · exact fun _ _ _ he hd => ob_mv rfl rfl he.2.1
              · exact fun aa ww hb he hd => ob_plain rfl (idx_rws (by omega) rfl hd.1 hd.2.1)
              · exact fun aa ww hb he hd => ob_plain rfl (load_c28 rfl hd.1 ((TabW.new HT.out hb).rcell (by omega)))
              · exact fun _ _ _ he hd => ob_mv rfl rfl he.2.2.1
              · exact fun _ _ _ he hd => ob_mv rfl rfl he.1
              · exact fun aa ww hb he hd => ob_plain rfl (nil_c rfl hd.1)
              · exact fun aa ww hb he hd => ob_plain rfl (fld_tab rfl (by decide) hd.1)
              · exact fun aa ww hb he hd => ob_plain rfl (load_c29 rfl hd.1 (TabW.new HT.out hb).c2)
              · exact fun _ _ _ he hd => ob_mv rfl rfl he.2.1
              · exact fun aa ww hb he hd => ob_plain rfl (idx_rws (by omega) rfl hd.1 hd.2.1)
              · exact fun aa ww hb he hd => ob_plain rfl (load_c28 rfl hd.1 ((TabW.new HT.out hb).rcell (by omega)))
              · exact fun _ _ _ he hd => ob_mv rfl rfl he.2.2.2.1
              · exact fun aa ww hb he hd => ob_plain rfl (idx_rs (by omega) rfl hd.1 hd.2.1)
              · exact fun aa ww hb he hd => ob_plain rfl (load_rn rfl hd.1 (Rs.of_rb ((TabW.new HT.out hb).row (by omega))) (by omega))
              · exact fun aa ww hb he hd => ob_plain rfl (gives_comb (b := b) (bq := b) (f := S1.T i) (g := fun l => S.T r l / S.T r k) (q := S1.T i k) rfl hd.1 (Rs.of_rb ((TabW.new HT.out hb).row (by omega))) hd.2.1 (Rs.of_rb (RB.newN HP.out hb)) hd.2.2.1.rw (by omega) (by omega) (by omega) hb1 (fun _ => rfl))
              · exact fun aa ww hb he hd => ob_plain rfl (idx_rws (by omega) rfl hd.1 hd.2.1)
            intro vs w4 hb hR _
            have e91 : vs 24 = .pointer (some (Addr.add ⟨gr, 0, none⟩ i)) := hR 24 (by decide)
            have r90 := hR 23 (by decide)
            clear hR
            simp only [putsL, Nat.zero_add, Nat.reduceAdd, List.take_succ_cons, List.take_zero, Act.put, List.setIfInBounds_toArray, List.set_cons_zero, List.set_cons_succ]
            rw [e91]
            clear e91
            obtain ⟨g0, e90, hr0⟩ := (show ∃ g0 : Nat, vs 23 = .slice (some ⟨g0, 0, none⟩) j j ∧ RB w4 g0 j (PN w4 (b + (b + b) + 1) (fun l => S1.T i l - S1.T i k * (S.T r l / S.T r k))) from r90)
            rw [e90]
            clear r90 e90
            have HT4 := Lib.hid (HT.out.new hb)
            have HP4 := Lib.hid (HP.out.newN hb)
            have HB4 := Lib.hid (show Below base w w4 from HB.out.trans (hb.mono HT.out.low.2.1))
            have HE1 := Lib.hid (show ∀ l, S1.T i l - S1.T i k * (S.T r l / S.T r k) = (S.piv r k).T i l from fun l => by
              have e1 : S1.T i = S.T i := by rw [HSE.out]; exact HS1.out
              rw [e1, HPO.out l])
            have HR0 := Lib.hid (hr0.mono (Q := PN w4 b ((S.piv r k).T i)) (fun l u hl h => by
              have h' : Rv (b + (b + b) + 1) (S1.T i l - S1.T i k * (S.T r l / S.T r k)) u w4 := h
              rw [HE1.out l] at h'
              exact h'.fit (HF.out i him l hl).1 (HF.out i him l hl).2 hb1))
            clear hr0 hb
            obtain ⟨s1, s2, s3⟩ := HT4.out.setRow him HR0.out
            have hfar := HP4.out.setFar (i := i) HT4.out.rows s3
            have HN1 := Lib.hid s1; have HN3 := Lib.hid hfar
            have HN2 := Lib.hid (show Below base w (w4.setCell ⟨gr, i, none⟩ (.slice (some ⟨g0, 0, none⟩) j j)) from HB4.out.setCell (p := ⟨gr, i, none⟩) (by show base ≤ gr; obtain ⟨⟨g', e', h', _⟩, _⟩ := HT4.out.some_ (by omega); injection e' with e'; injection e' with e'; omega) _)
            clear s1 s2 s3 hfar
            show wpAny _ _ _ _ 1 _ _ _
            refine wpAny_next (i := 25) (by kernel_rfl) rfl rfl (store_c28 rfl rfl rfl rfl (HT4.out.rcell him) (HT4.out.rfz i) ?_)
            rw [addr_zero]
            refine wpAny_end (by kernel_rfl) (calm_normal ?_) _
            generalize w4.setCell ⟨gr, i, none⟩ (.slice (some ⟨g0, 0, none⟩) j j) = w5 at *
            go_wp2_with fail
            refine ⟨⟨i + 1, by go_num, by omega, Lib.hid ⟨fun l => if l = i then g0 else rs1 l, ?_, HN3.out, HN2.out⟩⟩, by simp [intOf]; omega⟩
            refine HN1.out.congr (fun l _ jj _ => ?_) (fun jj _ => by rw [HSE.out]) (fun l _ => by rw [HSE.out])
            rw [HE.out]
            by_cases hli : l = i
            · simp only [if_pos hli]
            · simp only [if_neg hli]; rw [HSE.out]
        · have him' : i = m := by omega
          subst him'
          clear him hi
          have HT := Lib.hid HJ.out.1; have HP := Lib.hid HJ.out.2.1; have HB := Lib.hid HJ.out.2.2
          clear HJ
          obtain ⟨S1, hS1⟩ : ∃ S1 : Tab, S1 = ⟨stT S r k i, S.G, S.b⟩ := ⟨_, rfl⟩
          rw [← hS1] at HT
          have HSE := Lib.hid hS1; clear hS1
          go_upto_region 15 with (fail)
          refine wp_region_join (kss := [[], [], [(1, 94)], [(2, 95)], [(3, 96)], [], [], [(6, 99)], [(7, 100)], [(8, 101)], [], [(9, 102), (10, 103)], [(11, 104)], [(4, 97), (5, 98), (12, 105)], [(0, 93)], [(14, 107)]]) [(0, .pointer (some ⟨p, 0, none⟩)), (6, .slice (some (⟨g6, 0, none⟩)) j j), (2, .int .i64 ((k : Int)))] [EV (.pointer (some ⟨p, 0, none⟩)), EV (.pointer (some ⟨p, 0, none⟩)), EV (.pointer (some ⟨p, 0, none⟩)), EV (.pointer (some ⟨p, 3, none⟩)), EV (.slice (some (⟨gg, 0, none⟩)) j j), EV (.slice (some (⟨g6, 0, none⟩)) j j), EV (.pointer (some ⟨p, 0, none⟩)), EV (.pointer (some ⟨p, 0, none⟩)), EV (.pointer (some ⟨p, 3, none⟩)), EV (.slice (some (⟨gg, 0, none⟩)) j j), EV (.int .i64 ((k : Int))), EV (.pointer (some (Addr.add (⟨gg, 0, none⟩) (k * 3)))), Rv (b) ((S1.G) k), fun v w' => ∃ g0 : Nat, v = .slice (some ⟨g0, 0, none⟩) j j ∧ RB w' g0 j (PN w' (b + (b + b) + 1) (fun l => S1.G l - S1.G k * (S.T r l / S.T r k))), EV (.pointer (some ⟨p, 0, none⟩)), EV (.pointer (some ⟨p, 3, none⟩))] 16 [] (by kernel_rfl) (by kernel_rfl) ⟨rfl, rfl, rfl, trivial⟩ [false, false, false, false, false, false, false, false, false, false, false, false, false, false, false, false] ?_ ?_ ?_ ?_
          · exact fun i hi => absurd hi (by simp)
          · exact ⟨eI, eI, eI, eI, eI, eI, eI, eI, eI, eI, eI, eI, fun _ _ _ h hb => h.new hb, fun _ _ _ ⟨g0, h1, h2⟩ hb => ⟨g0, h1, h2.newN hb⟩, eI, eI, trivial⟩
          · refine ⟨?_, ?_, ?_, ?_, ?_, ?_, ?_, ?_, ?_, ?_, ?_, ?_, ?_, ?_, ?_, ?_, trivial⟩
            · exact fun _ _ _ he hd => ob_mv rfl rfl he.1
            · exact fun _ _ _ he hd => ob_mv rfl rfl he.1
            · exact fun aa ww hb he hd => ob_plain rfl (nil_c rfl hd.1)
            · exact fun aa ww hb he hd => ob_plain rfl (fld_tab rfl (by decide) hd.1)
            · exact fun aa ww hb he hd => ob_plain rfl (load_c28 rfl hd.1 (TabW.new HT.out hb).c3)
            · exact fun _ _ _ he hd => ob_mv rfl rfl he.2.1
            · exact fun _ _ _ he hd => ob_mv rfl rfl he.1
            · exact fun aa ww hb he hd => ob_plain rfl (nil_c rfl hd.1)
            · exact fun aa ww hb he hd => ob_plain rfl (fld_tab rfl (by decide) hd.1)
            · exact fun aa ww hb he hd => ob_plain rfl (load_c28 rfl hd.1 (TabW.new HT.out hb).c3)
            · exact fun _ _ _ he hd => ob_mv rfl rfl he.2.2.1
            · exact fun aa ww hb he hd => ob_plain rfl (idx_rs (by omega) rfl hd.1 hd.2.1)
            · exact fun aa ww hb he hd => ob_plain rfl (load_rn rfl hd.1 (Rs.of_rb (TabW.new HT.out hb).goal) (by omega))
            · exact fun aa ww hb he hd => ob_plain rfl (gives_comb (b := b) (bq := b) (f := S1.G) (g := fun l => S.T r l / S.T r k) (q := S1.G k) rfl hd.1 (Rs.of_rb (TabW.new HT.out hb).goal) hd.2.1 (Rs.of_rb (RB.newN HP.out hb)) hd.2.2.1.rw (by omega) (by omega) (by omega) hb1 (fun _ => rfl))
            · exact fun aa ww hb he hd => ob_plain rfl (nil_c rfl hd.1)
            · exact fun aa ww hb he hd => ob_plain rfl (fld_tab rfl (by decide) hd.1)
          intro vs w4 hb hR _
          have e108 : vs 15 = .pointer (some ⟨p, 3, none⟩) := hR 15 (by decide)
          have r106 := hR 13 (by decide)
          clear hR
          simp only [putsL, Nat.zero_add, Nat.reduceAdd, List.take_succ_cons, List.take_zero, Act.put, List.setIfInBounds_toArray, List.set_cons_zero, List.set_cons_succ]
          rw [e108]
          clear e108
          obtain ⟨g0, e106, hr0⟩ := (show ∃ g0 : Nat, vs 13 = .slice (some ⟨g0, 0, none⟩) j j ∧ RB w4 g0 j (PN w4 (b + (b + b) + 1) (fun l => S1.G l - S1.G k * (S.T r l / S.T r k))) from r106)
          rw [e106]
          clear r106 e106
          have HT4 := Lib.hid (HT.out.new hb)
          have HP4 := Lib.hid (HP.out.newN hb)
          have HB4 := Lib.hid (show Below base w w4 from HB.out.trans (hb.mono HT.out.low.2.1))
          have HR0 := Lib.hid (hr0.mono (Q := PN w4 b (S.piv r k).G) (fun l u hl h => by
            have h' : Rv (b + (b + b) + 1) (S1.G l - S1.G k * (S.T r l / S.T r k)) u w4 := h
            have e1 : S1.G l - S1.G k * (S.T r l / S.T r k) = (S.piv r k).G l := by rw [HSE.out]; rfl
            rw [e1] at h'
            exact h'.fit (HFG.out l hl).1 (HFG.out l hl).2 hb1))
          clear hr0 hb
          obtain ⟨s1, s2⟩ := HT4.out.setGoal HR0.out
          have HN1 := Lib.hid s1
          have HN2 := Lib.hid (show Below base w (w4.setCell ⟨p, 3, none⟩ (.slice (some ⟨g0, 0, none⟩) j j)) from HB4.out.setCell (p := ⟨p, 3, none⟩) HT4.out.low.1 _)
          have kp := KeepsN.setCell HT4.out.c3 (by intro x; simp) (.slice (some ⟨g0, 0, none⟩) j j)
          have HN3 := Lib.hid (HP4.out.far (p := ⟨p, 3, none⟩) (by obtain ⟨cs, hb', _⟩ := HP4.out; exact Blk.ne_ hb' HT4.out.blk (by decide)) (u := .slice (some ⟨g0, 0, none⟩) j j) (Q := PN (w4.setCell ⟨p, 3, none⟩ (.slice (some ⟨g0, 0, none⟩) j j)) b (fun l => S.T r l / S.T r k)) (fun _ v _ hv => PN.keep hv kp))
          clear s1 s2 kp
          show wpAny _ _ _ _ 1 _ _ _
          refine wpAny_next (i := 16) (by kernel_rfl) rfl rfl (store_c28 rfl rfl rfl rfl HT4.out.c3 (HT4.out.blk.frozen 3) ?_)
          refine wpAny_end (by kernel_rfl) (calm_normal ?_) _
          generalize w4.setCell ⟨p, 3, none⟩ (.slice (some ⟨g0, 0, none⟩) j j) = w5 at *
          have c2 := HN1.out.c2; have pl := HN1.out.blk.lt
          have rc := HN1.out.rcell hr; have rf := HN1.out.rfz r
          rw [addr_zero] at rc rf
          have j1 : (0 : Int) ≤ (r : Int) := by omega
          have j2 : (r : Int) < (i : Int) := by omega
          go_upto_region 17 with (fail)
          obtain ⟨s1, s2, s3⟩ := HN1.out.setRow hr HN3.out
          have HM1 := Lib.hid s1
          have HM2 := Lib.hid (show Below base w (w5.setCell ⟨gr, r, none⟩ (.slice (some ⟨g6, 0, none⟩) j j)) from HN2.out.setCell (p := ⟨gr, r, none⟩) (by show base ≤ gr; obtain ⟨⟨g', e', h', _⟩, _⟩ := HN1.out.some_ (by omega); injection e' with e'; injection e' with e'; omega) _)
          clear s1 s2 s3 c2 pl rc rf
          generalize w5.setCell ⟨gr, r, none⟩ (.slice (some ⟨g6, 0, none⟩) j j) = w6 at *
          have c4 := HM1.out.c4; have pl := HM1.out.blk.lt
          have bc := HM1.out.bcell hr; have bf := HM1.out.bas.frozenAt r
          rw [addr_zero] at bc
          go_wp2_with fail
          obtain ⟨s1, s2⟩ := HM1.out.setBas (k := k) hr
          refine bodyPost_ret (v := .tuple #[]) (results_none Try.results90 _ _ _) rfl ?_
          refine ⟨g0, _, rfl, s1.congr (fun l hl jj hjj => ?_) (fun jj _ => rfl) (fun l _ => ?_), HM2.out.setCell (p := ⟨gb, r, none⟩) (by show base ≤ gb; obtain ⟨_, g', e', h', _⟩ := HM1.out.some_ (by omega); injection e' with e'; injection e' with e'; omega) _⟩
          · show (if l = r then (fun l => S.T r l / S.T r k) else S1.T l) jj = _
            by_cases hlr : l = r
            · rw [if_pos hlr, hlr, piv_row]
            · rw [if_neg hlr, HSE.out]
              show stT S r k i l jj = _
              simp [stT, hl, hlr]
          · rw [HSE.out]; rfl
end Go.Proofs.Ytpnklmgfdihjfaa
