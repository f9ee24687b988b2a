/-
Rows of fractions and of Smalls; contracts of law28.qs and Rats. Regions printed by gen/sqs.py.
Opens arguments that hold Smalls.
Contract of simplex.valid.
-/
import Derived.Test.YtamcibmjpmibdaaK10
import Derived.Test.YtamcibmjpmibdaaK12
import Derived.Test.YtamcibmjpmibdaaK1
import Derived.Deep.SlicePairs
namespace Go.Proofs.Ytamcibmjpmibdaa
open Go.RowKit
set_option linter.unusedVariables false
set_option linter.unusedSimpArgs false

/-- The cells of a row of pairs. -/
def pr2 (u v : Nat → Value) : Nat → List Value
  | 0 => []
  | n + 1 => pr2 u v n ++ [u n, v n]
theorem pr2_length (u v : Nat → Value) : ∀ n, (pr2 u v n).length = n * 2
  | 0 => rfl
  | n + 1 => by rw [pr2, List.length_append, pr2_length u v n]; simp; omega
theorem pr2_at {u v : Nat → Value} : ∀ {n k : Nat}, k < n → (pr2 u v n)[k * 2]? = some (u k) ∧ (pr2 u v n)[k * 2 + 1]? = some (v k)
  | 0, k, h => by omega
  | n + 1, k, h => by
    have hl := pr2_length u v n
    by_cases hk : k < n
    · have h1 := pr2_at (u := u) (v := v) hk
      rw [pr2, List.getElem?_append_left (by omega), List.getElem?_append_left (by omega)]
      exact h1
    · obtain rfl : k = n := by omega
      rw [pr2, List.getElem?_append_right (by omega), List.getElem?_append_right (by omega), hl]
      simp [show k * 2 + 1 - k * 2 = 1 by omega]
theorem pr2_congr {u v u' v' : Nat → Value} : ∀ {n : Nat}, (∀ i, i < n → u i = u' i ∧ v i = v' i) → pr2 u v n = pr2 u' v' n
  | 0, _ => rfl
  | n + 1, h => by
    rw [pr2, pr2, pr2_congr (fun i hi => h i (by omega)), (h n (by omega)).1, (h n (by omega)).2]
/-- The cells of a row of fractions. -/
def qsL (f : Nat → Rat) (n : Nat) : List Value := pr2 (fun i => .int .i64 (f i).num) (fun i => .int .i64 ((f i).den : Int)) n
def smL (N : Nat → Int) (D : Nat → Nat) (n : Nat) : List Value := pr2 (fun i => .int .i8 (N i)) (fun i => .int .u8 (D i : Int)) n
/-- Smalls as the types hold them. -/
def SmB (N : Nat → Int) (D : Nat → Nat) (n : Nat) : Prop := ∀ i, i < n → -128 ≤ N i ∧ N i ≤ 127 ∧ D i ≤ 255
theorem info_q : (Try.prog.info? 58).map (fun i => (i.zero, i.size, i.bytes)) = some (some (.agg #[.int .i64 0, .int .i64 0]), 2, 16) := by kernel_rfl
theorem info_small : (Try.prog.info? 52).map (fun i => (i.zero, i.size, i.bytes)) = some (some (.agg #[.int .i8 0, .int .u8 0]), 2, 2) := by kernel_rfl
theorem info_qrows : (Try.prog.info? 32).map (fun i => (i.zero, i.size, i.bytes)) = some (some (.slice none 0 0), 1, 24) := by kernel_rfl
section
variable {ops : Array Oper} {o : Oper} {a : Act} {w : World} {K : Act → World → Prop} {Q : Exit → Act → World → Prop} {E : Prop} {t : Tmp}
theorem wp_app_q (s x : Operand) (ho : o.op = .call { callee := .builtin .append, args := #[s, x], argTypes := #[32, 32] })
    (base : Nat) (v : Value) (n : Nat) (xs : List Value) (hs : a.eval s = v) (hown : OwnC w base 58 2 v n xs) (g : Nat) (y z : Int) (hx : a.eval x = .slice (some ⟨g, 0, none⟩) 1 1) (hb : Blk w g 58 #[.int .i64 y, .int .i64 z])
    (hk : n ≤ 1000000) (hbase : base ≤ w.heap.size)
    (h : ∀ v' w', OwnC w' base 58 2 v' (n + 1) (xs ++ [.int .i64 y, .int .i64 z]) → w.grownBy w' v.ownBlock → (v'.ownBlock = v.ownBlock ∨ v'.ownBlock = some w.heap.size) → KeepsN w w' → K (a.put o.dst v') w') : o.wp Try.prog a w K Q := by
  obtain ⟨i, hi, hz, hs1, hby⟩ := info_parts info_q
  have hr : Reads w w.heap.size 2 (some ⟨g, 0, none⟩) 1 [.int .i64 y, .int .i64 z] := ⟨rfl, fun _ => ⟨_, rfl, hb.lt, fun j u hu => by
    rw [addr_zero, hb.cell]; simpa using hu⟩⟩
  refine wp_append_clean s x 32 ho base 58 i _ 2 16 Try.underlying32 hi hz hs1 hby rfl (by omega) (by intro u hu z hz'; simp [Value.cells] at hu; subst hu; cases hz') v n xs hs hown w.heap.size _ 1 1 _ hx hr (by simp; exact ⟨rfl, rfl⟩) (by intro u hu z hz'; simp at hu; rcases hu with rfl | rfl <;> cases hz') (by simp only [maxLen]; omega) (by omega) hbase h
theorem wp_app_qrows (s x : Operand) (ho : o.op = .call { callee := .builtin .append, args := #[s, x], argTypes := #[33, 33] })
    (base : Nat) (v : Value) (n : Nat) (xs : List Value) (hs : a.eval s = v) (hown : OwnC w base 32 1 v n xs) (g : Nat) (A : Option Addr) (k c : Nat) (hx : a.eval x = .slice (some ⟨g, 0, none⟩) 1 1) (hb : Blk w g 32 #[.slice A k c])
    (hk : n ≤ 1000000) (hbase : base ≤ w.heap.size)
    (h : ∀ v' w', OwnC w' base 32 1 v' (n + 1) (xs ++ [.slice A k c]) → w.grownBy w' v.ownBlock → (v'.ownBlock = v.ownBlock ∨ v'.ownBlock = some w.heap.size) → KeepsN w w' → K (a.put o.dst v') w') : o.wp Try.prog a w K Q := by
  obtain ⟨i, hi, hz, hs1, hby⟩ := info_parts info_qrows
  have hr : Reads w w.heap.size 1 (some ⟨g, 0, none⟩) 1 [.slice A k c] := ⟨rfl, fun _ => ⟨_, rfl, hb.lt, fun j u hu => by
    rw [addr_zero, hb.cell]; simpa using hu⟩⟩
  refine wp_append_clean s x 33 ho base 32 i _ 1 24 Try.underlying33 hi hz hs1 hby rfl (by omega) (by intro u hu z hz'; simp [Value.cells] at hu; subst hu; cases hz') v n xs hs hown w.heap.size _ 1 1 _ hx hr (by simp; rfl) (by intro u hu z hz'; simp at hu; subst hu; cases hz') (by simp only [maxLen]; omega) (by omega) hbase h
theorem bs_q {y z : Int} (ho : o.op = .buildSlice 32 1 #[(0, .tmp t)]) (h : tv a t = .agg #[.int .i64 y, .int .i64 z]) (hK : K (a.put o.dst (.slice (some ⟨w.heap.size, 0, none⟩) 1 1)) (w.alloc (.cells #[.int .i64 y, .int .i64 z] 58))) : o.wp Try.prog a w K Q := by
  unfold Oper.wp execOp
  rw [ho]
  have hh : a.tmps[t]?.getD undef = .agg #[.int .i64 y, .int .i64 z] := by simpa [tv] using h
  go_simp
  exact hK
theorem bs_rat {s : Bool} {A B : Option Addr} {k c m d : Nat} (ho : o.op = .buildSlice 28 1 #[(0, .tmp t)]) (h : tv a t = .agg #[.bool s, .slice A k c, .slice B m d]) (hK : K (a.put o.dst (.slice (some ⟨w.heap.size, 0, none⟩) 1 1)) (w.alloc (.cells #[.bool s, .slice A k c, .slice B m d] 41))) : o.wp Try.prog a w K Q := by
  unfold Oper.wp execOp
  rw [ho]
  have hh : a.tmps[t]?.getD undef = .agg #[.bool s, .slice A k c, .slice B m d] := by simpa [tv] using h
  go_simp
  exact hK
/-- Elements of rows of pairs. -/
theorem idx_qs {ad : Addr} {n c k : Nat} {y : Operand} (hk : k < n) (ho : o.op = .indexAddr 32 (.tmp t) y) (h : tv a t = .slice (some ad) n c) (h2 : a.eval y = .int .i64 (k : Int)) : gives Try.prog o a.eval w (fun v w' => v = .pointer (some (ad.add (k * 2))) ∧ Below w.heap.size w w') := by
  refine gives_val (.pointer (some (ad.add (k * 2)))) ?_ ⟨rfl, Below.refl _ _⟩
  have i1 : (0 : Int) ≤ (k : Int) := by omega
  have i2 : (k : Int) < (n : Int) := by omega
  unfold execOp; rw [ho]; simp only [eval_tmp, h, h2]; go_simp
theorem idx_small {ad : Addr} {n c k : Nat} {y : Operand} (hk : k < n) (ho : o.op = .indexAddr 22 (.tmp t) y) (h : tv a t = .slice (some ad) n c) (h2 : a.eval y = .int .i64 (k : Int)) : gives Try.prog o a.eval w (fun v w' => v = .pointer (some (ad.add (k * 2))) ∧ Below w.heap.size w w') := by
  refine gives_val (.pointer (some (ad.add (k * 2)))) ?_ ⟨rfl, Below.refl _ _⟩
  have i1 : (0 : Int) ≤ (k : Int) := by omega
  have i2 : (k : Int) < (n : Int) := by omega
  unfold execOp; rw [ho]; simp only [eval_tmp, h, h2]; go_simp
theorem fld_q {p : Addr} {k : Nat} (ho : o.op = .fieldAddr 58 (.tmp t) k) (hk : k < 2) (h : tv a t = .pointer (some p)) : gives Try.prog o a.eval w (fun v w' => v = .pointer (some (p.add k)) ∧ Below w.heap.size w w') := by
  refine gives_val (.pointer (some (p.add k))) ?_ ⟨rfl, Below.refl _ _⟩
  have : k = 0 ∨ k = 1 := by omega
  rcases this with rfl | rfl <;> (unfold execOp; rw [ho]; simp only [eval_tmp, h]; go_simp)
end
theorem run_load_small (w : World) (p : Addr) (x y : Value) (h0 : w.cell? p = some x) (h1 : w.cell? (p.add 1) = some y) : (loadVar 52 p).run Try.prog w = .ok (.agg #[x, y]) w := by
  obtain ⟨i, hi, hz, hs1, hby⟩ := info_parts info_small
  have hl := run_loadCells_list (P := Try.prog) w p [x, y] (fun j v hv => by
    match j with
    | 0 => simp at hv; subst hv; simpa [Addr.add] using h0
    | 1 => simp at hv; subst hv; exact h1
    | j + 2 => simp at hv)
  have hagg : (isAgg 52).run Try.prog w = .ok true w := by
    unfold isAgg
    rw [Sem.run_bind, run_underlying Try.underlying52 w]
    rfl
  simp only [List.length_cons, List.length_nil, Nat.zero_add, Nat.reduceAdd] at hl
  simp [loadVar, Sem.run_bind, hagg, sizeOf, typeInfo, hi, hs1, hl]
theorem run_load_q (w : World) (p : Addr) (x y : Value) (h0 : w.cell? p = some x) (h1 : w.cell? (p.add 1) = some y) : (loadVar 58 p).run Try.prog w = .ok (.agg #[x, y]) w := by
  obtain ⟨i, hi, hz, hs1, hby⟩ := info_parts info_q
  have hl := run_loadCells_list (P := Try.prog) w p [x, y] (fun j v hv => by
    match j with
    | 0 => simp at hv; subst hv; simpa [Addr.add] using h0
    | 1 => simp at hv; subst hv; exact h1
    | j + 2 => simp at hv)
  have hagg : (isAgg 58).run Try.prog w = .ok true w := by
    unfold isAgg
    rw [Sem.run_bind, run_underlying Try.underlying58 w]
    rfl
  simp only [List.length_cons, List.length_nil, Nat.zero_add, Nat.reduceAdd] at hl
  simp [loadVar, Sem.run_bind, hagg, sizeOf, typeInfo, hi, hs1, hl]
theorem Reads.pr {w : World} {B n k : Nat} {A : Option Addr} {u v : Nat → Value} (h : Reads w B 2 A n (pr2 u v n)) (hk : k < n) : ∃ ad, A = some ad ∧ ad.block < B ∧ w.cell? (ad.add (k * 2)) = some (u k) ∧ w.cell? ((ad.add (k * 2)).add 1) = some (v k) := by
  obtain ⟨ad, e, hb, hc⟩ := h.2 (by omega)
  obtain ⟨h1, h2⟩ := pr2_at (u := u) (v := v) hk
  exact ⟨ad, e, hb, hc _ _ h1, by rw [add_of_add]; exact hc _ _ h2⟩
section
variable {o : Oper} {a : Act} {w : World} {t : Tmp}
theorem load_small {B n k : Nat} {ad : Addr} {N : Nat → Int} {D : Nat → Nat} (ho : o.op = .load 52 (.tmp t)) (hx : tv a t = .pointer (some (ad.add (k * 2)))) (h : Reads w B 2 (some ad) n (smL N D n)) (hk : k < n) : gives Try.prog o a.eval w (fun v w' => v = .agg #[.int .i8 (N k), .int .u8 (D k : Int)] ∧ Below w.heap.size w w') := by
  obtain ⟨ad', e, hb, h0, h1⟩ := Reads.pr h hk
  injection e with e
  subst e
  refine gives_val (.agg #[.int .i8 (N k), .int .u8 (D k : Int)]) ?_ ⟨rfl, Below.refl _ _⟩
  unfold execOp
  rw [ho]
  simp only [eval_tmp, hx, Instr.loadAt, Instr.sureAddr, Sem.run_bind, Sem.run_pure, Result.andThen_ok, run_load_small w _ _ _ h0 h1]
theorem load_qs {B n k : Nat} {ad : Addr} {f : Nat → Rat} (ho : o.op = .load 58 (.tmp t)) (hx : tv a t = .pointer (some (ad.add (k * 2)))) (h : Reads w B 2 (some ad) n (qsL f n)) (hk : k < n) : gives Try.prog o a.eval w (fun v w' => v = QL (f k) ∧ Below w.heap.size w w') := by
  obtain ⟨ad', e, hb, h0, h1⟩ := Reads.pr h hk
  injection e with e
  subst e
  refine gives_val (QL (f k)) ?_ ⟨rfl, Below.refl _ _⟩
  unfold execOp
  rw [ho]
  simp only [eval_tmp, hx, Instr.loadAt, Instr.sureAddr, Sem.run_bind, Sem.run_pure, Result.andThen_ok, run_load_q w _ _ _ h0 h1]
  rfl
theorem load_qn {B n k : Nat} {ad : Addr} {f : Nat → Rat} (ho : o.op = .load 2 (.tmp t)) (hx : tv a t = .pointer (some ((ad.add (k * 2)).add 0))) (h : Reads w B 2 (some ad) n (qsL f n)) (hk : k < n) : gives Try.prog o a.eval w (fun v w' => v = .int .i64 (f k).num ∧ Below w.heap.size w w') := by
  obtain ⟨ad', e, hb, h0, h1⟩ := Reads.pr h hk
  injection e with e
  subst e
  exact load_i64 ho hx (by rw [show (ad.add (k * 2)).add 0 = ad.add (k * 2) from by simp [Addr.add]]; exact h0)
theorem load_qd {B n k : Nat} {ad : Addr} {f : Nat → Rat} (ho : o.op = .load 2 (.tmp t)) (hx : tv a t = .pointer (some ((ad.add (k * 2)).add 1))) (h : Reads w B 2 (some ad) n (qsL f n)) (hk : k < n) : gives Try.prog o a.eval w (fun v w' => v = .int .i64 ((f k).den : Int) ∧ Below w.heap.size w w') := by
  obtain ⟨ad', e, hb, h0, h1⟩ := Reads.pr h hk
  injection e with e
  subst e
  exact load_i64 ho hx h1
end
theorem RB.bn {b g : Nat} {x : Rat} {w : World} (h : RB w g 1 (fun _ v => Rv b x v w)) : Bn b x g w := by
  obtain ⟨cs, h1, h2, h3⟩ := h
  obtain ⟨s, A, k, c, B, m, d, q0, q1, q2, q3⟩ := h3 0 (by omega)
  have e : cs = #[.bool s, .slice A k c, .slice B m d] := by
    have hl : cs.toList.length = 3 := by rw [h2]
    apply Array.ext'
    match hcs : cs.toList, hl with
    | [a0, a1, a2], _ =>
      rw [hcs] at q0 q1 q2
      simp at q0 q1 q2
      rw [q0, q1, q2]
  subst e
  obtain ⟨s', A', n', c', B', m', d', e, h⟩ := q3
  injection e with e; injection e with e; injection e with e0 e; injection e with e1 e; injection e with e2 _
  injection e0 with e0; injection e1 with e1 e1' e1''; injection e2 with e2 e2' e2''
  subst e0 e1 e1' e1'' e2 e2' e2''
  exact ⟨_, _, _, _, _, _, _, h1, h⟩
theorem of_q (x : Rat) (h1 : x.num.natAbs ≤ 1073741824) (h2 : x.den ≤ 1073741824) (w : World) : Calls Try.prog 52 #[.int .i64 x.num, .int .i64 (x.den : Int)] w (RV w (Dv 2 x)) := by
  refine (qof_any x.num (x.den : Int) (by omega) (by omega) (by omega) (by omega)).mono ?_
  rintro e w' ⟨-, h⟩
  obtain ⟨s, A, k, c, B, m, k', rfl, h3, h4⟩ := h (by have := x.den_nz; omega)
  rw [self_frac x] at h3
  exact ⟨_, rfl, ⟨_, rfl, s, A, k, c, B, m, k', rfl, h3⟩, h4⟩
/-- A row of Rats of a call's own. -/
def OR (w : World) (base : Nat) (v : Value) (n : Nat) (P : Nat → Value → Prop) : Prop := ∃ xs, OwnC w base 41 3 v n xs ∧ RL P n xs
theorem RL.nil (P : Nat → Value → Prop) : RL P 0 [] := ⟨rfl, fun j hj => absurd hj (by omega)⟩
theorem OR.nil (w : World) (base : Nat) (P : Nat → Value → Prop) : OR w base (.slice none 0 0) 0 P := ⟨[], OwnC.nil _ _ _ _, RL.nil _⟩
section
variable {w w' : World} {base n : Nat} {v : Value} {P Q : Nat → Value → Prop}
theorem OR.rs {A : Option Addr} {c : Nat} (h : OR w base (.slice A n c) n P) : Rs w w.heap.size A n P := by
  obtain ⟨xs, h1, h2⟩ := h
  exact ⟨xs, Reads.of_own h1.own, h2⟩
theorem OR.form (h : OR w base v n P) : ∃ A c, v = .slice A n c := by
  obtain ⟨xs, h1, h2⟩ := h
  exact own_form h1.own
theorem OR.mono (h : OR w base v n P) (hq : ∀ j u, j < n → P j u → Q j u) : OR w base v n Q := by
  obtain ⟨xs, h1, h2⟩ := h
  exact ⟨xs, h1, h2.mono hq⟩
theorem OR.below (h : OR w base v n P) (hb : Below w.heap.size w w') (hq : ∀ j u, j < n → P j u → Q j u) : OR w' base v n Q := by
  obtain ⟨xs, h1, h2⟩ := h
  exact ⟨xs, h1.below hb, h2.mono hq⟩
theorem OR.newN {b : Nat} {f : Nat → Rat} (h : OR w base v n (PN w b f)) (hb : Below w.heap.size w w') : OR w' base v n (PN w' b f) := h.below hb fun _ _ _ hv => PN.keep hv (KeepsN.below hb)
theorem OR.beside {e : TypeId} {base' size k : Nat} {u : Value} {xs : List Value} (h : OR w base v n P) (ho : w.ownsRow base' e size u k xs) (hne : e ≠ 41) (hg : w.grownBy w' u.ownBlock) (hq : ∀ j u, j < n → P j u → Q j u) : OR w' base v n Q := by
  obtain ⟨ys, h1, h2⟩ := h
  exact ⟨ys, h1.beside ho (Ne.symm hne) hg, h2.mono hq⟩
theorem OR.blk {t : TypeId} {g : Nat} {cs : Array Value} (h : OR w base v n P) (hb : Blk w g t cs) (hne : t ≠ 41) (hg : w.grownBy w' (some g)) (hq : ∀ j u, j < n → P j u → Q j u) : OR w' base v n Q := by
  obtain ⟨ys, h1, h2⟩ := h
  exact ⟨ys, h1.blk hb (Ne.symm hne) hg, h2.mono hq⟩
end
/-- A Rat is put behind an own row of Rats. -/
theorem wp_push_rat {o : Oper} {a : Act} {w : World} {K : Act → World → Prop} {Q : Exit → Act → World → Prop} (s x : Operand) (ho : o.op = .call { callee := .builtin .append, args := #[s, x], argTypes := #[28, 28] })
    (base : Nat) (v : Value) (n : Nat) (P : Nat → Value → Prop) (hs : a.eval s = v) (hown : OR w base v n P) (g : Nat) (b : Bool) (A B : Option Addr) (k c m d : Nat) (hx : a.eval x = .slice (some ⟨g, 0, none⟩) 1 1) (hb : Blk w g 41 #[.bool b, .slice A k c, .slice B m d])
    (hk : n ≤ 1000000) (hbase : base ≤ w.heap.size)
    (h : ∀ v' w', (∀ R : Nat → Value → Prop, (∀ j u, j < n → P j u → R j u) → R n (.agg #[.bool b, .slice A k c, .slice B m d]) → OR w' base v' (n + 1) R) → w.grownBy w' v.ownBlock → (v'.ownBlock = v.ownBlock ∨ v'.ownBlock = some w.heap.size) → KeepsN w w' → K (a.put o.dst v') w') : o.wp Try.prog a w K Q := by
  obtain ⟨xs, h1, h2⟩ := hown
  refine wp_app_rat s x ho base v n xs hs h1 g b A B k c m d hx hb hk hbase ?_
  intro v' w' g1 g2 g3 g4
  exact h v' w' (fun R hR hn => ⟨_, g1, (h2.mono hR).app hn⟩) g2 g3 g4
/-- What qs answers. -/
def QsRet (n : Nat) (f : Nat → Rat) (w : World) (e : Ending) (w' : World) : Prop := ∃ A c, e = .returned (.slice A n c) ∧ OwnC w' w.heap.size 58 2 (.slice A n c) n (qsL f n) ∧ Below w.heap.size w w'
/-- .. and Rats. -/
def RatsRet (n : Nat) (f : Nat → Rat) (w : World) (e : Ending) (w' : World) : Prop := ∃ A c, e = .returned (.slice A n c) ∧ OR w' w.heap.size (.slice A n c) n (PN w' 2 f) ∧ Below w.heap.size w w'
set_option maxRecDepth 100000 in
set_option maxHeartbeats 8000000 in
theorem qs_any (n c : Nat) (A : Option Addr) (N : Nat → Int) (D : Nat → Nat) (w : World) (hA : Reads w w.heap.size 2 A n (smL N D n)) (hS : SmB N D n) (hn : n ≤ 1000000) :
    Calls Try.prog 19 #[.slice A n c] w (QsRet n (fun i => smq (N i) (D i)) w) := by
  have HA := Lib.hid hA; have HS := Lib.hid hS; clear hA hS
  go_enter Try.func19, Try.ntmps19
  go_wp2_with fail
  go_loopg [4, 3] n (fun q iv ov wr => ∃ (i c' : Nat) (A' : Option Addr), iv = .int .i64 i ∧ ov = .slice A' i c' ∧ i + q = n ∧ Hid (OwnC wr w.heap.size 58 2 (.slice A' i c') i (qsL (fun i => smq (N i) (D i)) i) ∧ Below w.heap.size w wr))
  case atStart => exact ⟨0, 0, none, rfl, rfl, by omega, Lib.hid ⟨OwnC.nil _ _ _ _, Below.refl _ _⟩⟩
  case round =>
    obtain ⟨i, c', A', rfl, rfl, hin, HI⟩ := hrel
    have HO := Lib.hid HI.out.1
    have HB := Lib.hid HI.out.2
    clear HI
    by_cases hi : i < n
    · have i1 : ((i : Int) < (n : Int)) := by omega
      obtain ⟨ad, rfl, -⟩ := Reads.pr HA.out hi
      go_upto_region 5 with (fail)
-- %Q5
      refine wp_region_joins (kss := [[], [], [], [(1, 12), (2, 13)], [(3, 14)], [(4, 15)]]) [(3, .slice A' i c'), (0, .slice ((some ad)) n c), (4, .int .i64 ((i : Int)))] [fun zz _ => zz = .slice A' i c', fun zz _ => zz = .slice ((some ad)) n c, fun zz _ => zz = .int .i64 ((i : Int)), fun zz _ => zz = .pointer (some (Addr.add ad (i * 2))), fun zz _ => zz = .agg #[.int .i8 ((N i)), .int .u8 ((D i : Int))], fun zz _ => zz = QL (smq (N i) (D i))] 6 (by kernel_rfl) ⟨rfl, rfl, rfl, trivial⟩ [false, false, false, false, false, false] ?_ ?_ ?_
      · exact ⟨fun _ _ _ h _ => h, fun _ _ _ h _ => h, fun _ _ _ h _ => h, fun _ _ _ h _ => h, fun _ _ _ h _ => h, fun _ _ _ h _ => h, trivial⟩
      · refine ⟨?_, ?_, ?_, ?_, ?_, ?_, trivial⟩
        · exact fun aa ww hb he hd => ob_plain rfl (gives_move _ rfl ⟨he.1, Below.refl _ _⟩)
        · exact fun aa ww hb he hd => ob_plain rfl (gives_move _ rfl ⟨he.2.1, Below.refl _ _⟩)
        · exact fun aa ww hb he hd => ob_plain rfl (gives_move _ rfl ⟨he.2.2.1, Below.refl _ _⟩)
        · exact fun aa ww hb he hd => ob_plain rfl (idx_small (by omega) rfl hd.1 hd.2.1)
        · exact fun aa ww hb he hd => ob_plain rfl (load_small rfl hd.1 ((HA.out.below (HB.out)).below (hb.mono HB.out.size)) (by omega))
        · exact fun aa ww hb he hd => ob_plain rfl (gives_call1 _ _ _ rfl (by kernel_rfl) (by rw [show aa.eval (.tmp 15) = .agg #[.int .i8 ((N i)), .int .u8 ((D i : Int))] from hd.1]; exact rv_one (q_any _ _ (HS.out i (by omega)).1 (HS.out i (by omega)).2.1 (HS.out i (by omega)).2.2 _)))
      intro vs w2 hb hR
      have e11 : vs 0 = .slice A' i c' := hR 0 (by decide)
      have e16 : vs 5 = QL (smq (N i) (D i)) := hR 5 (by decide)
      clear hR
      simp only [putsL, Nat.zero_add, Nat.reduceAdd, List.take_succ_cons, List.take_zero, Act.put, List.setIfInBounds_toArray, List.set_cons_zero, List.set_cons_succ]
      rw [e11, e16]
      clear e11 e16
-- %end Q5
      show wpOps _ _ _ [6, 7, 8] _ _
      refine wpOps_next rfl rfl (bs_q (y := (smq (N i) (D i)).num) (z := ((smq (N i) (D i)).den : Int)) rfl rfl ?_)
      simp only [Act.put, List.setIfInBounds_toArray, List.set_cons_zero, List.set_cons_succ]
      refine wpOps_next rfl rfl (wp_app_q _ _ rfl w.heap.size (.slice A' i c') i _ rfl ((HO.out.below hb).alloc _) w2.heap.size _ _ rfl (Blk.new _ _ _) (by omega) (by have := HB.out.size; have := hb.size; simp; omega) ?_)
      intro v' w3 ho hg hor kp
      have HBa := Lib.hid (show Below w.heap.size w w3 from Below.appended (bthen (bthen HB.out hb HB.out.size) (al w2 _) (by have := HB.out.size; have := hb.size; omega)) ((HO.out.below hb).alloc _).own hg (by have := HB.out.size; have := hb.size; simp; omega) (Nat.le_refl _))
      obtain ⟨A9, c9, rfl⟩ := own_form ho.own
      have HOa := Lib.hid (show OwnC w3 w.heap.size 58 2 (.slice A9 (i + 1) c9) (i + 1) (qsL (fun i => smq (N i) (D i)) (i + 1)) from ho)
      clear hb ho hg hor kp HO HB
      simp only [Act.put, List.setIfInBounds_toArray, List.set_cons_zero, List.set_cons_succ]
      refine wpOps_next rfl rfl (wp_assign 3 (.tmp 18) rfl rfl (.slice A9 (i + 1) c9) rfl ?_)
      simp only [Act.put, List.setIfInBounds_toArray, List.set_cons_zero, List.set_cons_succ]
      unfold wpOps
      go_wp2_with fail
      go_roundg (gk - 1)
      case measure => omega
      case rel => exact ⟨i + 1, c9, A9, by go_num, rfl, by omega, Lib.hid ⟨HOa.out, HBa.out⟩⟩
    · obtain rfl : n = i := by omega
      go_wp2_with fail
      go_ret
      exact ⟨A', c', rfl, HO.out, HB.out⟩
set_option maxRecDepth 100000 in
set_option maxHeartbeats 8000000 in
theorem Rats_any (n c : Nat) (A : Option Addr) (f : Nat → Rat) (w : World) (hA : Reads w w.heap.size 2 A n (qsL f n)) (hS : ∀ i, i < n → Sm (f i)) (hn : n ≤ 1000000) :
    Calls Try.prog 18 #[.slice A n c] w (RatsRet n f w) := by
  have HA := Lib.hid hA; have HS := Lib.hid hS; clear hA hS
  go_enter Try.func18, Try.ntmps18
  go_wp2_with fail
  go_loopg [4, 3] n (fun q iv ov wr => ∃ (i c' : Nat) (A' : Option Addr), iv = .int .i64 i ∧ ov = .slice A' i c' ∧ i + q = n ∧ Hid (OR wr w.heap.size (.slice A' i c') i (PN wr 2 f) ∧ Below w.heap.size w wr))
  case atStart => exact ⟨0, 0, none, rfl, rfl, by omega, Lib.hid ⟨OR.nil _ _ _, Below.refl _ _⟩⟩
  case round =>
    obtain ⟨i, c', A', rfl, rfl, hin, HI⟩ := hrel
    have HO := Lib.hid HI.out.1
    have HB := Lib.hid HI.out.2
    clear HI
    by_cases hi : i < n
    · have i1 : ((i : Int) < (n : Int)) := by omega
      obtain ⟨ad, rfl, -⟩ := Reads.pr HA.out hi
      have hs1 : (f i).num.natAbs ≤ 1073741824 := (HS.out i hi).1
      have hs2 : (f i).den ≤ 1073741824 := (HS.out i hi).2
      go_upto_region 5 with (fail)
-- %T5
      refine wp_region_join (kss := [[], [], [(0, 14), (1, 15)], [(2, 16)], [(3, 17)], [], [], [(5, 19), (6, 20)], [(7, 21)], [(8, 22)], [(4, 18), (9, 23)], [(10, 24)], [(11, 13)], [(11, 13)], []]) [(0, .slice ((some ad)) n c), (4, .int .i64 ((i : Int)))] [fun zz _ => zz = .slice ((some ad)) n c, fun zz _ => zz = .int .i64 ((i : Int)), fun zz _ => zz = .pointer (some (Addr.add ad (i * 2))), fun zz _ => zz = .pointer (some (Addr.add (Addr.add ad (i * 2)) 0)), fun zz _ => zz = .int .i64 ((f i).num), fun zz _ => zz = .slice ((some ad)) n c, fun zz _ => zz = .int .i64 ((i : Int)), fun zz _ => zz = .pointer (some (Addr.add ad (i * 2))), fun zz _ => zz = .pointer (some (Addr.add (Addr.add ad (i * 2)) 1)), fun zz _ => zz = .int .i64 ((((f i).den : Nat) : Int)), Dv (2) (f i), Dv (2) (f i), Rv (2) (f i), fun zz _ => zz = .int .i64 0, Zb wr.heap.size] 15 [13] (by kernel_rfl) (by kernel_rfl) ⟨rfl, rfl, trivial⟩ [false, false, false, false, false, false, false, false, false, false, false, false, false, false, true] ?_ ?_ ?_ ?_
      · intro i hi
        simp only [List.mem_cons, List.not_mem_nil, or_false] at hi
        subst hi
        exact ⟨rfl, fun o ks ho hk => by cases ho; cases hk; exact fun a w _ _ hd => late_e rfl rfl hd.1⟩
      · exact ⟨fun _ _ _ h _ => h, fun _ _ _ h _ => h, fun _ _ _ h _ => h, fun _ _ _ h _ => h, fun _ _ _ h _ => h, fun _ _ _ h _ => h, fun _ _ _ h _ => h, fun _ _ _ h _ => h, fun _ _ _ h _ => h, fun _ _ _ h _ => h, fun _ _ _ h hb => h.new hb, fun _ _ _ h hb => h.new hb, fun _ _ _ h hb => h.new hb, fun _ _ _ h _ => h, fun _ _ _ h hb => Zb.new h hb, trivial⟩
      · refine ⟨?_, ?_, ?_, ?_, ?_, ?_, ?_, ?_, ?_, ?_, ?_, ?_, ?_, ?_, ?_, trivial⟩
        · exact fun aa ww hb he hd => ob_plain rfl (gives_move _ rfl ⟨he.1, Below.refl _ _⟩)
        · exact fun aa ww hb he hd => ob_plain rfl (gives_move _ rfl ⟨he.2.1, Below.refl _ _⟩)
        · exact fun aa ww hb he hd => ob_plain rfl (idx_qs (by omega) rfl hd.1 hd.2.1)
        · exact fun aa ww hb he hd => ob_plain rfl (fld_q rfl (by decide) hd.1)
        · exact fun aa ww hb he hd => ob_plain rfl (load_qn rfl hd.1 ((HA.out.below (HB.out)).below (hb.mono HB.out.size)) (by omega))
        · exact fun aa ww hb he hd => ob_plain rfl (gives_move _ rfl ⟨he.1, Below.refl _ _⟩)
        · exact fun aa ww hb he hd => ob_plain rfl (gives_move _ rfl ⟨he.2.1, Below.refl _ _⟩)
        · exact fun aa ww hb he hd => ob_plain rfl (idx_qs (by omega) rfl hd.1 hd.2.1)
        · exact fun aa ww hb he hd => ob_plain rfl (fld_q rfl (by decide) hd.1)
        · exact fun aa ww hb he hd => ob_plain rfl (load_qd rfl hd.1 ((HA.out.below (HB.out)).below (hb.mono HB.out.size)) (by omega))
        · exact fun aa ww hb he hd => ob_plain rfl (gives_call2 _ _ _ _ rfl (by kernel_rfl) (by rw [show aa.eval (.tmp 18) = .int .i64 ((f i).num) from hd.1, show aa.eval (.tmp 23) = .int .i64 ((((f i).den : Nat) : Int)) from hd.2.1]; exact of_q (f i) (by omega) (by omega) _))
        · exact fun aa ww hb he hd => ob_plain rfl (gives_move _ rfl ⟨hd.1, Below.refl _ _⟩)
        · exact fun aa ww hb he hd => ob_plain rfl (ext_q rfl hd.1)
        · exact fun aa ww hb he hd => ob_plain rfl (ext_e rfl hd.1)
        · exact fun aa ww hb he hd => ⟨by simp [Region.wanted], alloc_rat rfl hb⟩
      intro vs w2 hb hR _
      have r25 : Rv (2) (f i) (vs 12) w2 := hR 12 (by decide)
      have r5 : Zb wr.heap.size (vs 14) w2 := hR 14 (by decide)
      have e26 : vs 13 = .int .i64 0 := hR 13 (by decide)
      clear hR
      simp only [putsL, Nat.zero_add, Nat.reduceAdd, List.take_succ_cons, List.take_zero, Act.put, List.setIfInBounds_toArray, List.set_cons_zero, List.set_cons_succ]
      rw [e26]
      clear e26
-- %end T5
      obtain ⟨g5, k5, z5⟩ := r5
      rw [k5]
      clear k5
      show wpAny _ _ _ _ 2 _ _ _
      refine wpAny_next (i := 15) (by kernel_rfl) rfl rfl (store_row (v := vs 12) (g := g5) (j := 0) (n := 1) (b := 2) (x := f i) rfl rfl rfl rfl z5.rb (by omega) r25.rw ?_)
      intro w3 kp hg hsz hR5
      have hlow : w.heap.size ≤ g5 := by have := z5.1; have := HB.out.size; omega
      have HX := Lib.hid (RB.bn (hR5 (fun _ v => Rv 2 (f i) v w3) (fun l u hl hne _ => absurd hl (by omega)) (r25.keepN kp)))
      have h5' : (Value.slice A' i c').ownBlock ≠ some g5 := by
        intro he
        obtain ⟨xs, h1, -⟩ := HO.out
        have := (h1.own.lt g5 he).2
        have := z5.1
        omega
      have HO3 := Lib.hid (show OR w3 w.heap.size (.slice A' i c') i (PN w3 2 f) from by
        obtain ⟨xs, h1, h2⟩ := HO.out.newN hb
        exact ⟨xs, h1.kept hg (.inr h5'), h2.mono fun j u _ hv => PN.keep hv kp⟩)
      have HB3 := Lib.hid (show Below w.heap.size w w3 from (bthen HB.out hb HB.out.size).grown hg (bthen HB.out hb HB.out.size).size (fun x hx => by cases hx; exact hlow))
      clear hb kp hg hsz hR5 r25 z5 HB HO h5' hlow
      refine wpAny_next (i := 16) (by kernel_rfl) rfl rfl (wp_assign 6 (.tmp 26) rfl rfl (.int .i64 0) rfl ?_)
      simp only [Act.put, List.setIfInBounds_toArray, List.set_cons_zero, List.set_cons_succ]
      refine wpAny_end (by kernel_rfl) (calm_normal ?_) _
      go_upto_region 6 with (fail)
-- %T6
      refine wp_region_joins (kss := [[], []]) [(3, .slice A' i c'), (5, .pointer (some ⟨g5, 0, none⟩))] [fun zz _ => zz = .slice A' i c', Rv (2) (f i)] 2 (by kernel_rfl) ⟨rfl, rfl, trivial⟩ [false, false] ?_ ?_ ?_
      · exact ⟨fun _ _ _ h _ => h, fun _ _ _ h hb => h.new hb, trivial⟩
      · refine ⟨?_, ?_, trivial⟩
        · exact fun aa ww hb he hd => ob_plain rfl (gives_move _ rfl ⟨he.1, Below.refl _ _⟩)
        · exact fun aa ww hb he hd => ob_plain rfl (load_bn rfl he.2.1 (Bn.new HX.out hb))
      intro vs w4 hb hR
      have e27 : vs 0 = .slice A' i c' := hR 0 (by decide)
      have r28 : Rv (2) (f i) (vs 1) w4 := hR 1 (by decide)
      clear hR
      simp only [putsL, Nat.zero_add, Nat.reduceAdd, List.take_succ_cons, List.take_zero, Act.put, List.setIfInBounds_toArray, List.set_cons_zero, List.set_cons_succ]
      rw [e27]
      clear e27
-- %end T6
      have r28' : Rv 2 (f i) (vs 1) w4 := r28
      obtain ⟨s, A1, k1, c1, B1, m1, d1, e28, h28⟩ := r28
      rw [e28] at r28' ⊢
      show wpOps _ _ _ [2, 3, 4] _ _
      refine wpOps_next rfl rfl (bs_rat (s := s) (A := A1) (k := k1) (c := c1) (B := B1) (m := m1) (d := d1) rfl rfl ?_)
      simp only [Act.put, List.setIfInBounds_toArray, List.set_cons_zero, List.set_cons_succ]
      refine wpOps_next rfl rfl (wp_push_rat _ _ rfl w.heap.size (.slice A' i c') i _ rfl ((HO3.out.newN hb).newN (al w4 _)) w4.heap.size _ _ _ _ _ _ _ rfl (Blk.new _ _ _) (by omega) (by have := HB3.out.size; have := hb.size; simp; omega) ?_)
      intro v' w5 ho hg hor kp
      have hoo := (HO3.out.newN hb).newN (al w4 (.cells #[.bool s, .slice A1 k1 c1, .slice B1 m1 d1] 41))
      have HBa := Lib.hid (show Below w.heap.size w w5 from by
        obtain ⟨xs, h1, -⟩ := hoo
        exact Below.appended (bthen (bthen HB3.out hb HB3.out.size) (al w4 _) (by have := HB3.out.size; have := hb.size; omega)) h1.own hg (by have := HB3.out.size; have := hb.size; simp; omega) (Nat.le_refl _))
      have hOa := ho (PN w5 2 f) (fun j u _ hv => PN.keep hv kp) ((Rv.new r28' (al w4 _)).keepN kp)
      obtain ⟨A9, c9, rfl⟩ := hOa.form
      have HOa := Lib.hid hOa
      clear hb ho hg hor kp hoo hOa r28' h28 HO3 HB3 HX
      simp only [Act.put, List.setIfInBounds_toArray, List.set_cons_zero, List.set_cons_succ]
      refine wpOps_next rfl rfl (wp_assign 3 (.tmp 30) rfl rfl (.slice A9 (i + 1) c9) rfl ?_)
      simp only [Act.put, List.setIfInBounds_toArray, List.set_cons_zero, List.set_cons_succ]
      unfold wpOps
      go_wp2_with fail
      go_roundg (gk - 1)
      case measure => omega
      case rel => exact ⟨i + 1, c9, A9, by go_num, rfl, by omega, Lib.hid ⟨HOa.out, HBa.out⟩⟩
    · obtain rfl : n = i := by omega
      go_wp2_with fail
      go_ret
      exact ⟨A', c', rfl, HO.out, HB.out⟩
end Go.Proofs.Ytamcibmjpmibdaa
namespace Go.Proofs.Ytamcibmjpmibdaa
open Go.RowKit Go.ChangeShapes Go.WideShapes Go.Deep
set_option linter.unusedVariables false

theorem Reads.of_pr {w : World} {B n : Nat} {ad : Addr} {u v : Nat → Value} (hb : 0 < n → ad.block < B) (h : ∀ k, k < n → w.cell? (ad.add (k * 2)) = some (u k) ∧ w.cell? (ad.add (k * 2 + 1)) = some (v k)) : Reads w B 2 (some ad) n (pr2 u v n) := by
  refine ⟨pr2_length u v n, fun hn => ⟨ad, rfl, hb hn, fun j x hx => ?_⟩⟩
  have hj : j < n * 2 := by
    have := (List.getElem?_eq_some_iff.1 hx).1
    rw [pr2_length] at this; exact this
  obtain ⟨h1, h2⟩ := h (j / 2) (by omega)
  obtain ⟨g1, g2⟩ := pr2_at (u := u) (v := v) (show j / 2 < n by omega)
  have : j = j / 2 * 2 ∨ j = j / 2 * 2 + 1 := by omega
  rcases this with e | e
  · rw [← e] at h1 g1
    rw [g1] at hx
    injection hx with hx
    rw [← hx]; exact h1
  · rw [← e] at h2 g2
    rw [g2] at hx
    injection hx with hx
    rw [← hx]; exact h2
section
variable {H : Type} {enc : TypeId × Value → H} {w : World} {base : Nat} {spare : Nat → Bool} {held : Bool}
theorem open_smalls {fuel : Nat} {v : Value} {x : DataW H × List MemPlace} (h : DataW.trod enc Try.prog w base spare held fuel 22 [v] = some x) :
    ∃ (A : Option Addr) (len cap : Nat) (N : Nat → Int) (D : Nat → Nat), v = .slice A len cap ∧ Reads w w.heap.size 2 A len (smL N D len) ∧ SmB N D len ∧ ((x.1 = .nil ∧ len = 0) ∨ ∃ (E F : Nat → DataW H) (sp : List (DataW H)), x.1 = .slice ((List.range len).map fun i => .agg [E i, F i]) sp) := by
  rcases open_slice_pairs Try.underlying22 Try.underlying52 (by kernel_rfl) rfl rfl (by kernel_rfl) (by kernel_rfl) h with ⟨hcs, hx⟩ | ⟨a, len, cap, m, n, V0, V1, D0, D1, P0, P1, hcs, hb, hl, hm, hmm, hx, hc⟩
  · cases hcs
    exact ⟨none, 0, 0, fun _ => 0, fun _ => 0, rfl, Reads.none_, fun i hi => absurd hi (by omega), .inl ⟨by rw [hx], rfl⟩⟩
  · cases hcs
    have hlm : len ≤ m := by rw [hmm]; split <;> omega
    have each : ∀ i, i < len → ∃ z d : Int, V0 i = .int .i8 z ∧ V1 i = .int .u8 d ∧ (-128 ≤ z ∧ z ≤ 127) ∧ 0 ≤ d ∧ d ≤ 255 := by
      intro i hi
      obtain ⟨h1, h2, h3, h4⟩ := hc i (by omega)
      obtain ⟨z, f0, -, w0⟩ := DataW.trod_int Try.underlying50 h3
      obtain ⟨d, f1, -, w1⟩ := DataW.trod_int Try.underlying5 h4
      simp only [List.cons.injEq, and_true] at f0 f1
      have b0 := bounds_i8 w0
      have b1 := bounds_u8 w1
      exact ⟨z, d, f0, f1, by omega, by omega⟩
    refine ⟨some a, len, cap, fun i => intOf (V0 i), fun i => (intOf (V1 i)).toNat, rfl, ?_, fun i hi => ?_, .inr ⟨_, _, _, by rw [hx]⟩⟩
    · refine Reads.of_pr (fun hn => ?_) (fun k hk => ?_)
      · have := block_lt_of_cell (hc 0 (by omega)).1
        rwa [block_of_add] at this
      · obtain ⟨h1, h2, -, -⟩ := hc k (by omega)
        obtain ⟨z, d, e1, e2, -, b1⟩ := each k hk
        simp only [h1, h2, e1, e2, intOf]
        refine ⟨trivial, ?_⟩
        rw [Int.toNat_of_nonneg b1.1]
    · obtain ⟨z, d, e1, e2, b0, b1⟩ := each i hi
      simp only [e1, e2, intOf]
      omega
end
end Go.Proofs.Ytamcibmjpmibdaa
namespace Go.Proofs.Ytamcibmjpmibdaa
open Go.RowKit
set_option linter.unusedVariables false
set_option linter.unusedSimpArgs false

def VdRet (n m k : Nat) (ln : Nat → Nat) (w : World) (e : Ending) (w' : World) : Prop := ∃ t : Bool, e = .returned (.bool t) ∧ Below w.heap.size w w' ∧ (t = true ↔ m = k ∧ ∀ i, i < m → ln i = n)
set_option maxRecDepth 100000 in
set_option maxHeartbeats 8000000 in
theorem valid_any (n m k cC cA cB : Nat) (AC AA AB : Option Addr) (Ar : Nat → Option Addr) (ln cp : Nat → Nat) (w : World) (hA : Reads w w.heap.size 1 AA m ((List.range m).map fun i => Value.slice (Ar i) (ln i) (cp i))) (hm : m ≤ 1000000) :
    Calls Try.prog 32 #[.agg #[.slice AC n cC, .slice AA m cA, .slice AB k cB]] w (VdRet n m k ln w) := by
  have HA := Lib.hid hA; clear hA
  go_enter Try.func32, Try.ntmps32
  go_upto_region 1 with (fail)
  have T := Lib.hid (Blk.new w 31 #[.slice AC n cC, .slice AA m cA, .slice AB k cB])
  have HB := Lib.hid (al w (.cells #[.slice AC n cC, .slice AA m cA, .slice AB k cB] 31))
  generalize w.alloc (.cells #[.slice AC n cC, .slice AA m cA, .slice AB k cB] 31) = w1 at *
  have c0 : w1.cell? ⟨w.heap.size, 0, none⟩ = some (.slice AC n cC) := by rw [T.out.cell]; rfl
  have c1 : w1.cell? ⟨w.heap.size, 1, none⟩ = some (.slice AA m cA) := by rw [T.out.cell]; rfl
  have c2 : w1.cell? ⟨w.heap.size, 2, none⟩ = some (.slice AB k cB) := by rw [T.out.cell]; rfl
  by_cases hmk : m = k
  · subst hmk
    go_wp2_with fail
    go_loopg [15] m (fun q iv wr => ∃ i : Nat, iv = .int .i64 i ∧ i + q = m ∧ Hid (∀ l, l < i → ln l = n) ∧ wr = w1)
    case atStart => exact ⟨0, rfl, by omega, Lib.hid (fun l hl => absurd hl (by omega)), rfl⟩
    case round =>
      obtain ⟨i, rfl, him, HI, rfl⟩ := hrel
      by_cases hi : i < m
      · obtain ⟨ad, rfl, had, hcs⟩ := HA.out.2 (by omega)
        have hr0 := hcs i _ (by rw [List.getElem?_map, List.getElem?_range hi]; rfl)
        have hr : wr.cell? (ad.add i) = some (.slice (Ar i) (ln i) (cp i)) := (HB.out.cell (p := ad.add i) (by rw [show (ad.add i).block = ad.block from by unfold Addr.add; split <;> rfl]; exact had)).trans hr0
        clear hcs hr0
        have i1 : ((i : Int) < (m : Int)) := by omega
        have i0 : (0 : Int) ≤ (i : Int) := by omega
        by_cases hl : ln i = n
        · have h1 : ((ln i : Int) = (n : Int)) := by omega
          go_wp2_with fail
          go_roundg (gk - 1)
          case measure => omega
          case rel => exact ⟨i + 1, by go_num, by omega, Lib.hid (fun l hll => by
            by_cases hli : l = i
            · rw [hli]; exact hl
            · exact HI.out l (by omega)), rfl⟩
        · have h1 : ¬ ((ln i : Int) = (n : Int)) := by omega
          go_wp2_with fail
          go_ret
          exact ⟨false, rfl, HB.out, by simp; exact ⟨i, hi, hl⟩⟩
      · obtain rfl : m = i := by omega
        go_wp2_with fail
        go_ret
        exact ⟨true, rfl, HB.out, by simp; exact HI.out⟩
  · have h1 : ¬ ((m : Int) = (k : Int)) := by omega
    go_wp2_with fail
    go_ret
    exact ⟨false, rfl, HB.out, by simp; intro h; exact absurd h hmk⟩
end Go.Proofs.Ytamcibmjpmibdaa
