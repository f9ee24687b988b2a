/-
  Operations of law26.HypergraphBasics: graphs as values, boxes made and filled inside a region.
-/
import Derived.Test.YtkiahnffepbgpaaAwk26
import Derived.Test.YtkiahnffepbgpaaComp
import Derived.Test.YtkiahnffepbgpaaNbG
import Derived.Test.YtkiahnffepbgpaaInd
import Derived.Test.YtkiahnffepbgpaaIns
import Derived.IntWalk
import Derived.Test.YtkiahnffepbgpaaRInd
import Derived.Test.YtkiahnffepbgpaaRCmp
import Derived.Test.YtkiahnffepbgpaaRefI
import Derived.Test.YtkiahnffepbgpaaRegG
namespace Go.Proofs.Ytkiahnffepbgpaa
open Go.RowKit
set_option linter.unusedSimpArgs false
set_option linter.unusedVariables false

set_option maxRecDepth 100000 in
set_option maxHeartbeats 2000000 in
theorem inside_bad (n : Int) (A : Option Addr) (es : List Nat) (len c : Nat) (x : Int) (w : World) (hr : Es w w.heap.size A len es) (hcc : (checkCode n es != 0) = true) :
    Calls Try.prog 25 #[.agg #[.int .i64 n, .slice A len c], .int .u32 x] w fun e w' => e = .returned (.tuple #[.int .i64 0, .bool false]) ∧ Below w.heap.size w w' := by
  have HR := Lib.hid hr; clear hr
  go_enter Try.func25, Try.ntmps25
  go_wp2_with fail
  refine (check_any n A es len c _ (HR.out.new ((al w _).alloc (by simp) _))).mono ?_
  rintro e w1 ⟨rfl, hb⟩
  have HB1 := Lib.hid (bthen ((al w (.cells #[.int .i64 n, .slice A len c] 24)).alloc (by simp) _) hb (by simp; omega)); clear hb
  go_wp2_with fail
  go_ret2
  exact ⟨rfl, HB1.out⟩
set_option maxRecDepth 100000 in
set_option maxHeartbeats 2000000 in
theorem acyclic_bad (n : Int) (A : Option Addr) (es : List Nat) (len c : Nat) (w : World) (hr : Es w w.heap.size A len es) (hcc : (checkCode n es != 0) = true) :
    Calls Try.prog 15 #[.agg #[.int .i64 n, .slice A len c]] w fun e w' => e = .returned (.bool false) ∧ Below w.heap.size w w' := by
  have HR := Lib.hid hr; clear hr
  go_enter Try.func15, Try.ntmps15
  go_wp2_with fail
  refine (check_any n A es len c _ (HR.out.new (al _ _))).mono ?_
  rintro e w1 ⟨rfl, hb⟩
  have HB1 := Lib.hid (bthen (al w _) hb (by simp)); clear hb
  go_wp2_with fail
  go_ret
  exact ⟨rfl, HB1.out⟩
theorem fldG0 (x y : Value) (W : World) : (Instr.field 24 (.agg #[x, y]) 0).run Try.prog W = .ok x W := by kernel_rfl
set_option maxRecDepth 100000 in
set_option maxHeartbeats 8000000 in
theorem basics_bad (n : Int) (A : Option Addr) (es : List Nat) (len c : Nat) (v : Int) (s : Nat) (w : World) (hr : Es w w.heap.size A len es) (hl : len ≤ 70) (hv : -128 ≤ v ∧ v ≤ 127) (hs : s < 4294967296) (hbad : checkCode n es ≠ 0) :
    Calls Try.prog 8 #[.agg #[.int .i64 n, .slice A len c], .int .i8 v, .int .u32 s] w fun e w' => e = .returned (.bool true) ∧ Below w.heap.size w w' := by
  have HR := Lib.hid hr; clear hr
  have HG := Lib.hid (GB.made w 24 (.int .i64 n) (.slice A len c))
  have HW := Lib.hid (al w (.cells #[.int .i64 n, .slice A len c] 24))
  have HN := Lib.hid (show indN n es = 0 by rw [indN, if_neg hbad])
  have HNE := Lib.hid hbad
  have hne : (checkCode n es != 0) = true := by simp [hbad]
  have HBN := Lib.hid hne
  have heq : (checkCode n es == checkCode n es) = true := by simp
  have HEQ := Lib.hid heq
  obtain ⟨cc, hcc⟩ : ∃ x, x = checkCode n es := ⟨_, rfl⟩
  rw [← hcc] at hne heq
  have HCC := Lib.hid hcc; clear hcc hbad
  have ew : IntKind.i64.wrap v = v := IntWalk.i64_in _ (by omega)
  go_enter Try.func8, Try.ntmps8
  go_wp2_with fail
  refine (check_any n A es len c _ (HR.out.new HW.out)).mono ?_
  rintro e w1 ⟨rfl, hb⟩
  rw [← HCC.out]
  replace HG := Lib.hid (HG.out.new hb)
  have HB := Lib.hid (bthen HW.out hb (by simp)); clear hb
  have g0 := HG.out.c0; have g1 := HG.out.c1; have gl := HG.out.lt
  go_wp2_with fail
  refine (of_any n A len c _).mono ?_
  rintro e w2 ⟨rfl, hb⟩
  replace HG := Lib.hid (HG.out.new hb)
  replace HB := Lib.hid (bthen HB.out hb HB.out.size); clear hb g0 g1 gl
  have g0 := HG.out.c0; have g1 := HG.out.c1; have gl := HG.out.lt
  go_wp2_with fail
  refine (rcheck_any n A es len c _ (HR.out.new HB.out)).mono ?_
  rintro e w3 ⟨rfl, hb⟩
  rw [← HCC.out]
  replace HG := Lib.hid (HG.out.new hb)
  replace HB := Lib.hid (bthen HB.out hb HB.out.size); clear hb g0 g1 gl
  have g0 := HG.out.c0; have g1 := HG.out.c1; have gl := HG.out.lt
  go_wp2_with fail
  refine (inside_bad n A es len c s _ (HR.out.new HB.out) HBN.out).mono ?_
  rintro e w4 ⟨rfl, hb⟩
  replace HG := Lib.hid (HG.out.new hb)
  replace HB := Lib.hid (bthen HB.out hb HB.out.size); clear hb g0 g1 gl
  have g0 := HG.out.c0; have g1 := HG.out.c1; have gl := HG.out.lt
  go_wp2_with fail
  refine (awake26_any _).mono ?_
  rintro e w5 ⟨rfl, hb⟩
  replace HG := Lib.hid (HG.out.new hb)
  replace HB := Lib.hid (bthen HB.out hb HB.out.size); clear hb g0 g1 gl
  have g0 := HG.out.c0; have g1 := HG.out.c1; have gl := HG.out.lt
  go_wp2_with fail
  refine (neighbors_bad n v A es len c _ (HR.out.new HB.out) (.inl HNE.out)).mono ?_
  rintro e w6 ⟨rfl, hb⟩
  replace HG := Lib.hid (HG.out.new hb)
  replace HB := Lib.hid (bthen HB.out hb HB.out.size); clear hb g0 g1 gl
  have g0 := HG.out.c0; have g1 := HG.out.c1; have gl := HG.out.lt
  go_wp2_with fail
  refine (comps_bad n A es len c _ (HR.out.new HB.out) HBN.out).mono ?_
  rintro e w7 ⟨rfl, hb⟩
  replace HG := Lib.hid (HG.out.new hb)
  replace HB := Lib.hid (bthen HB.out hb HB.out.size); clear hb g0 g1 gl
  have g0 := HG.out.c0; have g1 := HG.out.c1; have gl := HG.out.lt
  go_wp2_with fail
  refine (induced_any n A es len c s _ (HR.out.new HB.out) hs).mono ?_
  rintro e w8 ⟨v8, rfl, _, hb⟩
  rw [HN.out]
  have hfd := fldG0
  replace HG := Lib.hid (HG.out.new hb)
  replace HB := Lib.hid (bthen HB.out hb HB.out.size); clear hb g0 g1 gl
  have g0 := HG.out.c0; have g1 := HG.out.c1; have gl := HG.out.lt
  go_wp2_with fail
  refine (acyclic_bad n A es len c _ (HR.out.new HB.out) HBN.out).mono ?_
  rintro e w9 ⟨rfl, hb⟩
  replace HB := Lib.hid (bthen HB.out hb HB.out.size); clear hb g0 g1 gl
  go_wp2_with fail
  go_ret
  exact ⟨rfl, HB.out⟩
end Go.Proofs.Ytkiahnffepbgpaa
namespace Go.Proofs.Ytkiahnffepbgpaa
open Go.RowKit
set_option linter.unusedSimpArgs false
set_option linter.unusedVariables false

/-- A new box of a graph. -/
def Zg (T B : Nat) (v : Value) (w : World) : Prop := ∃ g, v = .pointer (some ⟨g, 0, none⟩) ∧ B ≤ g ∧ GB w g T (.int .i64 0) (.slice none 0 0)
theorem Zg.new {T B : Nat} {v : Value} {w w' : World} (h : Zg T B v w) (hb : Below w.heap.size w w') : Zg T B v w' := by
  obtain ⟨g, h1, h2, h3⟩ := h
  exact ⟨g, h1, h2, h3.new hb⟩
/-- A graph of one's own. -/
def Gv (n : Int) (l : List Nat) (v : Value) (w : World) : Prop := ∃ s, v = .agg #[.int .i64 n, s] ∧ w.ownsRow 0 36 1 s l.length (U32 l)
theorem Gv.new {n : Int} {l : List Nat} {v : Value} {w w' : World} (h : Gv n l v w) (hb : Below w.heap.size w w') : Gv n l v w' := by
  obtain ⟨s, h1, h2⟩ := h
  exact ⟨s, h1, own_below h2 hb⟩
/-- A list of numbers of one's own. -/
def Sv (l : List Nat) (v : Value) (w : World) : Prop := w.ownsRow 0 36 1 v l.length (U32 l)
theorem Sv.new {l : List Nat} {v : Value} {w w' : World} (h : Sv l v w) (hb : Below w.heap.size w w') : Sv l v w' := own_below h hb
theorem Sv.es {l : List Nat} {v : Value} {w : World} (h : Sv l v w) (hl : l.length ≤ 70) (hlt : ∀ e ∈ l, e < 4294967296) : ∃ A c, v = .slice A l.length c ∧ Es w w.heap.size A l.length l := by
  obtain ⟨A, c, rfl⟩ := own_form h
  exact ⟨A, c, rfl, Reads.of_own h, ⟨rfl, by omega⟩, hlt⟩
theorem alloc_hg {o : Oper} {a : Act} {w0 w : World} (ho : o.op = .alloc 24) (hb : Below w0.heap.size w0 w) : gives Try.prog o a.eval w (fun v w' => (Zg 24 w0.heap.size v w' ∧ Below w.heap.size w w') ∧ Fresh v w w') := by
  have hr : (execOp a.eval o).run Try.prog w = .ok (.value (.pointer (some ⟨w.heap.size, 0, none⟩))) (w.alloc (.cells #[.int .i64 0, .slice none 0 0] 24)) := by
    unfold execOp
    rw [ho]
    go_simp
  unfold gives
  rw [hr]
  exact ⟨⟨⟨_, rfl, hb.size, GB.made _ _ _ _⟩, al _ _⟩, _, rfl, Nat.le_refl _, by simp⟩
theorem alloc_rg {o : Oper} {a : Act} {w0 w : World} (ho : o.op = .alloc 26) (hb : Below w0.heap.size w0 w) : gives Try.prog o a.eval w (fun v w' => (Zg 26 w0.heap.size v w' ∧ Below w.heap.size w w') ∧ Fresh v w w') := by
  have hr : (execOp a.eval o).run Try.prog w = .ok (.value (.pointer (some ⟨w.heap.size, 0, none⟩))) (w.alloc (.cells #[.int .i64 0, .slice none 0 0] 26)) := by
    unfold execOp
    rw [ho]
    go_simp
  unfold gives
  rw [hr]
  exact ⟨⟨⟨_, rfl, hb.size, GB.made _ _ _ _⟩, al _ _⟩, _, rfl, Nat.le_refl _, by simp⟩
/-- A graph laid into its box. -/
theorem store_g {T : TypeId} {o : Oper} {a : Act} {w : World} {t u : Tmp} {g : Nat} {n : Int} {l : List Nat} {v : Value} {x y : Value} {K : Act → World → Prop} {Q : Exit → Act → World → Prop} (hT : (Try.prog.info? T).map (·.size) = some 2) (ho : o.op = .store T (.tmp t) (.tmp u)) (hd : o.dst = none) (ht : a.eval (.tmp t) = .pointer (some ⟨g, 0, none⟩)) (hu : a.eval (.tmp u) = v)
    (hz : GB w g T x y) (hne : 36 ≠ T) (hv : Gv n l v w) (next : ∀ s, Sv l s ((w.setCell ⟨g, 0, none⟩ (.int .i64 n)).setCell ⟨g, 1, none⟩ s) → GB ((w.setCell ⟨g, 0, none⟩ (.int .i64 n)).setCell ⟨g, 1, none⟩ s) g T (.int .i64 n) s → K a ((w.setCell ⟨g, 0, none⟩ (.int .i64 n)).setCell ⟨g, 1, none⟩ s)) : o.wp Try.prog a w K Q := by
  obtain ⟨s, rfl, h⟩ := hv
  obtain ⟨A, c, hs⟩ := own_form h
  subst hs
  refine wp_store_mid T (.tmp t) (.tmp u) ho g 0 #[.int .i64 n, .slice A l.length c] ht hu (fun j hj => ⟨?_, hz.blk.frozen _⟩) (by simpa using hT) (by simp [Value.oneCell']) ?_
  · rw [hz.blk.cell]
    have : j < 2 := by simpa using hj
    simp [this]
  · rw [hd]
    exact next _ (own_far (own_far h hz.blk hne 0 _) (hz.set0 _).blk hne 1 _) ((hz.set0 _).set1 _)
theorem Gv.far {n : Int} {l : List Nat} {v : Value} {w : World} {g : Nat} {T : TypeId} {x y : Value} (h : Gv n l v w) (hz : GB w g T x y) (hne : 36 ≠ T) (p q : Value) : Gv n l v ((w.setCell ⟨g, 0, none⟩ p).setCell ⟨g, 1, none⟩ q) := by
  obtain ⟨s, rfl, h⟩ := h
  exact ⟨s, rfl, own_far (own_far h hz.blk hne 0 _) (hz.set0 _).blk hne 1 _⟩
theorem Sv.far {l : List Nat} {v : Value} {w : World} {g : Nat} {T : TypeId} {x y : Value} (h : Sv l v w) (hz : GB w g T x y) (hne : 36 ≠ T) (p q : Value) : Sv l v ((w.setCell ⟨g, 0, none⟩ p).setCell ⟨g, 1, none⟩ q) :=
  own_far (own_far h hz.blk hne 0 _) (hz.set0 _).blk hne 1 _
/-- Induced, and its rule, as values. -/
theorem induced_v {n s : Nat} {A : Option Addr} {es : List Nat} {len c : Nat} {w : World} (hr : Es w w.heap.size A len es) (hcc : checkCode n es = 0) (hs : s < 4294967296) :
    Calls Try.prog 28 #[.agg #[.int .i64 n, .slice A len c], .int .u32 s] w (RV w (Gv n (indL es s))) := by
  refine (induced_any n A es len c s w hr hs).mono ?_
  rintro e w1 ⟨v, rfl, h1, hb⟩
  rw [indN, if_pos hcc]
  rw [indE, if_pos hcc] at h1
  exact ⟨_, rfl, ⟨v, rfl, own_lower h1 (Nat.zero_le _)⟩, hb⟩
theorem rinduced_v {n s : Nat} {A : Option Addr} {es : List Nat} {len c : Nat} {w : World} (hr : Es w w.heap.size A len es) (hl : len ≤ 70) (hs : s < 4294967296) :
    Calls Try.prog 30 #[.agg #[.int .i64 n, .slice A len c], .int .u32 s] w (RV w (Gv n (indL es s))) := by
  refine (rinduced_any n A es len c s w hr hs hl).mono ?_
  rintro e w1 ⟨v, rfl, h1, hb⟩
  exact ⟨_, rfl, ⟨v, rfl, own_lower h1 (Nat.zero_le _)⟩, hb⟩
/-- Components, and its rule, as values: the same list. -/
theorem comps_sv {n : Nat} {A : Option Addr} {es : List Nat} {len c : Nat} {w : World} (hr : Es w w.heap.size A len es) (hl : len ≤ 70) (hcc : checkCode n es = 0) :
    Calls Try.prog 27 #[.agg #[.int .i64 n, .slice A len c]] w (RV w (Sv (rcm es n n).1)) := by
  obtain ⟨_, hn, _, hes⟩ := checkCode_zero hcc
  have hb2 : ∀ e ∈ es, e < 2 ^ n := by simpa using hes
  refine (comps_any n A es len c w hr hcc).mono ?_
  rintro e w1 ⟨A', l, c', rfl, h1, h2, -, hb⟩
  have hnn : n ≤ 32 := by omega
  have hu : l = (rcm es n n).1 := h1.unique (rcm_comps hnn hb2)
  rw [hu] at h2 ⊢
  exact ⟨_, rfl, own_lower h2 (Nat.zero_le _), hb⟩
theorem rcomps_sv {n : Nat} {A : Option Addr} {es : List Nat} {len c : Nat} {w : World} (hr : Es w w.heap.size A len es) (hl : len ≤ 70) (hcc : checkCode n es = 0) :
    Calls Try.prog 32 #[.agg #[.int .i64 n, .slice A len c]] w (RV w (Sv (rcm es n n).1)) := by
  obtain ⟨_, hn, _, hes⟩ := checkCode_zero hcc
  have hb2 : ∀ e ∈ es, e < 2 ^ n := by simpa using hes
  have hnn : n ≤ 32 := by omega
  refine (rcomps_any n A es len c w hr hnn hl hb2).mono ?_
  rintro e w1 ⟨v, rfl, h2, hb⟩
  exact ⟨_, rfl, own_lower h2 (Nat.zero_le _), hb⟩
theorem equal_sv {l : List Nat} {u v : Value} {w : World} (h : Sv l u w) (h2 : Sv l v w) (hl : l.length ≤ 70) (hlt : ∀ e ∈ l, e < 4294967296) :
    Calls Try.prog 14 #[u, v] w (RV w (fun z _ => z = .bool true)) := by
  obtain ⟨A, c, rfl, h3⟩ := h.es hl hlt
  obtain ⟨B, d, rfl, h4⟩ := h2.es hl hlt
  refine rv_one ((equal_u32 A B l l l.length l.length c d w h3 h4).mono ?_)
  rintro e w1 ⟨rfl, hb⟩
  exact ⟨by simp, hb⟩
section
variable {o : Oper} {a : Act} {w : World} {t : Tmp}
theorem fldr_0 {g : Nat} (ho : o.op = .fieldAddr 26 (.tmp t) 0) (hx : tv a t = .pointer (some ⟨g, 0, none⟩)) : gives Try.prog o a.eval w (fun v w' => v = .pointer (some ⟨g, 0, none⟩) ∧ Below w.heap.size w w') := by
  refine gives_val (.pointer (some ⟨g, 0, none⟩)) ?_ ⟨rfl, Below.refl _ _⟩
  unfold execOp; rw [ho]; simp only [eval_tmp, hx]; go_simp
theorem fldr_1 {g : Nat} (ho : o.op = .fieldAddr 26 (.tmp t) 1) (hx : tv a t = .pointer (some ⟨g, 0, none⟩)) : gives Try.prog o a.eval w (fun v w' => v = .pointer (some ⟨g, 1, none⟩) ∧ Below w.heap.size w w') := by
  refine gives_val (.pointer (some ⟨g, 1, none⟩)) ?_ ⟨rfl, Below.refl _ _⟩
  unfold execOp; rw [ho]; simp only [eval_tmp, hx]; go_simp
theorem conv_i8 {k : Int} (hk : -128 ≤ k ∧ k ≤ 127) (ho : o.op = .convert 57 3 (.tmp t)) (hx : tv a t = .int .i8 k) : gives Try.prog o a.eval w (fun u w' => u = .int .i64 k ∧ Below w.heap.size w w') := by
  refine gives_val (.int .i64 k) ?_ ⟨rfl, Below.refl _ _⟩
  have e : IntKind.i64.wrap k = k := IntWalk.i64_in _ (by omega)
  unfold execOp; rw [ho]; simp only [eval_tmp, hx]; go_simp
theorem max_c {x : Int} {ts : Array TypeId} (ho : o.op = .call { callee := .builtin .max, args := #[.tmp t, .const (.int .i64 0)], argTypes := ts }) (hx : tv a t = .int .i64 x) : gives Try.prog o a.eval w (fun u w' => u = .int .i64 (max x 0) ∧ Below w.heap.size w w') := by
  refine gives_val (.int .i64 (max x 0)) ?_ ⟨rfl, Below.refl _ _⟩
  have e : (if (0 : Int) > x then (0 : Int) else x) = max x 0 := by split <;> omega
  unfold execOp; rw [ho]
  simp [eval_tmp, eval_const, hx, resolve, invoke, builtin, Builtin.max_, Builtin.max2, e]
end
theorem rcm_len (es : List Nat) (n : Nat) : ∀ k, (rcm es n k).1.length ≤ k
  | 0 => by simp [rcm]
  | k + 1 => by
    have := rcm_len es n k
    rw [rcm]; split <;> simp <;> omega
theorem rcm_mem (es : List Nat) (n : Nat) : ∀ k, ∀ x ∈ (rcm es n k).1, ∃ u, u < k ∧ x = clsOf es n u
  | 0, x, h => by simp [rcm] at h
  | k + 1, x, h => by
    rw [rcm] at h
    split at h
    · obtain ⟨u, h1, h2⟩ := rcm_mem es n k x h; exact ⟨u, by omega, h2⟩
    · simp only [List.mem_append, List.mem_singleton] at h
      rcases h with h | h
      · obtain ⟨u, h1, h2⟩ := rcm_mem es n k x h; exact ⟨u, by omega, h2⟩
      · exact ⟨k, by omega, h⟩
theorem rcm_lt {n : Nat} {es : List Nat} (hn : n ≤ 32) (hb : ∀ e ∈ es, e < 2 ^ n) : ∀ x ∈ (rcm es n n).1, x < 4294967296 := by
  intro x hx
  obtain ⟨u, hu, rfl⟩ := rcm_mem es n n x hx
  exact Nat.lt_of_lt_of_le (itr_lt hb (Nat.pow_lt_pow_right (by omega) hu) _) (Nat.le_trans (two_pow_le (show n ≤ 32 by omega)) (by decide))
end Go.Proofs.Ytkiahnffepbgpaa
