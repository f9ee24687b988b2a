/-
Maps from int to uint32 of the call's own: as functions.
Contract of connex.shortest.
Plain and memory: slices of slices of ints; hypergraph.Of as a function.
Contract of hypergraph.Of.
-/
import Derived.Test.YtjofdlafblpclaaDoorK1
import Derived.Maps.Own
import Derived.Maps.OwnOps
import Derived.Maps.Views
import Derived.Test.YtjofdlafblpclaaDoorK5
import Derived.Test.YtjofdlafblpclaaDoorK4
import Derived.Test.YtjofdlafblpclaaDoorK2
namespace Go.Proofs.YtjofdlafblpclaaDoor
open Go.RowKit Go.Maps Go.ChangeMaps Go.MapKept
open Go.WideElems (Fit rd rg pl rd_val elemAt)
set_option linter.unusedSimpArgs false
set_option linter.unusedVariables false

theorem mapLaw : Keyed Tryd.prog 3 := int_keyed Tryd.underlying3
theorem mapZero (w : World) : (zeroValue 42).run Tryd.prog w = .ok (.int .u32 0) w := by kernel_rfl
/-- Block b is a map of at most m entries that answers f. -/
def MapIs (w : World) (b m : Nat) (f : Nat → Nat) : Prop :=
  ∃ D : DataW Unit, w.ownsMap Tryd.prog 3 (plainElem Tryd.prog 42) b m D ∧ IsMap D ∧ ∀ k : Nat, D.atKey (.int .i64 (k : Int)) (.lit (.int .u32 0)) = .lit (.int .u32 (f k : Int))
theorem MapIs.lt {w : World} {b m : Nat} {f : Nat → Nat} (h : MapIs w b m f) : b < w.heap.size := let ⟨_, h1, _, _⟩ := h; h1.lt
theorem MapIs.kept {w w' : World} {b m : Nat} {f : Nat → Nat} (h : MapIs w b m f) {row : Option Nat} (hg : w.grownBy w' row) (hne : some b ≠ row) : MapIs w' b m f :=
  let ⟨D, h1, h2, h3⟩ := h; ⟨D, h1.kept hg hne, h2, h3⟩
theorem MapIs.new {w w' : World} {b m : Nat} {f : Nat → Nat} (h : MapIs w b m f) (hb : Below w.heap.size w w') : MapIs w' b m f :=
  h.kept (row := none) (only_of_below hb none) (by simp)
theorem MapIs.mono {w : World} {b m m' : Nat} {f : Nat → Nat} (h : MapIs w b m f) (hm : m ≤ m') : MapIs w b m' f :=
  let ⟨D, h1, h2, h3⟩ := h; ⟨D, h1.mono hm, h2, h3⟩
theorem MapIs.congr {w : World} {b m : Nat} {f g : Nat → Nat} (h : MapIs w b m f) (hfg : ∀ k, f k = g k) : MapIs w b m g :=
  let ⟨D, h1, h2, h3⟩ := h; ⟨D, h1, h2, fun k => by rw [← hfg k]; exact h3 k⟩
theorem MapIs.made (w : World) : MapIs (w.alloc (.map #[] 0)) w.heap.size 0 fun _ => 0 :=
  ⟨.map [], World.ownsMap_made w Tryd.prog 3 _, ⟨_, rfl⟩, fun k => rfl⟩
section
variable {ops : Array Oper} {rest : List Oper} {o : Oper} {a : Act} {w : World} {Q : Exit → Act → World → Prop} {b m : Nat} {f : Nat → Nat}
theorem key_wf {k : Nat} (hk : k ≤ 4294967296) : (Lit.int .i64 (k : Int)).wf = true := WalkArith.wf_i64 (by omega)
theorem wp_map_get (hg : o.guard = none) (y x : Operand) (hop : o.op = Op.lookup 61 y x false) (hm : a.eval y = .map (some b)) (h : MapIs w b m f) (k : Nat) (hk : k ≤ 4294967296) (hx : a.eval x = .int .i64 (k : Int))
    (hK : wpList Tryd.prog ops Q rest (a.put o.dst (.int .u32 (f k : Int))) w) : wpList Tryd.prog ops Q (o :: rest) a w := by
  obtain ⟨D, h1, h2, h3⟩ := h
  refine wpList_lookup_own_int w hg y x 61 hop 3 42 .u32 mapLaw Tryd.underlying61 Tryd.underlying42 (mapZero w) b m D hm h1 _ _ hx (keyOf_int_mk Tryd.underlying3 (key_wf hk)) ?_
  intro c hat hwc
  rw [h3 k] at hat
  injection hat with hat
  injection hat with _ hat
  rw [← hat]
  exact hK
theorem wp_map_put (hg : o.guard = none) (y x v : Operand) (hop : o.op = Op.mapUpdate 61 y x v) (hm : a.eval y = .map (some b)) (h : MapIs w b m f) (hmm : m ≤ 1000000) (k : Nat) (hk : k ≤ 4294967296) (hx : a.eval x = .int .i64 (k : Int)) (z : Nat) (hz : z < 4294967296) (hv : a.eval v = .int .u32 (z : Int))
    (hK : ∀ w', MapIs w' b (m + 1) (fun j => if j = k then z else f j) → w.grownBy w' (some b) → wpList Tryd.prog ops Q rest (a.put o.dst undef) w') : wpList Tryd.prog ops Q (o :: rest) a w := by
  obtain ⟨D, h1, h2, h3⟩ := h
  have hw : (Lit.int .u32 (z : Int)).wf = true := WalkArith.wf_u32 (by omega)
  refine wpList_mapUpdate_own w hg y x v 61 hop 3 42 mapLaw Tryd.underlying61 _ b m D hm h1 (by unfold maxLen; omega) _ _ _ hx hv (keyOf_int_mk Tryd.underlying3 (key_wf hk)) (.lit (.int .u32 (z : Int))) [] (plainElem_int Tryd.underlying42 hw) ?_
  intro w' h4 h5
  refine hK w' ⟨_, h4, ?_, fun j => ?_⟩ h5
  · obtain ⟨es, rfl⟩ := h2; exact ⟨_, rfl⟩
  · show _ = DataW.lit (.int .u32 ((if j = k then z else f j : Nat) : Int))
    by_cases hj : j = k
    · subst hj
      rw [if_pos rfl, atKey_put_same h2 (by trivial)]
    · rw [if_neg hj, atKey_put_other (by intro e; injection e with _ e; omega), h3 j]
theorem wp_map_clear (hg : o.guard = none) (y : Operand) (hop : o.op = .call { callee := .builtin .clear, args := #[y], argTypes := #[61] }) (hm : a.eval y = .map (some b)) (h : MapIs w b m f)
    (hK : ∀ w', MapIs w' b 0 (fun _ => 0) → w.grownBy w' (some b) → wpList Tryd.prog ops Q rest (a.put o.dst (.tuple #[])) w') : wpList Tryd.prog ops Q (o :: rest) a w := by
  obtain ⟨D, ⟨es, clock, hb, F, hs, hD⟩, h2, h3⟩ := h
  have hrun : (Builtin.clear_ #[61] o.type #[.map (some b)]).run Tryd.prog w = .ok (.tuple #[]) (setBlock w b (.map #[] clock)) := by
    simp [Builtin.clear_, run_underlying Tryd.underlying61, MapKept.run_getObj_map hb, MapKept.run_setObj_map _ hb, Result.andThen, setBlock]
  refine wpList_plain hg fun K' hK' => ?_
  unfold Oper.wp
  simp [execOp, hop, resolve, invoke, builtin, hm, hrun, Result.andThen]
  refine hK' _ _ (hK _ ⟨.map [], ⟨#[], clock, heap_setBlock_same hb _, ⟨by simp, stamped_empty clock, by simp⟩, Nat.zero_le _, rfl⟩, ⟨_, rfl⟩, fun k => rfl⟩ ?_)
  exact ⟨rfl, rfl, rfl, by simp [setBlock], fun i _ hi => heap_setBlock_other hb _ (fun e => hi (by rw [e]))⟩
end
end Go.Proofs.YtjofdlafblpclaaDoor
namespace Go.Proofs.YtjofdlafblpclaaDoor
open Go.RowKit
set_option linter.unusedSimpArgs false
set_option linter.unusedVariables false

set_option maxRecDepth 100000 in
set_option maxHeartbeats 1000000 in
theorem cxadj_any (n : Nat) (A : Option Addr) (es : List Nat) (len c : Nat) (w : World) (hr : Es w w.heap.size A len es) (hcc : checkCode n es = 0) :
    Calls Tryd.prog 32 #[.agg #[.int .i64 n, .slice A len c]] w fun e w' => e = .returned (.agg (urow (adjRow n es))) ∧ Below w.heap.size w w' := by
  obtain ⟨_, hn, _, _⟩ := checkCode_zero hcc
  have hn' : n ≤ 32 := by omega
  have HC := Lib.hid hcc; clear hcc hn
  have HR := Lib.hid hr; clear hr
  have hg0 := GB.alloc (GB.alloc (GB.made w 24 (.int .i64 n) (.slice A len c)) (.cells (urow (zer 32)) 58)) (.cells (urow (zer 32)) 58)
  have h1 := Blk.alloc (Blk.new (w.alloc (Obj.cells #[Value.int IntKind.i64 n, Value.slice A len c] 24)) 58 (urow (zer 32))) (.cells (urow (zer 32)) 58)
  rw [World.size_alloc] at h1
  have h2 := (Blk.new ((w.alloc (Obj.cells #[Value.int IntKind.i64 n, Value.slice A len c] 24)).alloc (.cells (urow (zer 32)) 58)) 58 (urow (zer 32)))
  rw [World.size_alloc, World.size_alloc] at h2
  have hb : Below w.heap.size w (((w.alloc (Obj.cells #[Value.int IntKind.i64 n, Value.slice A len c] 24)).alloc (.cells (urow (zer 32)) 58)).alloc (.cells (urow (zer 32)) 58)) := (((Below.refl _ _).alloc (Nat.le_refl _) _).alloc (by simp) _).alloc (by simp; omega) _
  have HS := Lib.hid (And.intro hg0 (And.intro h1 (And.intro h2 hb)))
  clear h1 h2 hb
  have g0 := hg0.c0; have g1 := hg0.c1
  clear hg0
  go_enter Tryd.func32, Tryd.ntmps32
  go_wp2_with fail
  go_loopw [7] (fun i wr => ∃ (k : Nat) (L : List Nat), k ≤ n ∧ i = .int .i64 k ∧ Hid ((L.length = 32 ∧ ∀ v, v < 32 → nth L v = if v < k then adj es v else 0) ∧
      GB wr w.heap.size 24 (.int .i64 n) (.slice A len c) ∧ Blk wr (w.heap.size + 1) 58 (urow (zer 32)) ∧ Blk wr (w.heap.size + 1 + 1) 58 (urow L) ∧ Below w.heap.size w wr)) (fun i _ => n - (intOf i).toNat)
  case atStart => exact ⟨0, zer 32, Nat.zero_le _, rfl, Lib.hid ⟨⟨zer_length 32, fun v _ => by simp [nth_zer]⟩, HS.out⟩⟩
  case round =>
    obtain ⟨k, L, hk, rfl, HI⟩ := hrel
    clear g0 g1
    by_cases hkn : k < n
    · have g0 := HI.out.2.1.c0; have g1 := HI.out.2.1.c1; have gl := HI.out.2.1.lt
      go_wp2_with fail
      refine (neighbors_ok n k A es len c _ (HR.out.new HI.out.2.2.2.2) HC.out hkn).mono ?_
      rintro e w2 ⟨rfl, hb⟩
      have hR := HI.out.2.2.2.1.below hb HI.out.2.2.2.1.lt
      have hG := HI.out.2.1.new hb
      have hZ := HI.out.2.2.1.below hb HI.out.2.2.1.lt
      have hB := bthen HI.out.2.2.2.2 hb HI.out.2.2.2.2.size
      have hkL : k < L.length := by rw [HI.out.1.1]; omega
      have cR : w2.cell? ⟨w.heap.size + 1 + 1, k, none⟩ = some (.int .u32 (nth L k : Int)) := by rw [hR.cell, urow_get hkL]
      have fR : w2.frozen? ⟨w.heap.size + 1 + 1, k, none⟩ = false := hR.frozen k
      have lR := hR.lt
      have HR2 := Lib.hid hR; have HG2 := Lib.hid hG; have HZ2 := Lib.hid hZ; have HB2 := Lib.hid hB
      clear hb hR hG hZ hB g0 g1 gl hkL
      have i1 : (0 : Int) ≤ (k : Int) := by omega
      have i2 : (k : Int) < 32 := by omega
      go_wp2_with fail
      refine ⟨⟨k + 1, L.set k (adj es k), by omega, by go_num, Lib.hid ⟨⟨?_, fun v hv => ?_⟩, ?_, ?_, ?_, ?_⟩⟩, by simp [intOf]; omega⟩
      · rw [List.length_set]; exact HI.out.1.1
      · rw [nth_set (by rw [HI.out.1.1]; omega)]
        by_cases hvk : v = k
        · subst hvk; rw [if_pos rfl, if_pos (by omega)]
        · rw [if_neg hvk, HI.out.1.2 v hv]
          by_cases h : v < k
          · rw [if_pos h, if_pos (by omega)]
          · rw [if_neg h, if_neg (by omega)]
      · exact HG2.out.far (p := ⟨w.heap.size + 1 + 1, k, none⟩) (by show w.heap.size ≠ w.heap.size + 1 + 1; omega) _
      · exact HZ2.out.far (p := ⟨w.heap.size + 1 + 1, k, none⟩) (by show w.heap.size + 1 ≠ w.heap.size + 1 + 1; omega) _
      · have := HR2.out.set_ k (.int .u32 (adj es k : Int))
        rw [urow_set] at this
        exact this
      · exact HB2.out.setCell (p := ⟨w.heap.size + 1 + 1, k, none⟩) (by show w.heap.size ≤ w.heap.size + 1 + 1; omega) _
    · have hL : L = adjRow n es := by
        obtain ⟨⟨h1, h2⟩, _⟩ := HI.out
        apply List.ext_getElem
        · rw [h1, adjRow_length]
        · intro i h3 h4
          rw [← nth_eq h3, ← nth_eq h4, h2 i (by omega), nth_adjRow (by omega), show k = n by omega]
      have HL := Lib.hid hL; clear hL
      go_wp2_with (first
        | (refine wpList_load_blk rfl 58 (.tmp 3) rfl (w.heap.size + 1 + 1) _ (urow L) _ HI.out.2.2.2.1 rfl Tryd.underlying58 rfl (arr_size L HI.out.1.1) ?_)
        | (refine wpList_store_blk rfl 58 (.tmp 2) (.tmp 16) rfl (w.heap.size + 1) _ _ (urow L) HI.out.2.2.1 rfl rfl (by rw [size_urow, size_urow, HI.out.1.1, zer_length]) (arr_size L HI.out.1.1) (one_urow L) ?_; intro w1 hb1 hg1 hs1))
      refine bodyPost_ret (v := .agg (urow L)) ?_ rfl ⟨by rw [HL.out], ?_⟩
      · exact results_cell_row Tryd.results32 _ _ _ _ _ (0, 0) _ rfl hb1 Tryd.underlying58 rfl (arr_size L HI.out.1.1)
      · exact HI.out.2.2.2.2.grown hg1 HI.out.2.2.2.2.size (fun k hk => by cases hk; omega)

set_option maxRecDepth 100000 in
set_option maxHeartbeats 1000000 in
theorem around_any (n : Nat) (R : List Nat) (s : Nat) (w : World) (hR : R.length = 32) (hb : ∀ x ∈ R, x < 4294967296) (hs : s < 4294967296) :
    Calls Tryd.prog 50 #[.agg (urow R), .int .u32 s] w fun e w' => e = .returned (.int .u32 (orTo R s 32 : Nat)) ∧ Below w.heap.size w w' := by
  have HK := Lib.hid (Blk.new w 58 (urow R))
  have HW := Lib.hid (al w (.cells (urow R) 58))
  have HOL := Lib.hid (show ∀ k, orTo R s k < 4294967296 from fun k => by
    induction k with
    | zero => show 0 < 4294967296; decide
    | succ k ih =>
      rw [orTo]
      split
      · refine Nat.or_lt_two_pow (n := 32) ih ?_
        by_cases h : k < R.length
        · exact hb _ (nth_mem h)
        · have : nth R k = 0 := by simp only [nth, List.getD]; rw [List.getElem?_eq_none (by omega)]; rfl
          rw [this]; decide
      · exact ih)
  have HRB := Lib.hid hb; clear hb
  go_enter Tryd.func50, Tryd.ntmps50
  go_wp2_with fail
  go_loop [5, 7] (fun v i => ∃ k : Nat, k ≤ 32 ∧ i = .int .i64 k ∧ v = .int .u32 (orTo R s k : Nat)) (fun _ i => 32 - (intOf i).toNat)
  case atStart => exact ⟨0, Nat.zero_le _, rfl, rfl⟩
  case round =>
    obtain ⟨k, hk, rfl, rfl⟩ := hrel
    by_cases hkn : k < 32
    · have hkR : k < R.length := by omega
      have hol := HOL.out k
      have hx := HRB.out _ (nth_mem hkR)
      have eor := bits_or (orTo R s k) (nth R k) hol hx
      have HST := Lib.hid (show orTo R s (k + 1) = if s.testBit k then orTo R s k ||| nth R k else orTo R s k from rfl)
      have cR : (w.alloc (.cells (urow R) 58)).cell? ⟨w.heap.size, k, none⟩ = some (.int .u32 (nth R k : Int)) := by rw [HK.out.cell, urow_get hkR]
      have i1 : (0 : Int) ≤ (k : Int) := by omega
      have i2 : (k : Int) < 32 := by omega
      generalize orTo R s k = o at *
      cases hb : s.testBit k with
      | true =>
        have ht : (bits .and .u32 ((s : Int) / 2 ^ k) 1 == 1) = true := by rw [bit_test _ _ hs]; exact hb
        have HN := Lib.hid (show orTo R s (k + 1) = o ||| nth R k by rw [HST.out, hb]; rfl); clear hb
        go_wp2_with fail
        exact ⟨⟨k + 1, by omega, by go_num, by rw [HN.out]⟩, by simp [intOf]; omega⟩
      | false =>
        have ht : (bits .and .u32 ((s : Int) / 2 ^ k) 1 == 1) = false := by rw [bit_test _ _ hs]; exact hb
        have HN := Lib.hid (show orTo R s (k + 1) = o by rw [HST.out, hb]; rfl); clear hb
        go_wp2_with fail
        exact ⟨⟨k + 1, by omega, by go_num, by rw [HN.out]⟩, by simp [intOf]; omega⟩
    · obtain rfl : k = 32 := by omega
      go_wp2_with fail
      go_ret
      exact ⟨rfl, HW.out⟩
end Go.Proofs.YtjofdlafblpclaaDoor
namespace Go.Proofs.YtjofdlafblpclaaDoor
open Go.RowKit
set_option linter.unusedSimpArgs false
set_option linter.unusedVariables false

/-- What was seen and the border after k rounds. -/
def bord (R : List Nat) (inn a : Nat) : Nat → Nat × Nat
  | 0 => (0, nth R a &&& inn)
  | k + 1 => ((bord R inn a k).1 ||| (bord R inn a k).2, andn (orTo R (bord R inn a k).2 32 &&& inn) ((bord R inn a k).1 ||| (bord R inn a k).2))
def farF (R : List Nat) (f a : Nat) : Nat := andn (andn (2 ^ f - 1) (nth R a)) (2 ^ a)
def lastF (R : List Nat) (inn f a k : Nat) : Nat := orTo R (bord R inn a k).2 32 &&& farF R f a
def resF (R : List Nat) (inn f a : Nat) : Option Nat := (List.range 33).find? fun k => decide (lastF R inn f a k ≠ 0)
def shStep (R : List Nat) (inn f : Nat) (st : Nat × (Nat → Nat)) (a : Nat) : Nat × (Nat → Nat) :=
  match resF R inn f a with
  | some k => if st.1 = 0 ∨ k + 2 < st.1 then (k + 2, fun j => if j = a then lastF R inn f a k else 0) else if k + 2 = st.1 then (st.1, fun j => if j = a then lastF R inn f a k else st.2 j) else st
  | none => st
/-- connex.shortest: the number of steps, and the ends of each first vertex. -/
def shTo (R : List Nat) (inn f : Nat) : Nat → Nat × (Nat → Nat)
  | 0 => (0, fun _ => 0)
  | a + 1 => shStep R inn f (shTo R inn f a) a
section
variable {R : List Nat} {inn f a : Nat}
theorem orTo_lt9 (hb : ∀ x ∈ R, x < 4294967296) (s : Nat) : ∀ k, orTo R s k < 4294967296
  | 0 => by show 0 < 4294967296; decide
  | k + 1 => by
    rw [orTo]
    split
    · refine Nat.or_lt_two_pow (n := 32) (orTo_lt9 hb s k) ?_
      by_cases h : k < R.length
      · exact hb _ (nth_mem h)
      · have : nth R k = 0 := by simp only [nth, List.getD]; rw [List.getElem?_eq_none (by omega)]; rfl
        rw [this]; decide
    · exact orTo_lt9 hb s k
theorem nth_lt32 (hb : ∀ x ∈ R, x < 4294967296) (k : Nat) : nth R k < 4294967296 := by
  by_cases h : k < R.length
  · exact hb _ (nth_mem h)
  · have : nth R k = 0 := by simp only [nth, List.getD]; rw [List.getElem?_eq_none (by omega)]; rfl
    rw [this]; decide
theorem bord_lt (hb : ∀ x ∈ R, x < 4294967296) : ∀ k, (bord R inn a k).1 < 4294967296 ∧ (bord R inn a k).2 < 4294967296
  | 0 => ⟨by show 0 < 4294967296; decide, Nat.lt_of_le_of_lt Nat.and_le_left (nth_lt32 hb a)⟩
  | k + 1 => by
    obtain ⟨h1, h2⟩ := bord_lt hb k
    exact ⟨Nat.or_lt_two_pow (n := 32) h1 h2, Nat.lt_of_le_of_lt Nat.and_le_left (Nat.lt_of_le_of_lt Nat.and_le_left (orTo_lt9 hb _ _))⟩
theorem far_lt (hf : f ≤ 32) : farF R f a < 4294967296 := by
  have h1 : 2 ^ f - 1 < 4294967296 := by
    have h2 : 2 ^ f ≤ 2 ^ 32 := two_pow_le hf
    have := pow2_pos f
    omega
  exact Nat.lt_of_le_of_lt Nat.and_le_left (Nat.lt_of_le_of_lt Nat.and_le_left h1)
theorem orTo_zero : ∀ k, orTo R 0 k = 0
  | 0 => rfl
  | k + 1 => by rw [orTo]; simp [orTo_zero k]
theorem bord_zero {k : Nat} (h : (bord R inn a k).2 = 0) : ∀ j, k ≤ j → (bord R inn a j).2 = 0 := by
  intro j hj
  induction j with
  | zero => obtain rfl : k = 0 := by omega
            exact h
  | succ j ih =>
    rcases Nat.lt_or_ge j k with h1 | h1
    · obtain rfl : k = j + 1 := by omega
      exact h
    · show andn (orTo R (bord R inn a j).2 32 &&& inn) _ = 0
      rw [ih h1, orTo_zero]; simp [andn]
theorem last_zero {k : Nat} (h : (bord R inn a k).2 = 0) : lastF R inn f a k = 0 := by
  unfold lastF; rw [h, orTo_zero]; simp
theorem nz_bit9 {x : Nat} (h : x ≠ 0) : ∃ v, x.testBit v = true := by
  refine Classical.byContradiction fun hn => h ?_
  apply Nat.eq_of_testBit_eq
  intro i
  rw [Nat.zero_testBit]
  cases hi : x.testBit i with
  | false => rfl
  | true => exact absurd ⟨i, hi⟩ hn
theorem bits_or_dis {x y : Nat} (hx : x < 2 ^ 32) (hy : y < 2 ^ 32) (h0 : y ≠ 0) (hd : x &&& y = 0) : bitsOf 32 x + 1 ≤ bitsOf 32 (x ||| y) := by
  obtain ⟨v, hv⟩ := nz_bit9 h0
  have hxv : x.testBit v = false := by
    have := congrArg (fun z => z.testBit v) hd
    simp only [Nat.testBit_and, hv, Nat.zero_testBit] at this
    simpa using this
  refine countP_lt_of _ _ _ (fun u hu hu2 => ?_) ⟨v, ?_, ?_, ?_⟩
  · rw [Nat.testBit_or, hu2]; rfl
  · have := testBit_lt hy hv
    simpa using this
  · exact hxv
  · rw [Nat.testBit_or, hv]; simp
/-- There are at most 32 rounds. -/
theorem bord_bits (hb : ∀ x ∈ R, x < 4294967296) : ∀ k, (∀ j, j < k → (bord R inn a j).2 ≠ 0) → k ≤ bitsOf 32 (bord R inn a k).1 ∧ (bord R inn a k).1 &&& (bord R inn a k).2 = 0
  | 0, _ => ⟨Nat.zero_le _, by show 0 &&& _ = 0; simp⟩
  | k + 1, h => by
    obtain ⟨h1, h2⟩ := bord_bits hb k fun j hj => h j (by omega)
    obtain ⟨l1, l2⟩ := bord_lt (inn := inn) (a := a) hb k
    have h3 := bits_or_dis l1 l2 (h k (by omega)) h2
    refine ⟨?_, ?_⟩
    · show k + 1 ≤ bitsOf 32 ((bord R inn a k).1 ||| (bord R inn a k).2)
      omega
    · show ((bord R inn a k).1 ||| (bord R inn a k).2) &&& andn (orTo R (bord R inn a k).2 32 &&& inn) ((bord R inn a k).1 ||| (bord R inn a k).2) = 0
      apply Nat.eq_of_testBit_eq
      intro v
      have l3 : orTo R (bord R inn a k).2 32 &&& inn < 2 ^ 32 := Nat.lt_of_le_of_lt Nat.and_le_left (orTo_lt9 hb _ _)
      rw [Nat.testBit_and, testBit_andn (Nat.or_lt_two_pow (n := 32) l1 l2) l3, Nat.zero_testBit]
      cases ((bord R inn a k).1 ||| (bord R inn a k).2).testBit v <;> simp
theorem bord_stop (hb : ∀ x ∈ R, x < 4294967296) {k : Nat} (h : ∀ j, j ≤ k → (bord R inn a j).2 ≠ 0) : k < 32 := by
  obtain ⟨h1, h2⟩ := bord_bits hb (k + 1) fun j hj => h j (by omega)
  have := bitsOf_le 32 (bord R inn a (k + 1)).1
  omega
theorem res_some (hb : ∀ x ∈ R, x < 4294967296) {k : Nat} (h : ∀ j, j ≤ k → (bord R inn a j).2 ≠ 0) (hz : ∀ j, j < k → lastF R inn f a j = 0) (hk : lastF R inn f a k ≠ 0) : resF R inn f a = some k := by
  have := bord_stop hb h
  unfold resF
  rw [List.find?_eq_some_iff_append]
  refine ⟨by simpa using hk, List.range k, List.range' (k + 1) (33 - (k + 1)), ?_, fun j hj => by simp at hj; simp [hz j hj]⟩
  rw [List.range_eq_range', List.range_eq_range', ← List.range'_succ, show 33 - (k + 1) + 1 = 33 - k by omega]
  have := List.range'_append (s := 0) (m := k) (n := 33 - k) (step := 1)
  simp only [Nat.one_mul, Nat.zero_add] at this
  rw [this, show k + (33 - k) = 33 by omega]
theorem res_none {k : Nat} (hz : ∀ j, j < k → lastF R inn f a j = 0) (hk : (bord R inn a k).2 = 0) : resF R inn f a = none := by
  unfold resF
  rw [List.find?_eq_none]
  intro j hj
  rcases Nat.lt_or_ge j k with h | h
  · simp [hz j h]
  · simp [last_zero (f := f) (bord_zero hk j h)]
/-- The search from one vertex finds nothing as short. -/
theorem sh_late {st : Nat × (Nat → Nat)} {k : Nat} (hz : ∀ j, j < k → lastF R inn f a j = 0) (h0 : st.1 ≠ 0) (hk : st.1 < k + 2) : shStep R inn f st a = st := by
  unfold shStep
  cases hr : resF R inn f a with
  | none => rfl
  | some j =>
    have hj : k ≤ j := by
      rcases Nat.lt_or_ge j k with h | h
      · have := List.find?_some hr
        simp [hz j h] at this
      · exact h
    simp only
    rw [if_neg (by omega), if_neg (by omega)]
end

def ShRet (R : List Nat) (inn f : Nat) (w : World) (e : Ending) (w' : World) : Prop := ∃ b m, e = .returned (.tuple #[.int .i64 ((shTo R inn f f).1 : Int), .map (some b)]) ∧ MapIs w' b m (shTo R inn f f).2 ∧ w.heap.size ≤ b ∧ Below w.heap.size w w'
theorem sh_le {R : List Nat} {inn f : Nat} : ∀ a, (shTo R inn f a).1 ≤ 34 := by
  intro a
  induction a with
  | zero => simp [shTo]
  | succ a ih =>
    rw [shTo]; unfold shStep
    split
    · rename_i k hk
      have := List.mem_of_find?_eq_some hk
      rw [List.mem_range] at this
      split
      · simp only; omega
      · split
        · exact ih
        · exact ih
    · exact ih
set_option maxRecDepth 100000 in
set_option maxHeartbeats 4000000 in
theorem shortest_any (R : List Nat) (inn f : Nat) (w : World) (hR : R.length = 32) (hb : ∀ x ∈ R, x < 4294967296) (hi : inn < 4294967296) (hf : f ≤ 32) :
    Calls Tryd.prog 34 #[.agg (urow R), .int .u32 inn, .int .i64 f] w (ShRet R inn f w) := by
  have hmm := @run_makeMap Tryd.prog
  have h1 := Blk.alloc (Blk.new w 58 (urow R)) (.map #[] 0)
  have h2 := MapIs.made (w.alloc (.cells (urow R) 58))
  rw [World.size_alloc] at h2
  have HS := Lib.hid (show Blk _ w.heap.size 58 (urow R) ∧ MapIs _ (w.heap.size + 1) 0 (fun _ => 0) ∧ Below w.heap.size w ((w.alloc (.cells (urow R) 58)).alloc (.map #[] 0)) from ⟨h1, h2, bthen (al w _) (al _ _) (by simp)⟩)
  clear h1 h2
  have HRB := Lib.hid hb; clear hb
  have hsz := arr_size R hR
  have HAS := Lib.hid hsz; clear hsz
  go_enter Tryd.func34, Tryd.ntmps34
  go_wp2_with fail
  clear hmm
  generalize (w.alloc (.cells (urow R) 58)).alloc (.map #[] 0) = W0 at *
  go_loopw [8, 19] (fun lv iv wr => ∃ a : Nat, a ≤ f ∧ iv = .int .i64 a ∧ lv = .int .i64 ((shTo R inn f a).1 : Nat) ∧ Hid (Blk wr w.heap.size 58 (urow R) ∧ MapIs wr (w.heap.size + 1) a (shTo R inn f a).2 ∧ Below w.heap.size w wr)) (fun _ iv _ => f - (intOf iv).toNat)
  case atStart => exact ⟨0, Nat.zero_le _, rfl, rfl, HS⟩
  case round =>
    obtain ⟨a, ha, rfl, rfl, HI⟩ := hrel
    by_cases haf : a < f
    · have hra := nth_lt32 HRB.out a
      have cR : wr.cell? ⟨w.heap.size, a, none⟩ = some (.int .u32 (nth R a : Int)) := by rw [HI.out.1.cell, urow_get (by omega)]
      have i1 : (0 : Int) ≤ (a : Int) := by omega
      have i2 : (a : Int) < 32 := by omega
      go_wp2_with fail
      go_quiet ((go_at_call 33; exact quiet_left (cxbelow_any f hf _)))
      have hfb : 2 ^ f - 1 < 4294967296 := by
        have h2 : 2 ^ f ≤ 2 ^ 32 := two_pow_le hf
        have := pow2_pos f
        omega
      rw [shl_mod a (by omega), bits_andNot _ _ hfb hra, bits_andNot _ _ (andn_lt hfb) (pow2_lt32 (by omega))]
      have HFE := Lib.hid (show farF R f a = andn (andn (2 ^ f - 1) (nth R a)) (2 ^ a) from rfl)
      have hfl := far_lt (R := R) (a := a) hf
      rw [← HFE.out]
      have eand := bits_and (nth R a) inn hra hi
      have HB0 := Lib.hid (show bord R inn a 0 = (0, nth R a &&& inn) from rfl)
      have HLD := Lib.hid (show ∀ k, lastF R inn f a k = orTo R (bord R inn a k).2 32 &&& farF R f a from fun k => rfl)
      have HST := Lib.hid (show shTo R inn f (a + 1) = shStep R inn f (shTo R inn f a) a from rfl)
      have hsl := sh_le (R := R) (inn := inn) (f := f) a
      generalize shTo R inn f a = st at *
      obtain ⟨ℓ, ff⟩ := st
      simp only at hsl ⊢
      generalize farF R f a = fa at *
      have HI2 := Lib.hid (show Blk (wr.drewN nq) w.heap.size 58 (urow R) ∧ MapIs (wr.drewN nq) (w.heap.size + 1) a ff ∧ Below w.heap.size w (wr.drewN nq) from ⟨HI.out.1.drewN _, HI.out.2.1.new (below_drewN (Below.refl _ _) _), below_drewN HI.out.2.2 _⟩)
      go_wp2_with fail
      generalize wr.drewN nq = wq at *
      clear cR HI
      go_loopw [8, 12, 13, 14] (fun lv sv bv tv wr => ∃ k : Nat, lv = .int .i64 (ℓ : Nat) ∧ sv = .int .u32 ((bord R inn a k).1 : Nat) ∧ bv = .int .u32 ((bord R inn a k).2 : Nat) ∧ tv = .int .i64 (k + 2 : Nat) ∧ k ≤ 33 ∧
        Hid ((∀ j, j < k → lastF R inn f a j = 0 ∧ (bord R inn a j).2 ≠ 0) ∧ Blk wr w.heap.size 58 (urow R) ∧ MapIs wr (w.heap.size + 1) a ff ∧ Below w.heap.size w wr)) (fun _ _ _ tv _ => 40 - (intOf tv).toNat)
      case atStart => exact ⟨0, rfl, by rw [HB0.out]; rfl, by rw [HB0.out], rfl, by omega, Lib.hid ⟨fun j hj => by omega, HI2.out⟩⟩
      case round =>
        obtain ⟨k, rfl, rfl, rfl, rfl, hk33, HK⟩ := hrel
        obtain ⟨hsd, hbd⟩ := bord_lt (inn := inn) (a := a) HRB.out k
        have HBS := Lib.hid (show bord R inn a (k + 1) = ((bord R inn a k).1 ||| (bord R inn a k).2, andn (orTo R (bord R inn a k).2 32 &&& inn) ((bord R inn a k).1 ||| (bord R inn a k).2)) from rfl)
        have HLK := Lib.hid (HLD.out k)
        have HSTOP := Lib.hid (show (bord R inn a k).2 ≠ 0 → k < 32 from fun h => bord_stop (inn := inn) (a := a) HRB.out (k := k) fun j hj => by
          rcases Nat.lt_or_ge j k with h1 | h1
          · exact (HK.out.1 j h1).2
          · obtain rfl : j = k := by omega
            exact h)
        have HNONE := Lib.hid (show (bord R inn a k).2 = 0 → shTo R inn f (a + 1) = (ℓ, ff) from fun h => by
          rw [HST.out]; unfold shStep
          rw [res_none (fun j hj => (HK.out.1 j hj).1) h])
        have HLATE := Lib.hid (show ℓ ≠ 0 → ℓ < k + 2 → shTo R inn f (a + 1) = (ℓ, ff) from fun h1 h2 => by
          rw [HST.out]; exact sh_late (st := (ℓ, ff)) (fun j hj => (HK.out.1 j hj).1) h1 h2)
        have HRES := Lib.hid (show (bord R inn a k).2 ≠ 0 → lastF R inn f a k ≠ 0 → resF R inn f a = some k from fun h0 h => res_some HRB.out (fun j hj => by
          rcases Nat.lt_or_ge j k with h1 | h1
          · exact (HK.out.1 j h1).2
          · obtain rfl : j = k := by omega
            exact h0) (fun j hj => (HK.out.1 j hj).1) h)
        generalize hgb : bord R inn a k = sb at *
        obtain ⟨sn, bo⟩ := sb
        have HGB := Lib.hid hgb; clear hgb
        simp only at hsd hbd HBS HLK HSTOP HNONE HRES ⊢
        obtain ⟨t, ht⟩ : ∃ t, t = k + 2 := ⟨_, rfl⟩
        rw [← ht]
        have HT := Lib.hid ht; clear ht
        by_cases hb0 : bo = 0
        · have t0 : ((bo : Int) != 0) = false := by simp [hb0]
          have HN := Lib.hid (HNONE.out hb0); clear hb0
          go_wp2_with fail
          exact ⟨⟨a + 1, by omega, by go_num, by rw [HN.out], Lib.hid ⟨HK.out.2.1, by rw [HN.out]; exact HK.out.2.2.1.mono (Nat.le_succ _), HK.out.2.2.2⟩⟩, by simp [intOf]; omega⟩
        · have t0 : ((bo : Int) != 0) = true := by simp; omega
          have hk32 := HSTOP.out hb0
          by_cases hlate : ℓ ≠ 0 ∧ ℓ < t
          · have t1 : ((ℓ : Int) == 0) = false := by simp; omega
            have t2 : decide ((t : Int) ≤ (ℓ : Int)) = false := by simp; omega
            have t3 : decide (t ≤ ℓ) = false := by simp; omega
            have HN := Lib.hid (HLATE.out hlate.1 (by have := HT.out; omega)); clear hlate
            go_wp2_with fail
            exact ⟨⟨a + 1, by omega, by go_num, by rw [HN.out], Lib.hid ⟨HK.out.2.1, by rw [HN.out]; exact HK.out.2.2.1.mono (Nat.le_succ _), HK.out.2.2.2⟩⟩, by simp [intOf]; omega⟩
          · have hor := bits_or sn bo hsd hbd
            have hsn' : sn ||| bo < 4294967296 := Nat.or_lt_two_pow (n := 32) hsd hbd
            have hol := orTo_lt9 HRB.out bo 32
            have eand1 := bits_and (orTo R bo 32) fa hol hfl
            have eand2 := bits_and (orTo R bo 32) inn hol hi
            have hai : orTo R bo 32 &&& inn < 4294967296 := Nat.lt_of_le_of_lt Nat.and_le_left hol
            have eand3 := bits_andNot (orTo R bo 32 &&& inn) (sn ||| bo) hai hsn'
            have hll : orTo R bo 32 &&& fa < 4294967296 := Nat.lt_of_le_of_lt Nat.and_le_left hol
            have HAR := Lib.hid (fun W => around_any 0 R bo W hR HRB.out hbd)
            have HRS := Lib.hid (show orTo R bo 32 &&& fa ≠ 0 → shTo R inn f (a + 1) = if ℓ = 0 ∨ t < ℓ then (t, fun j => if j = a then orTo R bo 32 &&& fa else 0) else if t = ℓ then (ℓ, fun j => if j = a then orTo R bo 32 &&& fa else ff j) else (ℓ, ff) from fun h => by
              have hrs := HRES.out hb0 (by rw [HLK.out]; exact h)
              rw [HST.out]; unfold shStep; rw [hrs]; simp only
              rw [HLK.out, HT.out])
            generalize orTo R bo 32 = o at *
            generalize o &&& inn = oi at *
            generalize hlv : o &&& fa = lv at *
            have HLV := Lib.hid hlv; clear hlv
            have ht34 : t ≤ 34 := by have := HT.out; omega
            have HBN := Lib.hid hb0; clear hb0
            have hcase : ℓ = 0 ∨ (ℓ ≠ 0 ∧ t < ℓ) ∨ (ℓ ≠ 0 ∧ t = ℓ) := by omega
            clear hlate
            by_cases hl0 : lv = 0
            · have t4 : ((lv : Int) != 0) = false := by simp [hl0]
              have HL0 := Lib.hid hl0; clear hl0
              have hcase2 : ℓ = 0 ∨ (ℓ ≠ 0 ∧ t ≤ ℓ) := by omega
              clear hcase
              rcases hcase2 with h1 | ⟨h1, h2⟩
              · have u1 : ((ℓ : Int) == 0) = true := by simp [h1]
                clear h1
                go_upto_region 13 with (fail)
                go_wp2_with (first
                  | (refine wpList_load_blk rfl 58 (.tmp 3) rfl w.heap.size _ (urow R) _ HK.out.2.1 rfl Tryd.underlying58 rfl HAS.out ?_)
                  | (go_at_call 50; refine (HAR.out _).mono ?_; rintro e w5 ⟨rfl, hb5⟩; have HK5 := Lib.hid (show Blk w5 w.heap.size 58 (urow R) ∧ MapIs w5 (w.heap.size + 1) a ff ∧ Below w.heap.size w w5 from ⟨HK.out.2.1.below hb5 HK.out.2.1.lt, HK.out.2.2.1.new hb5, bthen HK.out.2.2.2 hb5 HK.out.2.2.2.size⟩); clear hb5))
                exact ⟨⟨k + 1, rfl, by rw [HBS.out], by rw [HBS.out], by rw [HT.out]; go_num, by omega, Lib.hid ⟨fun j hj => by
                  rcases Nat.lt_or_ge j k with h1 | h1
                  · exact HK.out.1 j h1
                  · obtain rfl : j = k := by omega
                    exact ⟨by rw [HLK.out]; exact HL0.out, by rw [HGB.out]; exact HBN.out⟩, HK5.out⟩⟩, by simp [intOf]; omega⟩
              · have u1 : ((ℓ : Int) == 0) = false := by simp [h1]
                have u2 : decide (t ≤ ℓ) = true := by simp [h2]
                clear h1 h2
                go_upto_region 13 with (fail)
                go_wp2_with (first
                  | (refine wpList_load_blk rfl 58 (.tmp 3) rfl w.heap.size _ (urow R) _ HK.out.2.1 rfl Tryd.underlying58 rfl HAS.out ?_)
                  | (go_at_call 50; refine (HAR.out _).mono ?_; rintro e w5 ⟨rfl, hb5⟩; have HK5 := Lib.hid (show Blk w5 w.heap.size 58 (urow R) ∧ MapIs w5 (w.heap.size + 1) a ff ∧ Below w.heap.size w w5 from ⟨HK.out.2.1.below hb5 HK.out.2.1.lt, HK.out.2.2.1.new hb5, bthen HK.out.2.2.2 hb5 HK.out.2.2.2.size⟩); clear hb5))
                exact ⟨⟨k + 1, rfl, by rw [HBS.out], by rw [HBS.out], by rw [HT.out]; go_num, by omega, Lib.hid ⟨fun j hj => by
                  rcases Nat.lt_or_ge j k with h1 | h1
                  · exact HK.out.1 j h1
                  · obtain rfl : j = k := by omega
                    exact ⟨by rw [HLK.out]; exact HL0.out, by rw [HGB.out]; exact HBN.out⟩, HK5.out⟩⟩, by simp [intOf]; omega⟩
            · have t4 : ((lv : Int) != 0) = true := by simp [hl0]
              have hrs := HRS.out hl0
              clear hl0
              rcases hcase with h1 | ⟨h1, h2⟩ | ⟨h1, h2⟩
              · have u1 : ((ℓ : Int) == 0) = true := by simp [h1]
                have HN := Lib.hid (show shTo R inn f (a + 1) = (t, fun j => if j = a then lv else 0) by rw [hrs, if_pos (.inl h1)])
                clear h1 hrs
                go_upto_region 13 with (fail)
                go_wp2_with (first
                  | (refine wp_map_clear rfl _ rfl rfl HK5.out.2.1 ?_; intro w6 hm6 hg6; have HM6 := Lib.hid hm6; have HG6 := Lib.hid hg6; clear hm6 hg6)
                  | (refine wp_map_put rfl _ _ _ rfl rfl HM6.out (by omega) a (by omega) rfl lv hll rfl ?_; intro w7 hm7 hg7; have HM7 := Lib.hid hm7; have HG7 := Lib.hid hg7; clear hm7 hg7)
                  | (refine wpList_load_blk rfl 58 (.tmp 3) rfl w.heap.size _ (urow R) _ HK.out.2.1 rfl Tryd.underlying58 rfl HAS.out ?_)
                  | (go_at_call 50; refine (HAR.out _).mono ?_; rintro e w5 ⟨rfl, hb5⟩; have HK5 := Lib.hid (show Blk w5 w.heap.size 58 (urow R) ∧ MapIs w5 (w.heap.size + 1) a ff ∧ Below w.heap.size w w5 from ⟨HK.out.2.1.below hb5 HK.out.2.1.lt, HK.out.2.2.1.new hb5, bthen HK.out.2.2.2 hb5 HK.out.2.2.2.size⟩); clear hb5))
                exact ⟨⟨a + 1, by omega, by go_num, by rw [HN.out], Lib.hid ⟨(HK5.out.1.grown HG6.out (by simp)).grown HG7.out (by simp), by rw [HN.out]; exact HM7.out.mono (by omega), (HK5.out.2.2.grown HG6.out HK5.out.2.2.size (fun k e => by cases e; omega)).grown HG7.out (Nat.le_trans HK5.out.2.2.size HG6.out.size) (fun k e => by cases e; omega)⟩⟩, by simp [intOf]; omega⟩
              · have u1 : ((ℓ : Int) == 0) = false := by simp [h1]
                have u2 : decide (t ≤ ℓ) = true := by simp; omega
                have u3 : decide (t < ℓ) = true := by simp [h2]
                have HN := Lib.hid (show shTo R inn f (a + 1) = (t, fun j => if j = a then lv else 0) by rw [hrs, if_pos (.inr h2)])
                clear h1 h2 hrs
                go_upto_region 13 with (fail)
                go_wp2_with (first
                  | (refine wp_map_clear rfl _ rfl rfl HK5.out.2.1 ?_; intro w6 hm6 hg6; have HM6 := Lib.hid hm6; have HG6 := Lib.hid hg6; clear hm6 hg6)
                  | (refine wp_map_put rfl _ _ _ rfl rfl HM6.out (by omega) a (by omega) rfl lv hll rfl ?_; intro w7 hm7 hg7; have HM7 := Lib.hid hm7; have HG7 := Lib.hid hg7; clear hm7 hg7)
                  | (refine wpList_load_blk rfl 58 (.tmp 3) rfl w.heap.size _ (urow R) _ HK.out.2.1 rfl Tryd.underlying58 rfl HAS.out ?_)
                  | (go_at_call 50; refine (HAR.out _).mono ?_; rintro e w5 ⟨rfl, hb5⟩; have HK5 := Lib.hid (show Blk w5 w.heap.size 58 (urow R) ∧ MapIs w5 (w.heap.size + 1) a ff ∧ Below w.heap.size w w5 from ⟨HK.out.2.1.below hb5 HK.out.2.1.lt, HK.out.2.2.1.new hb5, bthen HK.out.2.2.2 hb5 HK.out.2.2.2.size⟩); clear hb5))
                exact ⟨⟨a + 1, by omega, by go_num, by rw [HN.out], Lib.hid ⟨(HK5.out.1.grown HG6.out (by simp)).grown HG7.out (by simp), by rw [HN.out]; exact HM7.out.mono (by omega), (HK5.out.2.2.grown HG6.out HK5.out.2.2.size (fun k e => by cases e; omega)).grown HG7.out (Nat.le_trans HK5.out.2.2.size HG6.out.size) (fun k e => by cases e; omega)⟩⟩, by simp [intOf]; omega⟩
              · have u1 : ((ℓ : Int) == 0) = false := by simp [h1]
                have u2 : decide (t ≤ ℓ) = true := by simp; omega
                have u3 : decide (t < ℓ) = false := by simp; omega
                have HN := Lib.hid (show shTo R inn f (a + 1) = (ℓ, fun j => if j = a then lv else ff j) by rw [hrs, if_neg (by omega), if_pos h2])
                clear h1 h2 hrs
                go_upto_region 13 with (fail)
                go_wp2_with (first
                  | (refine wp_map_put rfl _ _ _ rfl rfl HK5.out.2.1 (by omega) a (by omega) rfl lv hll rfl ?_; intro w7 hm7 hg7; have HM7 := Lib.hid hm7; have HG7 := Lib.hid hg7; clear hm7 hg7)
                  | (refine wpList_load_blk rfl 58 (.tmp 3) rfl w.heap.size _ (urow R) _ HK.out.2.1 rfl Tryd.underlying58 rfl HAS.out ?_)
                  | (go_at_call 50; refine (HAR.out _).mono ?_; rintro e w5 ⟨rfl, hb5⟩; have HK5 := Lib.hid (show Blk w5 w.heap.size 58 (urow R) ∧ MapIs w5 (w.heap.size + 1) a ff ∧ Below w.heap.size w w5 from ⟨HK.out.2.1.below hb5 HK.out.2.1.lt, HK.out.2.2.1.new hb5, bthen HK.out.2.2.2 hb5 HK.out.2.2.2.size⟩); clear hb5))
                exact ⟨⟨a + 1, by omega, by go_num, by rw [HN.out], Lib.hid ⟨HK5.out.1.grown HG7.out (by simp), by rw [HN.out]; exact HM7.out, HK5.out.2.2.grown HG7.out HK5.out.2.2.size (fun k e => by cases e; omega)⟩⟩, by simp [intOf]; omega⟩
    · obtain rfl : a = f := by omega
      go_wp2_with fail
      go_ret2
      exact ⟨_, _, rfl, HI.out.2.1, by omega, HI.out.2.2⟩
end Go.Proofs.YtjofdlafblpclaaDoor
namespace Go.Proofs.YtjofdlafblpclaaDoor
open Go.RowKit

def rowAt (xss : List (List Int)) (r : Nat) : List Int := xss.getD r []
/-- A slice of slices of ints that reads as a list of lists. -/
def Xss (w : World) (B : Nat) (A : Option Addr) (len : Nat) (xss : List (List Int)) : Prop :=
  (len = xss.length ∧ len ≤ 9223372036854775807) ∧ ∀ r, r < len → ∃ ad Ar Lr Cr, A = some ad ∧ ad.block < B ∧ w.cell? (ad.add r) = some (.slice Ar Lr Cr) ∧ Xs w B Ar Lr (rowAt xss r)
theorem Xss.below {w w' : World} {B : Nat} {A : Option Addr} {len : Nat} {xss : List (List Int)} (h : Xss w B A len xss) (hb : Below B w w') : Xss w' B A len xss :=
  ⟨h.1, fun r hr => by
    obtain ⟨ad, Ar, Lr, Cr, e, hl, hc, hx⟩ := h.2 r hr
    exact ⟨ad, Ar, Lr, Cr, e, hl, by rw [hb.cell (by rw [block_of_add]; exact hl)]; exact hc, hx.below hb⟩⟩
theorem Xss.more {w : World} {B B' : Nat} {A : Option Addr} {len : Nat} {xss : List (List Int)} (h : Xss w B A len xss) (hB : B ≤ B') : Xss w B' A len xss :=
  ⟨h.1, fun r hr => by
    obtain ⟨ad, Ar, Lr, Cr, e, hl, hc, hx⟩ := h.2 r hr
    exact ⟨ad, Ar, Lr, Cr, e, by omega, hc, hx.more hB⟩⟩
theorem Xss.new {w w' : World} {A : Option Addr} {len : Nat} {xss : List (List Int)} (h : Xss w w.heap.size A len xss) (hb : Below w.heap.size w w') : Xss w' w'.heap.size A len xss := (h.below hb).more hb.size
/-- A vertex of a graph of n vertices. -/
def goodV (n v : Int) : Bool := decide (0 ≤ v) && (decide (v < n) && decide (v ≤ 31))
/-- The set of the good ones among the first k. -/
def rowL (n : Int) (l : List Int) : Nat → Nat
  | 0 => 0
  | k + 1 => if goodV n (inth l k) = true then rowL n l k ||| 2 ^ (inth l k).toNat else rowL n l k
theorem rowL_lt (n : Int) (l : List Int) : ∀ k, rowL n l k < 4294967296
  | 0 => by simp [rowL]
  | k + 1 => by
    rw [rowL]
    split
    · rename_i h
      simp only [goodV, Bool.and_eq_true, decide_eq_true_eq] at h
      exact Nat.or_lt_two_pow (n := 32) (rowL_lt n l k) (pow2_lt32 (by omega))
    · exact rowL_lt n l k
def allGood (n : Int) (xss : List (List Int)) : Bool := xss.all fun l => l.all (goodV n)
def ofEs (n : Int) (xss : List (List Int)) : List Nat := xss.map fun l => rowL n l l.length
/-- The error of hypergraph.Of. -/
def ofCode (n : Int) (xss : List (List Int)) : Int := if n < 0 ∨ 32 < n then 3 else if 64 < xss.length then 12 else if allGood n xss = true then 0 else 1
theorem ofEs_take {n : Int} {xss : List (List Int)} {r : Nat} (h : r < xss.length) : ofEs n (xss.take (r + 1)) = ofEs n (xss.take r) ++ [rowL n (rowAt xss r) (rowAt xss r).length] := by
  unfold ofEs
  rw [List.take_succ_eq_append_getElem h, List.map_append]
  simp [rowAt, List.getD, h]
theorem ofEs_length (n : Int) (xss : List (List Int)) : (ofEs n xss).length = xss.length := by simp [ofEs]
theorem ofEs_lt (n : Int) (xss : List (List Int)) : ∀ x ∈ ofEs n xss, x < 4294967296 := by
  intro x hx
  rw [ofEs, List.mem_map] at hx
  obtain ⟨l, _, rfl⟩ := hx
  exact rowL_lt _ _ _
theorem good_row {n : Int} {xss : List (List Int)} (h : ∀ r, r < xss.length → ∀ k, k < (rowAt xss r).length → goodV n (inth (rowAt xss r) k) = true) : allGood n xss = true := by
  rw [allGood, List.all_eq_true]
  intro l hl
  obtain ⟨r, hr, rfl⟩ := List.getElem_of_mem hl
  have h2 := h r hr
  have e : rowAt xss r = xss[r] := by simp [rowAt, List.getD, hr]
  rw [e] at h2
  rw [List.all_eq_true]
  intro v hv
  obtain ⟨k, hk, rfl⟩ := List.getElem_of_mem hv
  rw [← inth_eq hk]; exact h2 k hk
theorem bad_row {n : Int} {xss : List (List Int)} {r k : Nat} (hr : r < xss.length) (hk : k < (rowAt xss r).length) (h : goodV n (inth (rowAt xss r) k) = false) : allGood n xss = false := by
  rw [allGood, List.all_eq_false]
  have e : rowAt xss r = xss[r] := by simp [rowAt, List.getD, hr]
  rw [e] at hk h
  refine ⟨_, List.getElem_mem hr, ?_⟩
  rw [Bool.not_eq_true, List.all_eq_false]
  exact ⟨_, List.getElem_mem hk, by rw [← inth_eq hk, h]; simp⟩
end Go.Proofs.YtjofdlafblpclaaDoor
namespace Go.Proofs.YtjofdlafblpclaaDoor
open Go.RowKit
set_option linter.unusedSimpArgs false
set_option linter.unusedVariables false

/-- What Of answers: a graph of its own, and an error. -/
def OfRet (n : Int) (xss : List (List Int)) (w : World) (e : Ending) (w' : World) : Prop :=
  ∃ v, e = .returned (.tuple #[.agg #[.int .i64 (if ofCode n xss = 0 then n else 0), v], .int .i64 (ofCode n xss)]) ∧ w'.ownsRow w.heap.size 42 1 v (if ofCode n xss = 0 then ofEs n xss else []).length (U32 (if ofCode n xss = 0 then ofEs n xss else [])) ∧ Below w.heap.size w w'
theorem OfRet.err {n : Int} {xss : List (List Int)} {w w' : World} {c : Int} (h : ofCode n xss = c) (hc : c ≠ 0) (hb : Below w.heap.size w w') : OfRet n xss w (.returned (.tuple #[.agg #[.int .i64 0, .slice none 0 0], .int .i64 c])) w' := by
  subst h
  exact ⟨_, by rw [if_neg hc], by rw [if_neg hc]; exact own_nil _ _ _, hb⟩
theorem graph_size (a b : Value) : (Tryd.prog.info? 24).map (·.size) = some (#[a, b] : Array Value).size := by kernel_rfl
theorem two_below {B : Nat} {a w : World} (h : Below B a w) {g : Nat} (hg : B ≤ g) (x y : Value) : Below B a ((w.setCell ⟨g, 0, none⟩ x).setCell ⟨g, 1, none⟩ y) :=
  (h.setCell (p := ⟨g, 0, none⟩) hg x).setCell (p := ⟨g, 1, none⟩) hg y
end Go.Proofs.YtjofdlafblpclaaDoor
