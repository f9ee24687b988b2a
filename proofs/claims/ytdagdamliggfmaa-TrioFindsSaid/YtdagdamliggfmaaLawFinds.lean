/-
  The walk of the law TrioFinds.
-/
import Derived.Test.YtdagdamliggfmaaRAll
import Derived.Test.YtdagdamliggfmaaAwake
import Derived.Test.YtdagdamliggfmaaLawPermutes
namespace Go.Proofs.Ytdagdamliggfmaa
open Go.RowKit

set_option maxHeartbeats 1000000 in
theorem finds_far (n v x y z : Int) (A : Option Addr) (len c : Nat) (w : World) (h1 : len ≤ 9223372036854775807) (hfar : 70 < len ∨ 12 < n) :
    Calls Try.prog 4 #[.agg #[.int .i64 n, .slice A len c], .int .i64 v, .agg #[.int .i8 x, .int .i8 y, .int .i8 z]] w fun e w' => e = .returned (.bool true) ∧ Below w.heap.size w w' := by
  have hfar : 70 < len ∨ (len ≤ 70 ∧ 12 < n) := by omega
  rcases hfar with h3 | ⟨h3, h4⟩
  all_goals
    go_enter Try.func4, Try.ntmps4
    go_wp2_with fail
    refine (awake_any _).mono ?_
    rintro e w1 ⟨rfl, hb⟩
    have HB := Lib.hid (bthen ((al _ _).alloc (by simp) _) hb (by simp; omega)); clear hb
    go_wp2_with fail
    go_ret
    exact ⟨rfl, HB.out⟩

/-- What stays while the law runs. -/
def FS (w : World) (n : Int) (A : Option Addr) (len c : Nat) (x y z : Int) (w' : World) : Prop :=
  GB w' w.heap.size 24 (.int .i64 n) (.slice A len c) ∧ Blk w' (w.heap.size + 1 + 1) 40 #[.int .i64 x, .int .i64 y, .int .i64 z] ∧ Below w.heap.size w w'
theorem FS.new {w w1 w2 : World} {n : Int} {A : Option Addr} {len c : Nat} {x y z : Int} (h : FS w n A len c x y z w1) (hb : Below w1.heap.size w1 w2) : FS w n A len c x y z w2 :=
  ⟨h.1.new hb, h.2.1.below hb h.2.1.lt, bthen h.2.2 hb h.2.2.size⟩
theorem FS.start (w : World) (n : Int) (A : Option Addr) (len c : Nat) (x y z x' y' z' : Int) : FS w n A len c x y z
    (((w.alloc (Obj.cells #[Value.int IntKind.i64 n, Value.slice A len c] 24)).alloc (Obj.cells #[Value.int IntKind.i8 x', Value.int IntKind.i8 y', Value.int IntKind.i8 z'] 39)).alloc (Obj.cells #[Value.int IntKind.i64 x, Value.int IntKind.i64 y, Value.int IntKind.i64 z] 40)) := by
  refine ⟨((GB.made _ _ _ _).alloc _).alloc _, ?_, ((al _ _).alloc (by simp) _).alloc (by simp; omega) _⟩
  have h := Blk.new ((w.alloc (Obj.cells #[Value.int IntKind.i64 n, Value.slice A len c] 24)).alloc (Obj.cells #[Value.int IntKind.i8 x', Value.int IntKind.i8 y', Value.int IntKind.i8 z'] 39)) 40 #[.int .i64 x, .int .i64 y, .int .i64 z]
  rw [World.size_alloc, World.size_alloc] at h
  exact h
theorem eq000 (W : World) : (binOp .eql 40 (.agg #[.int .i64 0, .int .i64 0, .int .i64 0]) (.agg #[.int .i64 0, .int .i64 0, .int .i64 0])).run Try.prog W = .ok (.bool true) W := by kernel_rfl

set_option maxRecDepth 100000 in
set_option maxHeartbeats 4000000 in
theorem finds_bad (n v x y z : Int) (A : Option Addr) (es : List Nat) (len c : Nat) (w : World) (hr : Es w w.heap.size A len es) (h1 : len ≤ 70) (h2 : n ≤ 12) (hx : -128 ≤ x ∧ x ≤ 127) (hy : -128 ≤ y ∧ y ≤ 127) (hz : -128 ≤ z ∧ z ≤ 127) (hv : validB n es v = false) :
    Calls Try.prog 4 #[.agg #[.int .i64 n, .slice A len c], .int .i64 v, .agg #[.int .i8 x, .int .i8 y, .int .i8 z]] w fun e w' => e = .returned (.bool true) ∧ Below w.heap.size w w' := by
  have HR := Lib.hid hr; clear hr
  have HF := Lib.hid (FS.start w n A len c x y z x y z)
  have HL := Lib.hid (show allTrios n es v = [] by simp [allTrios, hv])
  have HO := Lib.hid (show firstTrio n es v = none by simp [firstTrio, hv])
  have HC := Lib.hid (show chkB n es v x y z = false from chkB_bad (by rw [hv]; simp))
  have hcase : checkCode n es ≠ 0 ∨ (checkCode n es = 0 ∧ v < 0) ∨ (checkCode n es = 0 ∧ 0 ≤ v ∧ n < v) := by
    have := of_decide_eq_false hv
    omega
  clear hv
  rcases hcase with hc | ⟨hc, hv⟩ | ⟨hc, hv, hv2⟩
  all_goals
    (first | have hcb : (checkCode n es != 0) = true := (by simpa using hc) | have hcb : (checkCode n es != 0) = false := (by rw [hc]; rfl))
    have HCC := Lib.hid hc; clear hc
    go_enter Try.func4, Try.ntmps4
    go_wp2_with fail
    refine (all_any n v A es len c _ (HR.out.new HF.out.2.2)).mono ?_
    rintro e w1 ⟨A1, c1, rfl, hT, hb⟩
    rw [HL.out]
    have HF1 := Lib.hid (HF.out.new hb); clear hb hT
    have g0 := HF1.out.1.c0; have g1 := HF1.out.1.c1
    go_wp2_with fail
    refine (find_any n v A es len c _ (HR.out.new HF1.out.2.2)).mono ?_
    rintro e w2 ⟨rfl, hb⟩
    rw [HO.out]
    have HF2 := Lib.hid (HF1.out.new hb); clear hb g0 g1
    have g0 := HF2.out.1.c0; have g1 := HF2.out.1.c1
    have glt := HF2.out.1.lt
    unfold tcells
    go_wp2_with fail
    refine (of_any n A len c _).mono ?_
    rintro e w3 ⟨rfl, hb⟩
    have HO3 := Lib.hid ((Blk.new w2 40 #[.int .i64 0, .int .i64 0, .int .i64 0]).below hb (by simp))
    have HF3 := Lib.hid (HF2.out.new (bthen (al w2 (.cells #[.int .i64 0, .int .i64 0, .int .i64 0] 40)) hb (by simp))); clear hb g0 g1
    go_wp2_with fail
    refine (rcheck_any n A es len c _ (HR.out.new HF3.out.2.2)).mono ?_
    rintro e w4 ⟨rfl, hb⟩
    have HO4 := Lib.hid (HO3.out.below hb HO3.out.lt)
    have HF4 := Lib.hid (HF3.out.new hb); clear hb
    have g0 := HF4.out.1.c0
    go_wp2_with fail
    refine (awake_any _).mono ?_
    rintro e w5 ⟨rfl, hb⟩
    have HO5 := Lib.hid (HO4.out.below hb HO4.out.lt)
    have HF5 := Lib.hid (HF4.out.new hb); clear hb g0
    have g0 := HF5.out.1.c0; have g1 := HF5.out.1.c1
    have o0 := HO5.out.cell 0; have o1 := HO5.out.cell 1; have o2 := HO5.out.cell 2
    have x0 := HF5.out.2.1.cell 0; have x1 := HF5.out.2.1.cell 1; have x2 := HF5.out.2.1.cell 2
    simp at o0 o1 o2 x0 x1 x2
    have hq := eq000
    go_wp2_with fail
    refine (tcheck_any n v x y z A es len c _ (HR.out.new HF5.out.2.2)).mono ?_
    rintro e w6 ⟨rfl, hb⟩
    rw [HC.out]
    have HF6 := Lib.hid (HF5.out.new hb); clear hb g0 g1 o0 o1 o2 x0 x1 x2
    go_wp2_with fail
    go_ret
    exact ⟨rfl, HF6.out.2.2⟩
/-- A region whose operations yield one value each in every world that keeps what stood. -/
theorem wp_region_quiet_below {P : Program} {id : Nat} {Q : Exit → Act → World → Prop} {a : Act} {w : World} {l : List Oper} (hm : P.follows .mixedOrders = true) (hB : Region.lexB .any l.toArray = true)
    (h : wpQuiet P l.toArray (fun w' => Below w.heap.size w w') (fun a' => ∀ w', Below w.heap.size w w' → Q .normal a' w') l a) : (Code.region id l.toArray true).wp P Q a w :=
  wp_region_quiet (C := fun w' => Below w.heap.size w w') hm hB (Below.drew (Below.refl _ _)) (by simpa using h)
theorem load_blk {P : Program} (w : World) (g : Nat) (t ty : TypeId) (cs : Array Value) (d : TypeDesc) (hg : Blk w g t cs)
    (hu : P.underlying ty = some d) (hd : (match d with | .struct _ | .array _ _ => true | _ => false) = true) (hi : (P.info? ty).map (·.size) = some cs.size) : (loadVar ty ⟨g, 0, none⟩).run P w = .ok (.agg cs) w :=
  run_loadVar_row w g t ty cs (0, 0) d hg hu hd hi
theorem neq000 (W : World) : (binOp .neq 40 (.agg #[.int .i64 0, .int .i64 0, .int .i64 0]) (.agg #[.int .i64 0, .int .i64 0, .int .i64 0])).run Try.prog W = .ok (.bool false) W := by kernel_rfl
theorem size_arr3 (a b c : Value) : (Try.prog.info? 40).map (·.size) = some (#[a, b, c] : Array Value).size := by kernel_rfl
theorem neq_same (a b c : Int) (W : World) : (binOp .neq 40 (.agg #[.int .i64 a, .int .i64 b, .int .i64 c]) (.agg #[.int .i64 a, .int .i64 b, .int .i64 c])).run Try.prog W = .ok (.bool false) W := by
  rw [run_neq_struct, eq_arr3]; simp

set_option maxRecDepth 100000 in
set_option maxHeartbeats 4000000 in
theorem finds_ok (n m : Nat) (x y z : Int) (A : Option Addr) (es : List Nat) (len c : Nat) (w : World) (hr : Es w w.heap.size A len es) (h1 : len ≤ 70) (h2 : n ≤ 12) (hx : -128 ≤ x ∧ x ≤ 127) (hy : -128 ≤ y ∧ y ≤ 127) (hz : -128 ≤ z ∧ z ≤ 127) (hv : validB n es m = true) (L : List (Nat × Nat × Nat)) (hL : L = rtrios es m) (b : Bool) (o : Nat × Nat × Nat) (hbo : (b = false ∧ o = (0, 0, 0) ∧ L = []) ∨ (b = true ∧ ∃ r, L = o :: r)) :
    Calls Try.prog 4 #[.agg #[.int .i64 n, .slice A len c], .int .i64 m, .agg #[.int .i8 x, .int .i8 y, .int .i8 z]] w fun e w' => e = .returned (.bool true) ∧ Below w.heap.size w w' := by
  obtain ⟨hgood, _, hmn⟩ := of_decide_eq_true hv
  have HR := Lib.hid hr; clear hr
  have HF := Lib.hid (FS.start w n A len c x y z x y z)
  have HLR := Lib.hid hL
  have hLT : L = trios es m := by rw [hL, trios_eq HR.out.2.2 (by omega)]
  have HLT := Lib.hid (show allTrios n es m = L by simp [allTrios, hv, hLT])
  have HO := Lib.hid (show firstTrio n es m = if b then some o else none by
    simp only [firstTrio, hv, if_true, Int.toNat_natCast, ← hLT]
    rcases hbo with ⟨rfl, _, rfl⟩ | ⟨rfl, r, rfl⟩ <;> rfl)
  have HOC := Lib.hid (show tcells (if b then some o else none) = #[.int .i64 o.1, .int .i64 o.2.1, .int .i64 o.2.2] by
    rcases hbo with ⟨rfl, rfl, rfl⟩ | ⟨rfl, r, rfl⟩ <;> rfl)
  have HOS := Lib.hid (show (if b then some o else none).isSome = b by cases b <;> rfl)
  have hpos : b = true → 0 < L.length := by rintro rfl; rcases hbo with ⟨h, _⟩ | ⟨_, r, rfl⟩; cases h; simp
  have hzero : b = false → L.length = 0 := by rintro rfl; rcases hbo with ⟨_, _, rfl⟩ | ⟨h, _⟩; rfl; cases h
  have HZ := Lib.hid (show b = false → o = (0, 0, 0) by rintro rfl; rcases hbo with ⟨_, h, _⟩ | ⟨h, _⟩; exact h; cases h)
  have hll : L.length ≤ 32768 := by rw [hL]; exact rtrios_length es (by omega)
  have HT0 := Lib.hid (show b = true → tnth L 0 = o by rintro rfl; rcases hbo with ⟨h, _⟩ | ⟨_, r, rfl⟩; cases h; rfl)
  have HCH := Lib.hid (show ∀ k, k < L.length → chkB n es m (tnth L k).1 (tnth L k).2.1 (tnth L k).2.2 = true by
    intro k hk
    have hmem : tnth L k ∈ rtrios es m := by rw [← hL, tnth_eq hk]; exact List.getElem_mem _
    have ht := mem_rtrios hmem
    have hlt : (tnth L k).1 < (tnth L k).2.1 ∧ (tnth L k).2.1 < (tnth L k).2.2 ∧ (tnth L k).2.2 < m := by
      unfold isT at ht
      rw [Bool.and_eq_true] at ht
      exact of_decide_eq_true ht.1
    have : decide (validB n es m = true ∧ (0:Int) ≤ ((tnth L k).1 : Int) ∧ ((tnth L k).1 : Int) < ((tnth L k).2.1 : Int) ∧ ((tnth L k).2.1 : Int) < ((tnth L k).2.2 : Int) ∧ ((tnth L k).2.2 : Int) < (m : Int)) = true :=
      decide_eq_true ⟨hv, by omega, by omega, by omega, by omega⟩
    rw [chkB, this]
    simpa using ht)
  have HCR := Lib.hid (show chkB n es m x y z = rIsB es m x y z by simp [chkB, rIsB, hv])
  have HGD := Lib.hid hgood; clear hgood hv hL hLT hbo
  go_enter Try.func4, Try.ntmps4
  go_wp2_with fail
  refine (all_any n m A es len c _ (HR.out.new HF.out.2.2)).mono ?_
  rintro e w1 ⟨A1, c1, rfl, hT, hb⟩
  rw [HLT.out] at hT ⊢
  have HF1 := Lib.hid (HF.out.new hb); clear hb
  have HT1 := Lib.hid hT; clear hT
  have g0 := HF1.out.1.c0; have g1 := HF1.out.1.c1
  go_wp2_with fail
  refine (find_any n m A es len c _ (HR.out.new HF1.out.2.2)).mono ?_
  rintro e w2 ⟨rfl, hb⟩
  rw [HO.out, HOC.out, HOS.out]
  have HT2 := Lib.hid (HT1.out.new hb)
  have HF2 := Lib.hid (HF1.out.new hb); clear hb g0 g1 HT1
  have g0 := HF2.out.1.c0; have g1 := HF2.out.1.c1
  have glt := HF2.out.1.lt
  go_wp2_with fail
  refine (of_any n A len c _).mono ?_
  rintro e w3 ⟨rfl, hb⟩
  have HO3 := Lib.hid ((Blk.new w2 40 #[.int .i64 o.1, .int .i64 o.2.1, .int .i64 o.2.2]).below hb (by simp))
  have hb' := bthen (al w2 (.cells #[.int .i64 o.1, .int .i64 o.2.1, .int .i64 o.2.2] 40)) hb (by simp)
  have HT3 := Lib.hid (HT2.out.new hb')
  have HF3 := Lib.hid (HF2.out.new hb'); clear hb hb' g0 g1 HT2
  go_wp2_with fail
  refine (rcheck_any n A es len c _ (HR.out.new HF3.out.2.2)).mono ?_
  rintro e w4 ⟨rfl, hb⟩
  rw [HGD.out]
  have HO4 := Lib.hid (HO3.out.below hb HO3.out.lt)
  have HT4 := Lib.hid (HT3.out.new hb)
  have HF4 := Lib.hid (HF3.out.new hb); clear hb HT3
  have g0 := HF4.out.1.c0; have g1 := HF4.out.1.c1
  go_wp2_with fail
  refine (of_any n A len c _).mono ?_
  rintro e w5 ⟨rfl, hb⟩
  have HO5 := Lib.hid (HO4.out.below hb HO4.out.lt)
  have HT5 := Lib.hid (HT4.out.new hb)
  have HF5 := Lib.hid (HF4.out.new hb); clear hb g0 g1 HT4
  go_wp2_with fail
  refine (rall_any n m A es len c _ (HR.out.new HF5.out.2.2) (by omega)).mono ?_
  rintro e w6 ⟨A2, c2, rfl, hW, hb⟩
  rw [← HLR.out] at hW ⊢
  have HO6 := Lib.hid (HO5.out.below hb HO5.out.lt)
  have HT6 := Lib.hid (HT5.out.new hb)
  have HF6 := Lib.hid (HF5.out.new hb); clear hb HT5
  have HW6 := Lib.hid hW; clear hW
  go_wp2_with fail
  have hq := neq_same o.1 o.2.1 o.2.2
  cases b
  -- no trio
  have hp : L.length = 0 := hzero rfl
  have hp2 : decide (0 < L.length) = false := by rw [hp]; rfl
  have HP := Lib.hid hp; clear hp
  have hq0 : ∀ W, (binOp .neq 40 (.agg #[.int .i64 o.1, .int .i64 o.2.1, .int .i64 o.2.2]) (.agg #[.int .i64 0, .int .i64 0, .int .i64 0])).run Try.prog W = .ok (.bool false) W := by intro W; rw [HZ.out rfl]; exact neq000 W
  clear hpos hzero hq
  refine wp_region_quiet_below (by kernel_rfl) (by kernel_rfl) ?_
  repeat (quiet_step (first | (intro _; rfl) | (intro hC; refine (equal_trios _ _ L L _ _ _ _ _ (HT6.out.new hC) (HW6.out.new hC)).mono ?_; rintro e w' ⟨rfl, hb⟩; exact ⟨by rw [show (L == L) = true by simp], bthen hC hb hC.size⟩)))
  refine wpQuiet_load' rfl _ _ rfl ⟨w2.heap.size, 0, none⟩ rfl _ (fun w' hC => load_blk w' w2.heap.size _ _ _ _ (HO6.out.below hC HO6.out.lt) Try.underlying40 rfl (size_arr3 _ _ _)) ?_
  repeat (quiet_step (first | (intro _; rfl) | (intro hC; refine (equal_trios _ _ L L _ _ _ _ _ (HT6.out.new hC) (HW6.out.new hC)).mono ?_; rintro e w' ⟨rfl, hb⟩; exact ⟨by rw [show (L == L) = true by simp], bthen hC hb hC.size⟩)))
  refine wpQuiet_nil ?_
  intro w7 hb
  have HT7 := Lib.hid (HT6.out.new hb)
  have HF7 := Lib.hid (HF6.out.new hb); clear hb
  clear HO6 HW6 hq0 hp2 HT6 HP
  rotate_left
  -- some trios
  have hp : 0 < L.length := hpos rfl
  have hp2 : decide (0 < L.length) = true := decide_eq_true hp
  clear hpos hzero
  obtain ⟨ad2, hA2, hb2, a0, a1, a2⟩ := HW6.out.at_ (k := 0) hp
  rw [HT0.out rfl] at a0 a1 a2
  subst hA2
  have HA := Lib.hid (show (w6.cell? ad2 = some (.int .i64 o.1) ∧ w6.cell? (ad2.add 1) = some (.int .i64 o.2.1) ∧ w6.cell? (ad2.add 2) = some (.int .i64 o.2.2)) by simpa [Addr.add] using ⟨a0, a1, a2⟩)
  clear a0 a1 a2
  refine wp_region_quiet_below (by kernel_rfl) (by kernel_rfl) ?_
  repeat (quiet_step (first | (intro _; rfl) | (intro hC; refine (equal_trios _ _ L L _ _ _ _ _ (HT6.out.new hC) (HW6.out.new hC)).mono ?_; rintro e w' ⟨rfl, hb⟩; exact ⟨by rw [show (L == L) = true by simp], bthen hC hb hC.size⟩)))
  refine wpQuiet_load' rfl _ _ rfl ⟨w2.heap.size, 0, none⟩ rfl _ (fun w' hC => load_blk w' w2.heap.size _ _ _ _ (HO6.out.below hC HO6.out.lt) Try.underlying40 rfl (size_arr3 _ _ _)) ?_
  repeat (quiet_step (first | (intro _; rfl) | (intro hC; refine (equal_trios _ _ L L _ _ _ _ _ (HT6.out.new hC) (HW6.out.new hC)).mono ?_; rintro e w' ⟨rfl, hb⟩; exact ⟨by rw [show (L == L) = true by simp], bthen hC hb hC.size⟩)))
  refine wpQuiet_load' rfl _ _ rfl ad2 rfl _ (fun w' hC => run_load3 w' ad2 _ _ _ ((hC.cell hb2).trans HA.out.1) ((hC.cell (by rw [block_of_add]; exact hb2)).trans HA.out.2.1) ((hC.cell (by rw [block_of_add]; exact hb2)).trans HA.out.2.2)) ?_
  repeat (quiet_step (first | (intro _; rfl) | (intro hC; refine (equal_trios _ _ L L _ _ _ _ _ (HT6.out.new hC) (HW6.out.new hC)).mono ?_; rintro e w' ⟨rfl, hb⟩; exact ⟨by rw [show (L == L) = true by simp], bthen hC hb hC.size⟩)))
  refine wpQuiet_nil ?_
  intro w7 hb
  have HT7 := Lib.hid (HT6.out.new hb)
  have HF7 := Lib.hid (HF6.out.new hb); clear hb
  clear HO6 HW6 HA hq hp hp2 HT6
  all_goals
    clear HF HF1 HF2 HF3 HF4 HF5 HF6 HO3 HO4 HO5 HT0 HZ HO HOC HOS HLR HLT glt
    go_wp2_with fail
    go_loopw [13, 115] (fun _ i wr => ∃ k : Nat, k ≤ L.length ∧ i = .int .i64 k ∧ Hid (FS w n A len c x y z wr ∧ Ts wr wr.heap.size A1 L.length L)) (fun _ i _ => L.length - (intOf i).toNat)
    case atStart => exact ⟨0, Nat.zero_le _, rfl, Lib.hid ⟨HF7.out, HT7.out⟩⟩
    case round =>
      obtain ⟨k, hk, rfl, HI⟩ := hrel
      by_cases hlt : k < L.length
      · obtain ⟨ad, rfl, hb1, a0, a1, a2⟩ := HI.out.2.at_ hlt
        have hl := Lib.hid (run_load3 wr (ad.add (k * 3)) _ _ _ a0 a1 a2)
        clear a0 a1 a2
        have g0 := HI.out.1.1.c0; have g1 := HI.out.1.1.c1
        have glt := HI.out.1.1.lt
        go_wp2_with (refine wpList_load_at rfl 40 (.tmp 117) rfl (ad.add (k * 3)) rfl _ hl.out ?_)
        refine (tcheck_any n m _ _ _ A es len c _ (HR.out.new (HI.out.1.2.2.alloc HI.out.1.2.2.size _))).mono ?_
        rintro e w8 ⟨rfl, hb⟩
        rw [HCH.out k hlt]
        have hb' := bthen (al wr _) hb (by simp)
        have HI8 := Lib.hid (show FS w n A len c x y z w8 ∧ Ts w8 w8.heap.size (some ad) L.length L from ⟨HI.out.1.new hb', HI.out.2.new hb'⟩)
        clear hb hb' g0 g1 glt HI hl
        go_wp2_with fail
        exact ⟨⟨k + 1, by omega, by go_num, HI8⟩, by simp [intOf]; omega⟩
      · have HG := Lib.hid HI.out.1.1.blk
        have HX := Lib.hid HI.out.1.2.1
        have HB := Lib.hid HI.out.1.2.2
        go_wp2_with fail
        refine wp_region_quiet_below (by kernel_rfl) (by kernel_rfl) ?_
        repeat (quiet_step (first | (intro _; rfl) | (intro hC; refine (awake_any _).mono ?_; rintro e w' ⟨rfl, hb⟩; exact ⟨rfl, bthen hC hb hC.size⟩) | (intro hC; refine (tcheck_any n m x y z A es len c _ (HR.out.new (bthen HB.out hC HB.out.size))).mono ?_; rintro e w' ⟨rfl, hb⟩; exact ⟨by rw [HCR.out], bthen hC hb hC.size⟩) | (intro hC; refine (of_any n A len c _).mono ?_; rintro e w' ⟨rfl, hb⟩; exact ⟨rfl, bthen hC hb hC.size⟩) | (intro hC; refine (ris_any n m x y z A es len c _ (HR.out.new (bthen HB.out hC HB.out.size))).mono ?_; rintro e w' ⟨rfl, hb⟩; exact ⟨rfl, bthen hC hb hC.size⟩)))
        refine wpQuiet_load' rfl _ _ rfl ⟨w.heap.size, 0, none⟩ rfl _ (fun w' hC => load_blk w' (w.heap.size) _ _ _ _ (HG.out.below hC HG.out.lt) Try.underlying24 rfl (by kernel_rfl)) ?_
        repeat (quiet_step (first | (intro _; rfl) | (intro hC; refine (awake_any _).mono ?_; rintro e w' ⟨rfl, hb⟩; exact ⟨rfl, bthen hC hb hC.size⟩) | (intro hC; refine (tcheck_any n m x y z A es len c _ (HR.out.new (bthen HB.out hC HB.out.size))).mono ?_; rintro e w' ⟨rfl, hb⟩; exact ⟨by rw [HCR.out], bthen hC hb hC.size⟩) | (intro hC; refine (of_any n A len c _).mono ?_; rintro e w' ⟨rfl, hb⟩; exact ⟨rfl, bthen hC hb hC.size⟩) | (intro hC; refine (ris_any n m x y z A es len c _ (HR.out.new (bthen HB.out hC HB.out.size))).mono ?_; rintro e w' ⟨rfl, hb⟩; exact ⟨rfl, bthen hC hb hC.size⟩)))
        refine wpQuiet_load' rfl _ _ rfl ⟨w.heap.size + 1 + 1, 0, none⟩ rfl _ (fun w' hC => load_blk w' (w.heap.size + 1 + 1) _ _ _ _ (HX.out.below hC HX.out.lt) Try.underlying40 rfl (size_arr3 _ _ _)) ?_
        repeat (quiet_step (first | (intro _; rfl) | (intro hC; refine (awake_any _).mono ?_; rintro e w' ⟨rfl, hb⟩; exact ⟨rfl, bthen hC hb hC.size⟩) | (intro hC; refine (tcheck_any n m x y z A es len c _ (HR.out.new (bthen HB.out hC HB.out.size))).mono ?_; rintro e w' ⟨rfl, hb⟩; exact ⟨by rw [HCR.out], bthen hC hb hC.size⟩) | (intro hC; refine (of_any n A len c _).mono ?_; rintro e w' ⟨rfl, hb⟩; exact ⟨rfl, bthen hC hb hC.size⟩) | (intro hC; refine (ris_any n m x y z A es len c _ (HR.out.new (bthen HB.out hC HB.out.size))).mono ?_; rintro e w' ⟨rfl, hb⟩; exact ⟨rfl, bthen hC hb hC.size⟩)))
        refine wpQuiet_load' rfl _ _ rfl ⟨w.heap.size, 0, none⟩ rfl _ (fun w' hC => load_blk w' (w.heap.size) _ _ _ _ (HG.out.below hC HG.out.lt) Try.underlying24 rfl (by kernel_rfl)) ?_
        repeat (quiet_step (first | (intro _; rfl) | (intro hC; refine (awake_any _).mono ?_; rintro e w' ⟨rfl, hb⟩; exact ⟨rfl, bthen hC hb hC.size⟩) | (intro hC; refine (tcheck_any n m x y z A es len c _ (HR.out.new (bthen HB.out hC HB.out.size))).mono ?_; rintro e w' ⟨rfl, hb⟩; exact ⟨by rw [HCR.out], bthen hC hb hC.size⟩) | (intro hC; refine (of_any n A len c _).mono ?_; rintro e w' ⟨rfl, hb⟩; exact ⟨rfl, bthen hC hb hC.size⟩) | (intro hC; refine (ris_any n m x y z A es len c _ (HR.out.new (bthen HB.out hC HB.out.size))).mono ?_; rintro e w' ⟨rfl, hb⟩; exact ⟨rfl, bthen hC hb hC.size⟩)))
        refine wpQuiet_load' rfl _ _ rfl ⟨w.heap.size + 1 + 1, 0, none⟩ rfl _ (fun w' hC => run_load_int w' _ _ (((HX.out.below hC HX.out.lt).cell 0).trans rfl)) ?_
        repeat (quiet_step (first | (intro _; rfl) | (intro hC; refine (awake_any _).mono ?_; rintro e w' ⟨rfl, hb⟩; exact ⟨rfl, bthen hC hb hC.size⟩) | (intro hC; refine (tcheck_any n m x y z A es len c _ (HR.out.new (bthen HB.out hC HB.out.size))).mono ?_; rintro e w' ⟨rfl, hb⟩; exact ⟨by rw [HCR.out], bthen hC hb hC.size⟩) | (intro hC; refine (of_any n A len c _).mono ?_; rintro e w' ⟨rfl, hb⟩; exact ⟨rfl, bthen hC hb hC.size⟩) | (intro hC; refine (ris_any n m x y z A es len c _ (HR.out.new (bthen HB.out hC HB.out.size))).mono ?_; rintro e w' ⟨rfl, hb⟩; exact ⟨rfl, bthen hC hb hC.size⟩)))
        refine wpQuiet_load' rfl _ _ rfl ⟨w.heap.size + 1 + 1, 1, none⟩ rfl _ (fun w' hC => run_load_int w' _ _ (((HX.out.below hC HX.out.lt).cell 1).trans rfl)) ?_
        repeat (quiet_step (first | (intro _; rfl) | (intro hC; refine (awake_any _).mono ?_; rintro e w' ⟨rfl, hb⟩; exact ⟨rfl, bthen hC hb hC.size⟩) | (intro hC; refine (tcheck_any n m x y z A es len c _ (HR.out.new (bthen HB.out hC HB.out.size))).mono ?_; rintro e w' ⟨rfl, hb⟩; exact ⟨by rw [HCR.out], bthen hC hb hC.size⟩) | (intro hC; refine (of_any n A len c _).mono ?_; rintro e w' ⟨rfl, hb⟩; exact ⟨rfl, bthen hC hb hC.size⟩) | (intro hC; refine (ris_any n m x y z A es len c _ (HR.out.new (bthen HB.out hC HB.out.size))).mono ?_; rintro e w' ⟨rfl, hb⟩; exact ⟨rfl, bthen hC hb hC.size⟩)))
        refine wpQuiet_load' rfl _ _ rfl ⟨w.heap.size + 1 + 1, 2, none⟩ rfl _ (fun w' hC => run_load_int w' _ _ (((HX.out.below hC HX.out.lt).cell 2).trans rfl)) ?_
        repeat (quiet_step (first | (intro _; rfl) | (intro hC; refine (awake_any _).mono ?_; rintro e w' ⟨rfl, hb⟩; exact ⟨rfl, bthen hC hb hC.size⟩) | (intro hC; refine (tcheck_any n m x y z A es len c _ (HR.out.new (bthen HB.out hC HB.out.size))).mono ?_; rintro e w' ⟨rfl, hb⟩; exact ⟨by rw [HCR.out], bthen hC hb hC.size⟩) | (intro hC; refine (of_any n A len c _).mono ?_; rintro e w' ⟨rfl, hb⟩; exact ⟨rfl, bthen hC hb hC.size⟩) | (intro hC; refine (ris_any n m x y z A es len c _ (HR.out.new (bthen HB.out hC HB.out.size))).mono ?_; rintro e w' ⟨rfl, hb⟩; exact ⟨rfl, bthen hC hb hC.size⟩)))
        refine wpQuiet_nil ?_
        intro w9 hb
        have HB9 := Lib.hid (bthen HB.out hb HB.out.size); clear hb
        go_wp2_with fail
        go_ret
        exact ⟨rfl, HB9.out⟩

theorem trioFinds_walk (n : Int) (A : Option Addr) (es : List Nat) (len c : Nat) (v x y z : Int) (w : World) (hr : Es w w.heap.size A len es) (_ : -9223372036854775808 ≤ n ∧ n ≤ 9223372036854775807) (_ : len ≤ c) (_ : -9223372036854775808 ≤ v ∧ v ≤ 9223372036854775807) (hx : -128 ≤ x ∧ x ≤ 127) (hy : -128 ≤ y ∧ y ≤ 127) (hz : -128 ≤ z ∧ z ≤ 127) :
    Calls Try.prog 4 #[.agg #[.int .i64 n, .slice A len c], .int .i64 v, .agg #[.int .i8 x, .int .i8 y, .int .i8 z]] w fun e w' => e = .returned (.bool true) ∧ Below w.heap.size w w' := by
  by_cases h : 70 < len ∨ 12 < n
  · exact finds_far n v x y z A len c w hr.le h
  cases hv : validB n es v with
  | false => exact finds_bad n v x y z A es len c w hr (by omega) (by omega) hx hy hz hv
  | true =>
    obtain ⟨hg, h0, hvn⟩ := of_decide_eq_true hv
    obtain ⟨n, rfl⟩ := Int.eq_ofNat_of_zero_le (checkCode_zero hg).1
    obtain ⟨m, rfl⟩ := Int.eq_ofNat_of_zero_le h0
    cases hl : rtrios es m with
    | nil => exact finds_ok n m x y z A es len c w hr (by omega) (by omega) hx hy hz hv [] hl.symm false (0, 0, 0) (.inl ⟨rfl, rfl, rfl⟩)
    | cons t r => exact finds_ok n m x y z A es len c w hr (by omega) (by omega) hx hy hz hv (t :: r) hl.symm true t (.inr ⟨rfl, r, rfl⟩)
end Go.Proofs.Ytdagdamliggfmaa
