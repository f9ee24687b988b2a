/-
  The walk of TrioDecides.
-/
import Derived.Test.YtdagdamliggfmaaBags
import Derived.Test.YtdagdamliggfmaaIns
import Derived.Test.YtdagdamliggfmaaRegG
import Derived.Test.YtdagdamliggfmaaFill
import Derived.Test.YtdagdamliggfmaaAwake
namespace Go.Proofs.Ytdagdamliggfmaa
open Go.RowKit
set_option linter.unusedSimpArgs false
set_option linter.unusedVariables false

/-- One vertex alone: no bit but the lowest. -/
theorem single_bit {K k : Nat} (hk : K.testBit k = false) : (K ||| 2 ^ k) &&& ((K ||| 2 ^ k) - 1) = 0 ↔ K = 0 := by
  have h0 : K ||| 2 ^ k ≠ 0 := fun h => by
    have : (K ||| 2 ^ k).testBit k = true := by rw [Nat.testBit_or, Nat.testBit_two_pow_self, Bool.or_true]
    rw [h] at this; simp at this
  obtain ⟨v, hv, hl⟩ := low_bit h0
  have hp := low_pred hv hl
  have both : ∀ u, ((K ||| 2 ^ k) &&& ((K ||| 2 ^ k) - 1)).testBit u = true ↔ (K ||| 2 ^ k).testBit u = true ∧ u ≠ v := by
    intro u
    rw [Nat.testBit_and, hp, Bool.and_eq_true]
    constructor
    · rintro ⟨h1, h2⟩
      refine ⟨h1, ?_⟩
      rintro rfl
      simp at h2
    · rintro ⟨h1, h2⟩
      refine ⟨h1, ?_⟩
      by_cases h3 : u < v
      · rw [if_pos h3]
      · rw [if_neg h3, if_neg h2]; exact h1
  constructor
  · intro h
    refine zero_of_bits fun u => ?_
    cases hu : K.testBit u with
    | false => rfl
    | true =>
      have huk : u ≠ k := by rintro rfl; rw [hk] at hu; cases hu
      have b1 : (K ||| 2 ^ k).testBit u = true := by rw [Nat.testBit_or, hu]; rfl
      have b2 : (K ||| 2 ^ k).testBit k = true := by rw [Nat.testBit_or, Nat.testBit_two_pow_self, Bool.or_true]
      by_cases huv : u = v
      · have := (both k).2 ⟨b2, fun e => huk (huv.trans e.symm)⟩
        rw [h] at this; simp at this
      · have := (both u).2 ⟨b1, huv⟩
        rw [h] at this; simp at this
  · rintro rfl
    refine zero_of_bits fun u => ?_
    cases hu : ((0 ||| 2 ^ k) &&& ((0 ||| 2 ^ k) - 1)).testBit u with
    | false => rfl
    | true =>
      obtain ⟨h1, h2⟩ := (both u).1 hu
      rw [Nat.zero_or, Nat.testBit_two_pow] at h1 hv
      have e1 : k = u := by simpa using h1
      have e2 : k = v := by simpa using hv
      exact absurd (e1.symm.trans e2) h2
theorem holds_iff {n : Nat} {es : List Nat} {S : Nat} (hn : n ≤ 32) (hb : ∀ e ∈ es, e < 2 ^ n) (hS : S < 2 ^ 32) : es.any (holdsB S) = true ↔ ∃ e ∈ es, sub S e := by
  rw [List.any_eq_true]
  constructor
  · rintro ⟨e, he, h⟩
    exact ⟨e, he, sub_of_andn hS (lt32_of hn hb e he) (of_decide_eq_true h)⟩
  · rintro ⟨e, he, h⟩
    exact ⟨e, he, decide_eq_true (andn_of_sub hS (lt32_of hn hb e he) h)⟩
section
variable {o : Oper} {a : Act} {w : World} {t : Tmp}
theorem load_bag {g : Nat} {x y z : Value} {T : TypeId} (hT : T = 59) (ho : o.op = .load T (.tmp t)) (ht : tv a t = .pointer (some ⟨g, 0, none⟩)) (h : Blk w g 59 #[x, y, z]) : gives Try.prog o a.eval w (fun v w' => v = .agg #[x, y, z] ∧ Below w.heap.size w w') := by
  subst hT
  exact gives_load_blk 59 (.tmp t) ho g 59 _ _ ht h Try.underlying59 rfl (by kernel_rfl) ⟨rfl, Below.refl _ _⟩
theorem sub1_u32 {S : Nat} {T T2 : TypeId} (h1 : 1 ≤ S) (h2 : S < 4294967296) (ho : o.op = .binOp .sub T (.tmp t) (.const (.int .u32 1)) T2) (h : tv a t = .int .u32 (S : Int)) : gives Try.prog o a.eval w (fun v w' => v = .int .u32 ((S - 1 : Nat) : Int) ∧ Below w.heap.size w w') := by
  refine gives_val (.int .u32 ((S - 1 : Nat) : Int)) ?_ ⟨rfl, Below.refl _ _⟩
  obtain ⟨k, rfl⟩ : ∃ k, S = k + 1 := ⟨S - 1, by omega⟩
  have e : ((k + 1 : Nat) : Int) - 1 = (k : Int) := by omega
  have e2 : (k : Int) % 4294967296 = (k : Int) := by omega
  unfold execOp
  rw [ho]
  simp only [eval_tmp, eval_const, h, Nat.add_sub_cancel]
  generalize ((k + 1 : Nat) : Int) = q at *
  go_simp
  first | (rw [e, e2]) | (show IntKind.u32.wrap (k : Int) = (k : Int); simp [IntKind.wrap, IntKind.bits, IntKind.signed]; omega)
theorem and_u32 {u : Tmp} {x y : Nat} {T T2 : TypeId} (hx : x < 2 ^ 32) (hy : y < 2 ^ 32) (ho : o.op = .binOp .and T (.tmp t) (.tmp u) T2) (h : tv a t = .int .u32 (x : Int)) (h2 : tv a u = .int .u32 (y : Int)) : gives Try.prog o a.eval w (fun v w' => v = .int .u32 ((x &&& y : Nat) : Int) ∧ Below w.heap.size w w') := by
  refine gives_val (.int .u32 ((x &&& y : Nat) : Int)) ?_ ⟨rfl, Below.refl _ _⟩
  have e := bits_and x y hx hy
  unfold execOp
  rw [ho]
  simp only [eval_tmp, h, h2]
  go_simp
end
section
variable (n : Int) (A : Option Addr) (es : List Nat) (len c : Nat) (w : World)
set_option maxHeartbeats 2000000 in
theorem decides_far (hr : Es w w.heap.size A len es) (h : fewB n es = false) : Calls Try.prog 8 #[.agg #[.int .i64 n, .slice A len c]] w fun e w' => e = .returned (.bool true) ∧ Below w.heap.size w w' := by
  have HF := Lib.hid h; clear h
  have HR := Lib.hid (hr.new (al w (.cells #[.int .i64 n, .slice A len c] 24))); clear hr
  have HW := Lib.hid (al w (.cells #[.int .i64 n, .slice A len c] 24))
  go_enter Try.func8, Try.ntmps8
  go_wp2_with fail
  refine (few_any n A es len c _ HR.out).mono ?_
  rintro e w1 ⟨rfl, hb⟩
  rw [HF.out]
  replace HW := Lib.hid (bthen HW.out hb HW.out.size); clear hb
  go_wp2_with fail
  refine (awake_any _).mono ?_
  rintro e w2 ⟨rfl, hb⟩
  replace HW := Lib.hid (bthen HW.out hb HW.out.size); clear hb
  go_wp2_with fail
  go_ret
  exact ⟨rfl, HW.out⟩
end
set_option maxRecDepth 100000 in
set_option maxHeartbeats 8000000 in
theorem decides_near (n : Nat) (A : Option Addr) (es : List Nat) (len c : Nat) (w : World) (hr : Es w w.heap.size A len es) (h : fewB n es = true) (hn : n ≤ 6) :
    Calls Try.prog 8 #[.agg #[.int .i64 n, .slice A len c]] w fun e w' => e = .returned (.bool true) ∧ Below w.heap.size w w' := by
  have hcc := (of_decide_eq_true h).2.2.2
  have HCC := Lib.hid hcc; clear hcc
  have HF := Lib.hid h; clear h
  have HG := Lib.hid (GB.made w 24 (.int .i64 n) (.slice A len c))
  have HR := Lib.hid (hr.new (al w (.cells #[.int .i64 n, .slice A len c] 24))); clear hr
  have HW := Lib.hid (al w (.cells #[.int .i64 n, .slice A len c] 24))
  go_enter Try.func8, Try.ntmps8
  go_wp2_with fail
  refine (few_any n A es len c _ HR.out).mono ?_
  rintro e w1 ⟨rfl, hb⟩
  rw [HF.out]
  replace HG := Lib.hid (HG.out.new hb); replace HR := Lib.hid (HR.out.new hb); replace HW := Lib.hid (bthen HW.out hb HW.out.size); clear hb HF
  have g0 := HG.out.c0; have g1 := HG.out.c1
  go_wp2_with fail
  refine (acyclic_ok n A es len c _ HR.out HCC.out).mono ?_
  rintro e w2 ⟨b, hbq, rfl, hb⟩
  replace HG := Lib.hid (HG.out.new hb); replace HR := Lib.hid (HR.out.new hb); replace HW := Lib.hid (bthen HW.out hb HW.out.size); clear hb g0 g1
  have HBQ := Lib.hid hbq; clear hbq
  cases b with
  | false =>
    go_wp2_with fail
    refine (awake_any _).mono ?_
    rintro e w3 ⟨rfl, hb⟩
    replace HW := Lib.hid (bthen HW.out hb HW.out.size); clear hb
    go_wp2_with fail
    go_ret
    exact ⟨rfl, HW.out⟩
  | true =>
    have HACY := Lib.hid (HBQ.out.1 rfl)
    obtain ⟨_, _, hl64, hes⟩ := checkCode_zero HCC.out
    have HES := Lib.hid (show ∀ e ∈ es, e < 2 ^ n by simpa using hes)
    clear hl64 hes HBQ
    have g0 := HG.out.c0; have g1 := HG.out.c1; have lg := HG.out.lt
    go_wp2_with fail
    clear g0 g1 lg
    refine (bags_any n A es len c _ HR.out HCC.out).mono ?_
    rintro e w3 ⟨gb, cs, rfl, hB, hsz, hk, hb⟩
    replace HG := Lib.hid (HG.out.new hb); replace HR := Lib.hid (HR.out.new hb); replace HW := Lib.hid (bthen HW.out hb HW.out.size); clear hb
    obtain ⟨K, PP, hKP⟩ : ∃ (K : Nat → Nat) (PP : Nat → Int), ∀ v, v < n → cs[v * 3]? = some (.int .i64 (v : Int)) ∧ cs[v * 3 + 1]? = some (.int .u32 (K v : Nat)) ∧ cs[v * 3 + 2]? = some (.int .i64 (PP v)) ∧ Key n es v (K v) :=
      ⟨fun v => if h : v < n then (hk v h).choose else 0, fun v => if h : v < n then (hk v h).choose_spec.choose else 0, fun v hv => by simp only [dif_pos hv]; exact (hk v hv).choose_spec.choose_spec⟩
    have HKP := Lib.hid hKP; have HB := Lib.hid hB
    have HDEC := Lib.hid (bags_decide (by omega) HES.out HACY.out K (fun v hv => (hKP v hv).2.2.2))
    clear hB hsz hk hKP
    go_wp2_with fail
    go_loopw [5, 30] (fun bv iv wr => ∃ (k : Nat) (b : Bool), iv = .int .i64 k ∧ k ≤ n ∧ bv = .bool b ∧ Hid ((b = true ↔ ∀ v, v < k → (∃ e ∈ es, sub (K v ||| 2 ^ v) e) ∨ K v = 0) ∧ Below w3.heap.size w3 wr)) (fun _ iv _ => n - (intOf iv).toNat)
    case atStart => exact ⟨0, true, rfl, Nat.zero_le _, rfl, Lib.hid ⟨by simp, Below.refl _ _⟩⟩
    case round =>
      obtain ⟨k, b, rfl, hkn, rfl, HJ⟩ := hrel
      by_cases hlt : k < n
      · obtain ⟨q0, q1, q2, hkey⟩ := HKP.out k hlt
        have hB2 := HB.out.below HJ.out.2 HB.out.lt
        have c0 : wr.cell? ⟨gb, k * 3, none⟩ = some (.int .i64 (k : Int)) := by rw [hB2.cell]; exact q0
        have c1 : wr.cell? ⟨gb, k * 3 + 1, none⟩ = some (.int .u32 (K k : Int)) := by rw [hB2.cell]; exact q1
        have c2 : wr.cell? ⟨gb, k * 3 + 2, none⟩ = some (.int .i64 (PP k)) := by rw [hB2.cell]; exact q2
        have lB := hB2.lt
        have HKEY := Lib.hid hkey
        have hK32 : K k < 2 ^ 32 := Nat.lt_of_lt_of_le hkey.lt (two_pow_le (by omega))
        have hS32 : K k ||| 2 ^ k < 2 ^ 32 := Nat.or_lt_two_pow (n := 32) hK32 (pow2_lt32 (by omega))
        have HSB := Lib.hid (single_bit hkey.self)
        have HHI := Lib.hid (holds_iff (by omega) HES.out hS32)
        have HGOOD := Lib.hid (show (∀ v, v < k + 1 → (∃ e ∈ es, sub (K v ||| 2 ^ v) e) ∨ K v = 0) ↔ (∀ v, v < k → (∃ e ∈ es, sub (K v ||| 2 ^ v) e) ∨ K v = 0) ∧ ((∃ e ∈ es, sub (K k ||| 2 ^ k) e) ∨ K k = 0) from ⟨fun h => ⟨fun v hv => h v (by omega), h k (by omega)⟩, fun ⟨h1, h2⟩ v hv => by
          by_cases hvk : v = k
          · subst hvk; exact h2
          · exact h1 v (by omega)⟩)
        have hS1 : 1 ≤ K k ||| 2 ^ k := by
          rcases Nat.eq_zero_or_pos (K k ||| 2 ^ k) with h9 | h9
          · have : (K k ||| 2 ^ k).testBit k = true := by rw [Nat.testBit_or, Nat.testBit_two_pow_self, Bool.or_true]
            rw [h9] at this; simp at this
          · exact h9
        clear q0 q1 q2 hkey hB2
        obtain ⟨K1, hK1⟩ : ∃ x, x = K k := ⟨_, rfl⟩
        obtain ⟨S1, hS⟩ : ∃ x, x = K1 ||| 2 ^ k := ⟨_, rfl⟩
        rw [← hK1] at c1 HKEY hK32 HSB HHI HGOOD hS32 hS1
        rw [← hS] at HSB HHI HGOOD hS32 hS1
        have HS := Lib.hid hS
        generalize PP k = p1 at *
        clear hK1 hS
        go_upto_region 8 with (fail)
        have hb := al wr (.cells #[.int .i64 (k : Int), .int .u32 (K1 : Int), .int .i64 p1] 59)
        have hT := Blk.new wr 59 #[.int .i64 (k : Int), .int .u32 (K1 : Int), .int .i64 p1]
        obtain ⟨g7, h7⟩ : ∃ g, g = wr.heap.size := ⟨_, rfl⟩
        rw [← h7] at hT
        have HBL := Lib.hid (bthen HJ.out.2 hb HJ.out.2.size)
        rw [← h7]
        generalize wr.alloc (.cells #[.int .i64 (k : Int), .int .u32 (K1 : Int), .int .i64 p1] 59) = wa at hb hT HBL ⊢
        have HT := Lib.hid hT
        clear hT hb h7 c0 c1 c2 lB
        have HG' := Lib.hid (HG.out.new HBL.out); have HR' := Lib.hid (HR.out.new HBL.out)
        have CS := Lib.hid (show ∀ W, Below wa.heap.size wa W → Calls Try.prog 31 #[.agg #[.int .i64 (k : Int), .int .u32 (K1 : Int), .int .i64 p1]] W fun e w' => e = .returned (.int .u32 (S1 : Int)) ∧ Below W.heap.size W w' from fun W _ => by rw [HS.out]; exact set_any k K1 p1 (by omega) hK32 W)
        obtain ⟨inB, hinB⟩ : ∃ x, x = es.any (holdsB S1) := ⟨_, rfl⟩
        have CI := Lib.hid (show ∀ W, Below wa.heap.size wa W → Calls Try.prog 30 #[.agg #[.int .i64 n, .slice A len c], .int .u32 (S1 : Int)] W fun e w' => e = .returned (.tuple #[.int .i64 (max (firstAt (holdsB S1) es) 0), .bool inB]) ∧ Below W.heap.size W w' from fun W hb => by rw [hinB]; exact inside_ok n S1 A es len c W (HR'.out.new hb) HCC.out hS32)
        rw [← hinB] at HHI
        clear hinB
        generalize max (firstAt (holdsB S1) es) 0 = m1 at *
        refine wp_region_each (kss := [[], [], [(1, 36)], [(0, 35), (2, 37)], [(3, 38)], [(4, 34)], [(4, 34)], [(5, 39)], [(6, 40)]]) [(1, .pointer (some ⟨w.heap.size, 0, none⟩)), (7, .pointer (some ⟨g7, 0, none⟩))] [fun zz _ => zz = .agg #[.int .i64 ((n : Int)), .slice A len c], fun zz _ => zz = .agg #[.int .i64 ((k : Int)), .int .u32 ((K1 : Int)), .int .i64 p1], fun zz _ => zz = .int .u32 ((S1 : Int)), fun zz _ => zz = .tuple #[.int .i64 m1, .bool inB], fun zz _ => zz = .tuple #[.int .i64 m1, .bool inB], fun zz _ => zz = .int .i64 m1, fun zz _ => zz = .bool inB, fun zz _ => zz = .int .i64 m1, fun zz _ => zz = .bool inB] (by kernel_rfl) (by kernel_rfl) ⟨rfl, rfl, trivial⟩ ?_ ?_ ?_
        · exact ⟨fun _ _ _ h _ => h, fun _ _ _ h _ => h, fun _ _ _ h _ => h, fun _ _ _ h _ => h, fun _ _ _ h _ => h, fun _ _ _ h _ => h, fun _ _ _ h _ => h, fun _ _ _ h _ => h, fun _ _ _ h _ => h, trivial⟩
        · refine ⟨?_, ?_, ?_, ?_, ?_, ?_, ?_, ?_, ?_, trivial⟩
          · exact fun aa ww hb he hd => ob_plain rfl (load_gr rfl rfl he.1 (GB.new HG'.out hb))
          · exact fun aa ww hb he hd => ob_plain rfl (load_bag rfl rfl he.2.1 (HT.out.below (hb) HT.out.lt))
          · exact fun aa ww hb he hd => ob_plain rfl (gives_call1 _ _ _ rfl (by kernel_rfl) (by rw [show aa.eval (.tmp 36) = .agg #[.int .i64 ((k : Int)), .int .u32 ((K1 : Int)), .int .i64 p1] from hd.1]; exact rv_one (CS.out _ hb)))
          · exact fun aa ww hb he hd => ob_plain rfl (gives_call2 _ _ _ _ rfl (by kernel_rfl) (by rw [show aa.eval (.tmp 35) = .agg #[.int .i64 ((n : Int)), .slice A len c] from hd.1, show aa.eval (.tmp 37) = .int .u32 ((S1 : Int)) from hd.2.1]; exact rv_one (CI.out _ hb)))
          · exact fun aa ww hb he hd => ob_plain rfl (gives_move _ rfl ⟨hd.1, Below.refl _ _⟩)
          · exact fun aa ww hb he hd => ob_plain rfl (ext_c rfl hd.1 rfl)
          · exact fun aa ww hb he hd => ob_plain rfl (ext_c rfl hd.1 rfl)
          · exact fun aa ww hb he hd => ob_plain rfl (gives_assign _ rfl ⟨hd.1, Below.refl _ _⟩)
          · exact fun aa ww hb he hd => ob_plain rfl (gives_assign _ rfl ⟨hd.1, Below.refl _ _⟩)
        intro vs wb hb hR
        have e34 : vs 4 = .tuple #[.int .i64 m1, .bool inB] := hR 4 (by decide)
        have e39 : vs 5 = .int .i64 m1 := hR 5 (by decide)
        have e40 : vs 6 = .bool inB := hR 6 (by decide)
        have e8 : vs 7 = .int .i64 m1 := hR 7 (by decide)
        have e9 : vs 8 = .bool inB := hR 8 (by decide)
        clear hR
        simp only [putsL, Nat.zero_add, Nat.reduceAdd, List.take_succ_cons, List.take_zero, Act.put, List.setIfInBounds_toArray, List.set_cons_zero, List.set_cons_succ]
        rw [e34, e39, e40, e8, e9]
        clear e34 e39 e40 e8 e9
        have HB3 := Lib.hid (bthen HBL.out hb HBL.out.size)
        replace HT := Lib.hid (HT.out.below hb HT.out.lt)
        replace CS := Lib.hid (fun W (h9 : Below wb.heap.size wb W) => CS.out W (bthen hb h9 hb.size))
        clear hb CI
        go_wp2_with fail
        cases b with
        | false =>
          refine wp_region_join (kss := [[], [(0, 41)], [(1, 42)], [(1, 42), (2, 43)], [(3, 44)], [(3, 44), (4, 45)], [(3, 44)], [(3, 44), (6, 47)], [(3, 44), (7, 48)], [(3, 44), (5, 46), (8, 49)], [(3, 44), (9, 50)], [(1, 42), (3, 44), (10, 51)], [(1, 42), (11, 52)]]) [(5, .bool false), (9, .bool inB), (7, .pointer (some ⟨g7, 0, none⟩))] [fun zz _ => zz = .bool false, fun zz _ => zz = .bool false, fun zz _ => zz = undef, fun zz _ => zz = undef, fun zz _ => zz = undef, fun zz _ => zz = undef, fun zz _ => zz = undef, fun zz _ => zz = undef, fun zz _ => zz = undef, fun zz _ => zz = undef, fun zz _ => zz = undef, fun zz _ => zz = undef, fun zz _ => zz = .bool false] 13 [] (by kernel_rfl) (by kernel_rfl) ⟨rfl, rfl, rfl, trivial⟩ [false, false, false, false, false, false, false, false, false, false, false, false, false] ?_ ?_ ?_ ?_
          · exact fun i hi => absurd hi (by simp)
          · exact ⟨fun _ _ _ h _ => h, fun _ _ _ h _ => h, fun _ _ _ h _ => h, fun _ _ _ h _ => h, fun _ _ _ h _ => h, fun _ _ _ h _ => h, fun _ _ _ h _ => h, fun _ _ _ h _ => h, fun _ _ _ h _ => h, fun _ _ _ h _ => h, fun _ _ _ h _ => h, fun _ _ _ h _ => h, fun _ _ _ h _ => h, trivial⟩
          · refine ⟨?_, ?_, ?_, ?_, ?_, ?_, ?_, ?_, ?_, ?_, ?_, ?_, ?_, trivial⟩
            · exact fun aa ww hb he hd => ob_plain rfl (gives_move _ rfl ⟨he.1, Below.refl _ _⟩)
            · exact fun aa ww hb he hd => ob_plain rfl (gives_move _ rfl ⟨hd.1, Below.refl _ _⟩)
            · exact fun aa ww hb he hd => ob_off 42 rfl (by kernel_rfl) hd.1 rfl
            · exact fun aa ww hb he hd => ob_off 42 rfl (by kernel_rfl) hd.1 rfl
            · exact fun aa ww hb he hd => ob_undef 44 rfl (by kernel_rfl) hd.1 rfl
            · exact fun aa ww hb he hd => ob_undef 44 rfl (by kernel_rfl) hd.1 rfl
            · exact fun aa ww hb he hd => ob_undef 44 rfl (by kernel_rfl) hd.1 rfl
            · exact fun aa ww hb he hd => ob_undef 44 rfl (by kernel_rfl) hd.1 rfl
            · exact fun aa ww hb he hd => ob_undef 44 rfl (by kernel_rfl) hd.1 rfl
            · exact fun aa ww hb he hd => ob_undef 44 rfl (by kernel_rfl) hd.1 rfl
            · exact fun aa ww hb he hd => ob_undef 44 rfl (by kernel_rfl) hd.1 rfl
            · exact fun aa ww hb he hd => ob_off 42 rfl (by kernel_rfl) hd.1 rfl
            · exact fun aa ww hb he hd => ob_plain rfl (gives_pick false _ _ _ rfl hd.1 ⟨rfl, Below.refl _ _⟩)
          intro vs wc hb hR _
          have e53 : vs 12 = .bool false := hR 12 (by decide)
          clear hR
          simp only [putsL, Nat.zero_add, Nat.reduceAdd, List.take_succ_cons, List.take_zero, Act.put, List.setIfInBounds_toArray, List.set_cons_zero, List.set_cons_succ]
          rw [e53]
          clear e53
          show wpAny _ _ _ _ 1 _ _ _
          refine wpAny_next (i := 13) (by kernel_rfl) rfl rfl (wp_assign 5 (.tmp 53) rfl rfl (.bool false) rfl ?_)
          simp only [Act.put, List.setIfInBounds_toArray, List.set_cons_zero, List.set_cons_succ]
          refine wpAny_end (by kernel_rfl) (calm_normal ?_) _
          have HB4 := Lib.hid (bthen HB3.out hb HB3.out.size)
          clear hb
          go_wp2_with fail
          exact ⟨⟨k + 1, false, by go_num, by omega, rfl, Lib.hid ⟨by rw [HGOOD.out, ← HJ.out.1]; simp, HB4.out⟩⟩, by simp [intOf]; omega⟩
        | true =>
          cases inB with
          | true =>
            refine wp_region_join (kss := [[], [(0, 41)], [(1, 42)], [(1, 42), (2, 43)], [(3, 44)], [(3, 44), (4, 45)], [(3, 44)], [(3, 44), (6, 47)], [(3, 44), (7, 48)], [(3, 44), (5, 46), (8, 49)], [(3, 44), (9, 50)], [(1, 42), (3, 44), (10, 51)], [(1, 42), (11, 52)]]) [(5, .bool true), (9, .bool true), (7, .pointer (some ⟨g7, 0, none⟩))] [fun zz _ => zz = .bool true, fun zz _ => zz = .bool true, fun zz _ => zz = .bool true, fun zz _ => zz = .bool true, fun zz _ => zz = undef, fun zz _ => zz = undef, fun zz _ => zz = undef, fun zz _ => zz = undef, fun zz _ => zz = undef, fun zz _ => zz = undef, fun zz _ => zz = undef, fun zz _ => zz = .bool true, fun zz _ => zz = .bool true] 13 [] (by kernel_rfl) (by kernel_rfl) ⟨rfl, rfl, rfl, trivial⟩ [false, false, false, false, false, false, false, false, false, false, false, false, false] ?_ ?_ ?_ ?_
            · exact fun i hi => absurd hi (by simp)
            · exact ⟨fun _ _ _ h _ => h, fun _ _ _ h _ => h, fun _ _ _ h _ => h, fun _ _ _ h _ => h, fun _ _ _ h _ => h, fun _ _ _ h _ => h, fun _ _ _ h _ => h, fun _ _ _ h _ => h, fun _ _ _ h _ => h, fun _ _ _ h _ => h, fun _ _ _ h _ => h, fun _ _ _ h _ => h, fun _ _ _ h _ => h, trivial⟩
            · refine ⟨?_, ?_, ?_, ?_, ?_, ?_, ?_, ?_, ?_, ?_, ?_, ?_, ?_, trivial⟩
              · exact fun aa ww hb he hd => ob_plain rfl (gives_move _ rfl ⟨he.1, Below.refl _ _⟩)
              · exact fun aa ww hb he hd => ob_plain rfl (gives_move _ rfl ⟨hd.1, Below.refl _ _⟩)
              · exact fun aa ww hb he hd => ob_on 42 rfl (by kernel_rfl) hd.1 (gives_move _ rfl ⟨he.2.1, Below.refl _ _⟩)
              · exact fun aa ww hb he hd => ob_on 42 rfl (by kernel_rfl) hd.1 (gives_move _ rfl ⟨hd.2.1, Below.refl _ _⟩)
              · exact fun aa ww hb he hd => ob_off 44 rfl (by kernel_rfl) hd.1 rfl
              · exact fun aa ww hb he hd => ob_off 44 rfl (by kernel_rfl) hd.1 rfl
              · exact fun aa ww hb he hd => ob_off 44 rfl (by kernel_rfl) hd.1 rfl
              · exact fun aa ww hb he hd => ob_off 44 rfl (by kernel_rfl) hd.1 rfl
              · exact fun aa ww hb he hd => ob_off 44 rfl (by kernel_rfl) hd.1 rfl
              · exact fun aa ww hb he hd => ob_off 44 rfl (by kernel_rfl) hd.1 rfl
              · exact fun aa ww hb he hd => ob_off 44 rfl (by kernel_rfl) hd.1 rfl
              · exact fun aa ww hb he hd => ob_on 42 rfl (by kernel_rfl) hd.1 (gives_pick true _ _ _ rfl hd.2.1 ⟨rfl, Below.refl _ _⟩)
              · exact fun aa ww hb he hd => ob_plain rfl (gives_pick true _ _ _ rfl hd.1 ⟨hd.2.1, Below.refl _ _⟩)
            intro vs wc hb hR _
            have e53 : vs 12 = .bool true := hR 12 (by decide)
            clear hR
            simp only [putsL, Nat.zero_add, Nat.reduceAdd, List.take_succ_cons, List.take_zero, Act.put, List.setIfInBounds_toArray, List.set_cons_zero, List.set_cons_succ]
            rw [e53]
            clear e53
            show wpAny _ _ _ _ 1 _ _ _
            refine wpAny_next (i := 13) (by kernel_rfl) rfl rfl (wp_assign 5 (.tmp 53) rfl rfl (.bool true) rfl ?_)
            simp only [Act.put, List.setIfInBounds_toArray, List.set_cons_zero, List.set_cons_succ]
            refine wpAny_end (by kernel_rfl) (calm_normal ?_) _
            have HB4 := Lib.hid (bthen HB3.out hb HB3.out.size)
            clear hb
            go_wp2_with fail
            exact ⟨⟨k + 1, true, by go_num, by omega, rfl, Lib.hid ⟨by rw [HGOOD.out, ← HJ.out.1, ← HHI.out]; simp, HB4.out⟩⟩, by simp [intOf]; omega⟩
          | false =>
            refine wp_region_join (kss := [[], [(0, 41)], [(1, 42)], [(1, 42), (2, 43)], [(3, 44)], [(3, 44), (4, 45)], [(3, 44)], [(3, 44), (6, 47)], [(3, 44), (7, 48)], [(3, 44), (5, 46), (8, 49)], [(3, 44), (9, 50)], [(1, 42), (3, 44), (10, 51)], [(1, 42), (11, 52)]]) [(5, .bool true), (9, .bool false), (7, .pointer (some ⟨g7, 0, none⟩))] [fun zz _ => zz = .bool true, fun zz _ => zz = .bool true, fun zz _ => zz = .bool false, fun zz _ => zz = .bool false, fun zz _ => zz = .agg #[.int .i64 ((k : Int)), .int .u32 ((K1 : Int)), .int .i64 p1], fun zz _ => zz = .int .u32 ((S1 : Int)), fun zz _ => zz = .agg #[.int .i64 ((k : Int)), .int .u32 ((K1 : Int)), .int .i64 p1], fun zz _ => zz = .int .u32 ((S1 : Int)), fun zz _ => zz = .int .u32 (((S1 - 1 : Nat) : Int)), fun zz _ => zz = .int .u32 (((S1 &&& (S1 - 1) : Nat) : Int)), fun zz _ => zz = .bool (decide (K1 = 0)), fun zz _ => zz = .bool (decide (K1 = 0)), fun zz _ => zz = .bool (decide (K1 = 0))] 13 [] (by kernel_rfl) (by kernel_rfl) ⟨rfl, rfl, rfl, trivial⟩ [false, false, false, false, false, false, false, false, false, false, false, false, false] ?_ ?_ ?_ ?_
            · exact fun i hi => absurd hi (by simp)
            · exact ⟨fun _ _ _ h _ => h, fun _ _ _ h _ => h, fun _ _ _ h _ => h, fun _ _ _ h _ => h, fun _ _ _ h _ => h, fun _ _ _ h _ => h, fun _ _ _ h _ => h, fun _ _ _ h _ => h, fun _ _ _ h _ => h, fun _ _ _ h _ => h, fun _ _ _ h _ => h, fun _ _ _ h _ => h, fun _ _ _ h _ => h, trivial⟩
            · refine ⟨?_, ?_, ?_, ?_, ?_, ?_, ?_, ?_, ?_, ?_, ?_, ?_, ?_, trivial⟩
              · exact fun aa ww hb he hd => ob_plain rfl (gives_move _ rfl ⟨he.1, Below.refl _ _⟩)
              · exact fun aa ww hb he hd => ob_plain rfl (gives_move _ rfl ⟨hd.1, Below.refl _ _⟩)
              · exact fun aa ww hb he hd => ob_on 42 rfl (by kernel_rfl) hd.1 (gives_move _ rfl ⟨he.2.1, Below.refl _ _⟩)
              · exact fun aa ww hb he hd => ob_on 42 rfl (by kernel_rfl) hd.1 (gives_move _ rfl ⟨hd.2.1, Below.refl _ _⟩)
              · exact fun aa ww hb he hd => ob_on 44 rfl (by kernel_rfl) hd.1 (load_bag rfl rfl he.2.2.1 (HT.out.below (hb) HT.out.lt))
              · exact fun aa ww hb he hd => ob_on 44 rfl (by kernel_rfl) hd.1 (gives_call1 _ _ _ rfl (by kernel_rfl) (by rw [show aa.eval (.tmp 45) = .agg #[.int .i64 ((k : Int)), .int .u32 ((K1 : Int)), .int .i64 p1] from hd.2.1]; exact rv_one (CS.out _ hb)))
              · exact fun aa ww hb he hd => ob_on 44 rfl (by kernel_rfl) hd.1 (load_bag rfl rfl he.2.2.1 (HT.out.below (hb) HT.out.lt))
              · exact fun aa ww hb he hd => ob_on 44 rfl (by kernel_rfl) hd.1 (gives_call1 _ _ _ rfl (by kernel_rfl) (by rw [show aa.eval (.tmp 47) = .agg #[.int .i64 ((k : Int)), .int .u32 ((K1 : Int)), .int .i64 p1] from hd.2.1]; exact rv_one (CS.out _ hb)))
              · exact fun aa ww hb he hd => ob_on 44 rfl (by kernel_rfl) hd.1 (sub1_u32 hS1 hS32 rfl hd.2.1)
              · exact fun aa ww hb he hd => ob_on 44 rfl (by kernel_rfl) hd.1 (and_u32 hS32 (by omega) rfl hd.2.1 hd.2.2.1)
              · exact fun aa ww hb he hd => ob_on 44 rfl (by kernel_rfl) hd.1 (gives_eq_int _ _ .u32 _ _ _ _ rfl hd.2.1 rfl ⟨congrArg Value.bool (by rw [Bool.eq_iff_iff, beq_iff_eq, decide_eq_true_eq, ← HSB.out]; omega), Below.refl _ _⟩)
              · exact fun aa ww hb he hd => ob_on 42 rfl (by kernel_rfl) hd.1 (gives_pick false _ _ _ rfl hd.2.1 ⟨hd.2.2.1, Below.refl _ _⟩)
              · exact fun aa ww hb he hd => ob_plain rfl (gives_pick true _ _ _ rfl hd.1 ⟨hd.2.1, Below.refl _ _⟩)
            intro vs wc hb hR _
            have e53 : vs 12 = .bool (decide (K1 = 0)) := hR 12 (by decide)
            clear hR
            simp only [putsL, Nat.zero_add, Nat.reduceAdd, List.take_succ_cons, List.take_zero, Act.put, List.setIfInBounds_toArray, List.set_cons_zero, List.set_cons_succ]
            rw [e53]
            clear e53
            show wpAny _ _ _ _ 1 _ _ _
            refine wpAny_next (i := 13) (by kernel_rfl) rfl rfl (wp_assign 5 (.tmp 53) rfl rfl (.bool (decide (K1 = 0))) rfl ?_)
            simp only [Act.put, List.setIfInBounds_toArray, List.set_cons_zero, List.set_cons_succ]
            refine wpAny_end (by kernel_rfl) (calm_normal ?_) _
            have HB4 := Lib.hid (bthen HB3.out hb HB3.out.size)
            clear hb
            go_wp2_with fail
            exact ⟨⟨k + 1, (decide (K1 = 0)), by go_num, by omega, rfl, Lib.hid ⟨by rw [HGOOD.out, ← HJ.out.1, ← HHI.out]; simp, HB4.out⟩⟩, by simp [intOf]; omega⟩
      · obtain rfl : k = n := by omega
        have HBX := Lib.hid (HJ.out.1.trans (HDEC.out.trans (trios_none (by omega) HES.out).symm))
        have HFT := Lib.hid (show (firstTrio k es k).isSome = !b by
          have hv : validB k es k = true := by
            unfold validB
            rw [HCC.out]; simp
          rw [firstTrio, if_pos hv, Int.toNat_natCast]
          have h9 := HBX.out
          cases hq : trios es k with
          | nil => rw [hq] at h9; simp at h9; rw [h9]; rfl
          | cons x l => rw [hq] at h9; simp at h9; rw [h9]; rfl)
        replace HG := Lib.hid (HG.out.new HJ.out.2); replace HR := Lib.hid (HR.out.new HJ.out.2); replace HW := Lib.hid (bthen HW.out HJ.out.2 HW.out.size)
        clear HJ HDEC HKP HB
        have g0 := HG.out.c0; have g1 := HG.out.c1; have lg := HG.out.lt
        go_wp2_with fail
        clear g0 g1 lg
        refine (find_any k k A es len c _ HR.out).mono ?_
        rintro e w5 ⟨rfl, hb⟩
        replace HW := Lib.hid (bthen HW.out hb HW.out.size); clear hb
        rw [HFT.out]
        obtain ⟨x1, x2, x3, hx⟩ := tcells_form (firstTrio k es k)
        rw [hx]
        clear hx
        go_wp2_with fail
        refine (awake_any _).mono ?_
        rintro e w6 ⟨rfl, hb⟩
        replace HW := Lib.hid (bthen (HW.out.alloc HW.out.size _) hb (by simp; exact Nat.le_succ_of_le HW.out.size))
        clear hb
        cases b with
        | false =>
          go_wp2_with fail
          go_ret
          exact ⟨rfl, HW.out⟩
        | true =>
          go_wp2_with fail
          go_ret
          exact ⟨rfl, HW.out⟩
theorem trioDecides_walk (n : Int) (A : Option Addr) (es : List Nat) (len c : Nat) (w : World) (hr : Es w w.heap.size A len es) (hn : -9223372036854775808 ≤ n ∧ n ≤ 9223372036854775807) (_hc : len ≤ c) :
    Calls Try.prog 8 #[.agg #[.int .i64 n, .slice A len c]] w fun e w' => e = .returned (.bool true) ∧ Below w.heap.size w w' := by
  by_cases hf : fewB n es = true
  · have h0 := (of_decide_eq_true hf).1
    have h6 := (of_decide_eq_true hf).2.1
    obtain ⟨k, rfl⟩ := Int.eq_ofNat_of_zero_le h0
    exact decides_near k A es len c w hr hf (by omega)
  · exact decides_far n A es len c w hr (by simpa using hf)
end Go.Proofs.Ytdagdamliggfmaa
