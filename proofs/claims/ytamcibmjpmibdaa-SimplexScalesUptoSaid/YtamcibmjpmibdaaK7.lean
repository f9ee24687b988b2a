/-
The reference of layer 5: gcd, abs, Low; is of the laws.
Operations of regions, met one by one: more kinds (tuples, lengths, bits, fields of boxed graphs).
'a, b := rats(x), rats(y)': the operations of that region.
Rats and the reference's fractions as values; the numbers of a law's array.
The reference of layer 5: Cmp; the law's own of.
Words for RatCounts: a Rat and its fraction, stored; bounds of small fractions.
Operations of regions: an element of a slice, and what is at an address.
Rows of Rats in memory: what keeps them, loads and stores of their elements.
What a make of a row of numbers or bools comes to, over this seat's tables.
-/
import Derived.Test.YtamcibmjpmibdaaK6
import Derived.Test.YtamcibmjpmibdaaK5
import Derived.IntWalk
import Derived.Test.YtamcibmjpmibdaaK1
import Derived.Laws.IdiomCopy
import Derived.Test.YtamcibmjpmibdaaK2
namespace Go.Proofs.Ytamcibmjpmibdaa
open Go.RowKit

set_option maxHeartbeats 2000000 in
theorem rabs_any (z : Int) (h1 : -9223372036854775807 ≤ z) (h2 : z ≤ 9223372036854775807) (w : World) : Calls Try.prog 70 #[.int .i64 z] w fun e w' => e = .returned (.int .i64 (z.natAbs : Int)) ∧ w = w' := by
  by_cases hz : z < 0
  · have tz : decide (z < 0) = true := by simp [hz]
    have e1 : -z = ((z.natAbs : Nat) : Int) := by omega
    go_enter Try.func70, Try.ntmps70
    go_wp2_with fail
    go_ret
    exact ⟨by first | rfl | (rw [e1]; rfl), rfl⟩
  · have tz : decide (z < 0) = false := by simp; omega
    have e1 : z = ((z.natAbs : Nat) : Int) := by omega
    generalize z.natAbs = k at *
    subst e1
    go_enter Try.func70, Try.ntmps70
    go_wp2_with fail
    go_ret
    exact ⟨rfl, rfl⟩

theorem tmod_nat (x y : Nat) : Int.tmod (x : Int) (y : Int) = ((x % y : Nat) : Int) := by rw [Int.tmod_eq_emod_of_nonneg (by omega)]; omega
set_option maxHeartbeats 2000000 in
theorem rgcd_any (a b : Nat) (h1 : a ≤ 9223372036854775807) (h2 : b ≤ 9223372036854775807) (w : World) : Calls Try.prog 82 #[.int .i64 a, .int .i64 b] w fun e w' => e = .returned (.int .i64 (Nat.gcd a b : Int)) ∧ Below w.heap.size w w' := by
  go_enter Try.func82, Try.ntmps82
  go_wp2_with fail
  go_loopw [0, 1] (fun xv yv wr => ∃ x y : Nat, xv = .int .i64 x ∧ yv = .int .i64 y ∧ x ≤ 9223372036854775807 ∧ y ≤ 9223372036854775807 ∧ Hid (Nat.gcd x y = Nat.gcd a b ∧ Below w.heap.size w wr)) (fun _ yv _ => (intOf yv).toNat)
  case atStart => exact ⟨a, b, rfl, rfl, h1, h2, Lib.hid ⟨rfl, Below.refl _ _⟩⟩
  case round =>
    obtain ⟨x, y, rfl, rfl, hx, hy, HJ⟩ := hrel
    by_cases hy0 : y = 0
    · have ty : ((y : Int) != 0) = false := by simp [hy0]
      have HY := Lib.hid hy0; clear hy0
      go_wp2_with fail
      go_ret
      have e1 := HJ.out.1
      rw [HY.out, Nat.gcd_zero_right] at e1
      exact ⟨by rw [← e1]; rfl, HJ.out.2⟩
    · have ty : ((y : Int) != 0) = true := by simp; omega
      have hyp : 0 < y := by omega
      have hml : x % y < y := Nat.mod_lt _ hyp
      have e3 := tmod_nat x y
      go_wp2_with fail
      go_quiet (fail)
      go_wp2_with fail
      refine ⟨⟨y, x % y, by simp, by simp, hy, by omega, Lib.hid ⟨by rw [gcd_next]; exact HJ.out.1, below_drewN HJ.out.2 _⟩⟩, ?_⟩
      simp [intOf]; omega

theorem low_vals (n : Int) (d : Nat) (hd : d ≠ 0) : ((n : Rat) / ((d : Int) : Rat)).num = Int.tdiv n ((Nat.gcd n.natAbs d : Nat) : Int) ∧ (((n : Rat) / ((d : Int) : Rat)).den : Int) = (d : Int) / ((Nat.gcd n.natAbs d : Nat) : Int) := by
  have e : (n : Rat) / ((d : Int) : Rat) = mkRat n d := by rw [Rat.mkRat_eq_div]; rfl
  have hg : (((Nat.gcd n.natAbs d : Nat) : Int)) ∣ n := Int.ofNat_dvd_left.2 (Nat.gcd_dvd_left _ _)
  rw [e, Rat.num_mkRat, Rat.den_mkRat, if_neg hd, if_neg hd, Nat.gcd_comm d]
  refine ⟨(Int.tdiv_eq_ediv_of_dvd hg).symm, ?_⟩
  simp

section
variable {w : World}
set_option maxRecDepth 100000 in
set_option maxHeartbeats 4000000 in
theorem rlow_pos (n : Int) (d : Nat) (h1 : -9223372036854775807 ≤ n) (h2 : n ≤ 9223372036854775807) (h4 : d ≤ 9223372036854775807) (hd : d ≠ 0) : Calls Try.prog 53 #[.int .i64 n, .int .i64 d] w fun e w' => e = .returned (.agg #[.int .i64 ((n : Rat) / ((d : Int) : Rat)).num, .int .i64 (((n : Rat) / ((d : Int) : Rat)).den : Int)]) ∧ Below w.heap.size w w' := by
  have hv := low_vals n d hd
  have td : decide ((d : Int) < 0) = false := by simp
  have hT := GB.made w 58 (.int .i64 0) (.int .i64 0)
  by_cases hn : n = 0
  · have tn : (n == 0) = true := by simp [hn]
    have HV := Lib.hid (show ((n : Rat) / ((d : Int) : Rat)).num = 0 ∧ (((n : Rat) / ((d : Int) : Rat)).den : Int) = 1 by
      rw [hn]
      have : ((0 : Int) : Rat) / ((d : Int) : Rat) = 0 := by rw [Rat.intCast_zero]; grind
      rw [this]; exact ⟨rfl, rfl⟩)
    clear hv
    have r0 := hT.c0; have r1 := hT.c1; have f0 := hT.f0; have f1 := hT.f1
    have T := Lib.hid hT; clear hT hn
    go_enter Try.func53, Try.ntmps53
    go_wp2_with fail
    rw [HV.out.1, HV.out.2]
    refine bodyPost_ret (v := .agg #[.int .i64 0, .int .i64 1]) ?_ rfl ⟨rfl, ?_⟩
    · first | exact results_cell_row Try.results53 _ _ _ _ _ (0, 0) _ rfl (Blk.new w _ _) Try.underlying58 rfl rfl | exact results_cell_row Try.results53 _ _ _ _ _ (0, 0) _ rfl ((T.out.blk.set_ 0 _).set_ 1 _) Try.underlying58 rfl rfl
    · first | exact al w _ | exact ((al w _).setCell (Nat.le_refl _) _).setCell (Nat.le_refl _) _
  · have tn : (n == 0) = false := by simp [hn]
    have HV := Lib.hid hv; clear hv
    have hna : n.natAbs ≤ 9223372036854775807 := by omega
    have HG0 := Lib.hid (show Nat.gcd n.natAbs d ≠ 0 by intro h; exact hn (by have := Nat.eq_zero_of_gcd_eq_zero_left h; omega))
    go_enter Try.func53, Try.ntmps53
    go_wp2_with fail
    have hW := al w (.cells #[.int .i64 0, .int .i64 0] 58)
    generalize w.alloc (.cells #[.int .i64 0, .int .i64 0] 58) = w0 at hT hW ⊢
    have T := Lib.hid hT; have HW := Lib.hid hW; clear hT hW
    refine (rabs_any n h1 h2 _).mono ?_
    rintro e w1 ⟨rfl, rfl⟩
    go_wp2_with fail
    refine (rgcd_any n.natAbs d hna h4 _).mono ?_
    rintro e w2 ⟨rfl, hb⟩
    replace T := Lib.hid (T.out.new hb); replace HW := Lib.hid (bthen HW.out hb HW.out.size)
    clear hb
    have tg : (((Nat.gcd n.natAbs d : Nat) : Int) == 0) = false := by have := HG0.out; simp; omega
    have hgz : ((Nat.gcd n.natAbs d : Nat) : Int) ≠ 0 := by have := HG0.out; omega
    have hg1 : (0 : Int) < ((Nat.gcd n.natAbs d : Nat) : Int) := by omega
    obtain ⟨e1, e2⟩ := HV.out
    generalize ((Nat.gcd n.natAbs d : Nat) : Int) = g at *
    have r0 := T.out.c0; have r1 := T.out.c1; have f0 := T.out.f0; have f1 := T.out.f1
    have b1 : (n.tdiv g).natAbs ≤ n.natAbs := by rw [Int.natAbs_tdiv]; exact Nat.div_le_self _ _
    have b2 : 0 ≤ (d : Int) / g := Int.ediv_nonneg (by omega) (by omega)
    have b3 : (d : Int) / g ≤ d := Int.ediv_le_self _ (by omega)
    have e5 : (d : Int).tdiv g = (d : Int) / g := Int.tdiv_eq_ediv_of_nonneg (by omega)
    have E1 := Lib.hid e1; have E2 := Lib.hid e2
    have i1 : IntKind.i64.wrap (n.tdiv g) = n.tdiv g := IntWalk.i64_in _ (by omega)
    have i2 : IntKind.i64.wrap ((d : Int) / g) = (d : Int) / g := IntWalk.i64_in _ (by omega)
    generalize hq : (d : Int) / g = q at *
    have HQ := Lib.hid hq; clear hq
    clear e1 e2 HV b1 HG0 hna hn
    go_wp2_with fail
    go_region
    all_goals
      go_wp2_with fail
      refine bodyPost_ret (v := .agg #[.int .i64 (n.tdiv g), .int .i64 q]) ?_ rfl ⟨by rw [E1.out, E2.out], ((HW.out.drew).setCell (p := ⟨w.heap.size, 0, none⟩) (Nat.le_refl _) _).setCell (p := ⟨w.heap.size, 1, none⟩) (Nat.le_refl _) _⟩
      exact results_cell_row Try.results53 _ _ _ _ _ (0, 0) _ rfl ((T.out.blk.set_ 0 _).set_ 1 _) Try.underlying58 rfl rfl
set_option maxRecDepth 100000 in
set_option maxHeartbeats 4000000 in
theorem rlow_neg (n : Int) (d : Nat) (h1 : -9223372036854775807 ≤ n) (h2 : n ≤ 9223372036854775807) (h4 : d ≤ 9223372036854775807) (hd : d ≠ 0) : Calls Try.prog 53 #[.int .i64 (-n), .int .i64 (-(d : Int))] w fun e w' => e = .returned (.agg #[.int .i64 ((n : Rat) / ((d : Int) : Rat)).num, .int .i64 (((n : Rat) / ((d : Int) : Rat)).den : Int)]) ∧ Below w.heap.size w w' := by
  have hv := low_vals n d hd
  have td : decide (-(d : Int) < 0) = true := by simp; omega
  have k1 : -(-n) = n := by omega
  have k2 : -(-(d : Int)) = (d : Int) := by omega
  have hT := GB.made w 58 (.int .i64 0) (.int .i64 0)
  by_cases hn : n = 0
  · have tn : (n == 0) = true := by simp [hn]
    have HV := Lib.hid (show ((n : Rat) / ((d : Int) : Rat)).num = 0 ∧ (((n : Rat) / ((d : Int) : Rat)).den : Int) = 1 by
      rw [hn]
      have : ((0 : Int) : Rat) / ((d : Int) : Rat) = 0 := by rw [Rat.intCast_zero]; grind
      rw [this]; exact ⟨rfl, rfl⟩)
    clear hv
    have r0 := hT.c0; have r1 := hT.c1; have f0 := hT.f0; have f1 := hT.f1
    have T := Lib.hid hT; clear hT hn
    go_enter Try.func53, Try.ntmps53
    go_wp2_with fail
    rw [HV.out.1, HV.out.2]
    refine bodyPost_ret (v := .agg #[.int .i64 0, .int .i64 1]) ?_ rfl ⟨rfl, ?_⟩
    · first | exact results_cell_row Try.results53 _ _ _ _ _ (0, 0) _ rfl (Blk.new w _ _) Try.underlying58 rfl rfl | exact results_cell_row Try.results53 _ _ _ _ _ (0, 0) _ rfl ((T.out.blk.set_ 0 _).set_ 1 _) Try.underlying58 rfl rfl
    · first | exact al w _ | exact ((al w _).setCell (Nat.le_refl _) _).setCell (Nat.le_refl _) _
  · have tn : (n == 0) = false := by simp [hn]
    have HV := Lib.hid hv; clear hv
    have hna : n.natAbs ≤ 9223372036854775807 := by omega
    have HG0 := Lib.hid (show Nat.gcd n.natAbs d ≠ 0 by intro h; exact hn (by have := Nat.eq_zero_of_gcd_eq_zero_left h; omega))
    go_enter Try.func53, Try.ntmps53
    go_wp2_with fail
    have hW := al w (.cells #[.int .i64 0, .int .i64 0] 58)
    generalize w.alloc (.cells #[.int .i64 0, .int .i64 0] 58) = w0 at hT hW ⊢
    have T := Lib.hid hT; have HW := Lib.hid hW; clear hT hW
    refine (rabs_any n h1 h2 _).mono ?_
    rintro e w1 ⟨rfl, rfl⟩
    go_wp2_with fail
    refine (rgcd_any n.natAbs d hna h4 _).mono ?_
    rintro e w2 ⟨rfl, hb⟩
    replace T := Lib.hid (T.out.new hb); replace HW := Lib.hid (bthen HW.out hb HW.out.size)
    clear hb
    have tg : (((Nat.gcd n.natAbs d : Nat) : Int) == 0) = false := by have := HG0.out; simp; omega
    have hgz : ((Nat.gcd n.natAbs d : Nat) : Int) ≠ 0 := by have := HG0.out; omega
    have hg1 : (0 : Int) < ((Nat.gcd n.natAbs d : Nat) : Int) := by omega
    obtain ⟨e1, e2⟩ := HV.out
    generalize ((Nat.gcd n.natAbs d : Nat) : Int) = g at *
    have r0 := T.out.c0; have r1 := T.out.c1; have f0 := T.out.f0; have f1 := T.out.f1
    have b1 : (n.tdiv g).natAbs ≤ n.natAbs := by rw [Int.natAbs_tdiv]; exact Nat.div_le_self _ _
    have b2 : 0 ≤ (d : Int) / g := Int.ediv_nonneg (by omega) (by omega)
    have b3 : (d : Int) / g ≤ d := Int.ediv_le_self _ (by omega)
    have e5 : (d : Int).tdiv g = (d : Int) / g := Int.tdiv_eq_ediv_of_nonneg (by omega)
    have E1 := Lib.hid e1; have E2 := Lib.hid e2
    have i1 : IntKind.i64.wrap (n.tdiv g) = n.tdiv g := IntWalk.i64_in _ (by omega)
    have i2 : IntKind.i64.wrap ((d : Int) / g) = (d : Int) / g := IntWalk.i64_in _ (by omega)
    generalize hq : (d : Int) / g = q at *
    have HQ := Lib.hid hq; clear hq
    clear e1 e2 HV b1 HG0 hna hn
    go_wp2_with fail
    go_region
    all_goals
      go_wp2_with fail
      refine bodyPost_ret (v := .agg #[.int .i64 (n.tdiv g), .int .i64 q]) ?_ rfl ⟨by rw [E1.out, E2.out], ((HW.out.drew).setCell (p := ⟨w.heap.size, 0, none⟩) (Nat.le_refl _) _).setCell (p := ⟨w.heap.size, 1, none⟩) (Nat.le_refl _) _⟩
      exact results_cell_row Try.results53 _ _ _ _ _ (0, 0) _ rfl ((T.out.blk.set_ 0 _).set_ 1 _) Try.underlying58 rfl rfl
theorem rlow_any (n d : Int) (h1 : -9223372036854775807 ≤ n) (h2 : n ≤ 9223372036854775807) (h3 : -9223372036854775807 ≤ d) (h4 : d ≤ 9223372036854775807) (hd : d ≠ 0) : Calls Try.prog 53 #[.int .i64 n, .int .i64 d] w fun e w' => e = .returned (.agg #[.int .i64 ((n : Rat) / (d : Rat)).num, .int .i64 (((n : Rat) / (d : Rat)).den : Int)]) ∧ Below w.heap.size w w' := by
  by_cases hp : 0 < d
  · obtain ⟨k, rfl⟩ := Int.eq_ofNat_of_zero_le (show 0 ≤ d by omega)
    exact rlow_pos n k h1 h2 (by omega) (by omega)
  · obtain ⟨k, hk⟩ := Int.eq_ofNat_of_zero_le (show 0 ≤ -d by omega)
    obtain rfl : d = -(k : Int) := by omega
    have h := rlow_neg (w := w) (-n) k (by omega) (by omega) (by omega) (by omega)
    rw [Int.neg_neg] at h
    have e : ((-n : Int) : Rat) / ((k : Int) : Rat) = (n : Rat) / ((-(k : Int) : Int) : Rat) := by
      rw [Rat.intCast_neg, Rat.intCast_neg]; grind
    rw [e] at h
    exact h
end
end Go.Proofs.Ytamcibmjpmibdaa
namespace Go.Proofs.Ytamcibmjpmibdaa
open Go.RowKit

theorem gives_mono {P : Program} {o : Oper} {ρ : Operand → Value} {w : World} {K K' : Value → World → Prop} (h : gives P o ρ w K) (hk : ∀ v w', K v w' → K' v w') : gives P o ρ w K' := by
  unfold gives at *
  generalize (execOp ρ o).run P w = r at *
  cases r with
  | ok x w' =>
    cases x with
    | value v => exact hk _ _ h
    | skip => exact hk _ _ h
    | enter f args => exact h.mono fun e w'' ⟨v, h1, h2⟩ => ⟨v, h1, hk _ _ h2⟩
    | _ => exact h
  | halt x w' => exact h
section
variable {P : Program} {ops : Array Oper} {o : Oper} {a : Act} {w : World}
theorem wpAny_next {Q : Exit → Act → World → Prop} {i fuel : Nat} {listed : Array Bool} (hr : Region.ready .any ops listed = [i]) (ho : ops[i]? = some o) (hg : o.guard = none) (h : o.wp P a w (fun a' w' => wpAny P .any ops Q fuel (listed.setIfInBounds i true) a' w') Q) : wpAny P .any ops Q (fuel + 1) listed a w := by
  refine ⟨fun h0 => absurd (hr.symm.trans h0) (by simp), fun j hj => ?_⟩
  rw [hr] at hj
  simp at hj
  subst hj
  unfold wpOp
  simp only [ho]
  rw [if_pos (by simp [Region.wanted, hg])]
  exact .inl h
theorem wpAny_end {Q : Exit → Act → World → Prop} {listed : Array Bool} (hr : Region.ready .any ops listed = []) (h : Q .normal a w) : ∀ fuel, wpAny P .any ops Q fuel listed a w
  | 0 => ⟨hr, h⟩
  | _ + 1 => ⟨fun _ => h, fun j hj => by rw [hr] at hj; cases hj⟩
end
theorem ob_undef {ops : Array Oper} {o : Oper} {a : Act} {G E : Prop} {g : Nat} {want : Bool} (t : Tmp) (hg : o.guard = some (g, want)) (ht : dstOf ops g = some t) (hv : tv a t = undef) (h : E) : if Region.wanted o (yielded ops a.tmps) = true then G else E := by
  have hy : yielded ops a.tmps g ≠ some want := by
    unfold yielded
    simp only [dstOf] at ht
    rw [ht]
    simp only [tv, Array.getD_eq_getD_getElem?] at hv
    cases h : a.tmps[t]? with
    | none => simp [h]
    | some x => rw [h] at hv; simp at hv; subst hv; simp [h, undef]
  rw [if_neg (by simp [Region.wanted, hg, hy])]; exact h
theorem wpOps_next {P : Program} {ops : Array Oper} {o : Oper} {a : Act} {w : World} {Q : Exit → Act → World → Prop} {i : Nat} {r : List Nat} (ho : ops[i]? = some o) (hg : o.guard = none) (h : o.wp P a w (wpOps P ops Q r) Q) : wpOps P ops Q (i :: r) a w := by
  unfold wpOps
  simp only [ho]
  rw [if_pos (by simp [Region.wanted, hg])]
  exact .inl h
theorem wp_assign {o : Oper} {a : Act} {w : World} {K : Act → World → Prop} {Q : Exit → Act → World → Prop} (t : Tmp) (x : Operand) (ho : o.op = .assign x) (hd : o.dst = some t) (v : Value) (hv : a.eval x = v) (h : K (a.put (some t) v) w) : o.wp Try.prog a w K Q := by
  rw [← hd, ← hv] at h
  unfold Oper.wp execOp
  rw [ho]
  exact h
section
variable {o : Oper} {a : Act} {w : World} {t : Tmp}
theorem ext_c {i : Nat} {vs : Array Value} {x : Value} (ho : o.op = .extract (.tmp t) i) (h : tv a t = .tuple vs) (hx : vs[i]? = some x) : gives Try.prog o a.eval w (fun v w' => v = x ∧ Below w.heap.size w w') := by
  refine gives_val x ?_ ⟨rfl, Below.refl _ _⟩
  unfold execOp
  rw [ho]
  simp only [eval_tmp, h]
  simp [Instr.extract, hx]
theorem len_c {A : Option Addr} {n c : Nat} {T e : TypeId} (hu : Try.prog.underlying T = some (.slice e)) (ho : o.op = .call { callee := .builtin .len, args := #[.tmp t], argTypes := #[T] }) (h : tv a t = .slice A n c) : gives Try.prog o a.eval w (fun v w' => v = .int .i64 (n : Int) ∧ Below w.heap.size w w') := by
  refine gives_val (.int .i64 (n : Int)) ?_ ⟨rfl, Below.refl _ _⟩
  unfold execOp
  rw [ho]
  simp [eval_tmp, h, resolve, invoke, builtin, Builtin.len_, run_underlying hu, goInt]
theorem shr_u32 {u : Tmp} {x k : Nat} {T T2 : TypeId} (hk : k < 32) (ho : o.op = .binOp .shr T (.tmp t) (.tmp u) T2) (h : tv a t = .int .u32 (x : Int)) (h2 : tv a u = .int .i64 (k : Int)) : gives Try.prog o a.eval w (fun v w' => v = .int .u32 ((x : Int) / 2 ^ k) ∧ Below w.heap.size w w') := by
  refine gives_val (.int .u32 ((x : Int) / 2 ^ k)) ?_ ⟨rfl, Below.refl _ _⟩
  have i1 : (0 : Int) ≤ (k : Int) := by omega
  have i2 : (k : Int) < 32 := by omega
  unfold execOp
  rw [ho]
  simp only [eval_tmp, h, h2]
  go_simp
theorem bit_u32 {x k : Nat} {T T2 : TypeId} (hx : x < 2 ^ 32) (ho : o.op = .binOp .and T (.tmp t) (.const (.int .u32 1)) T2) (h : tv a t = .int .u32 ((x : Int) / 2 ^ k)) : gives Try.prog o a.eval w (fun v w' => v = .int .u32 ((if x.testBit k then 1 else 0 : Nat) : Int) ∧ Below w.heap.size w w') := by
  refine gives_val (.int .u32 ((if x.testBit k then 1 else 0 : Nat) : Int)) ?_ ⟨rfl, Below.refl _ _⟩
  have e := bits_and_one x k hx
  unfold execOp
  rw [ho]
  simp only [eval_tmp, eval_const, h]
  go_simp
theorem load_n {p : Addr} {z : Int} (ho : o.op = .load 3 (.tmp t)) (hx : tv a t = .pointer (some p)) (hc : w.cell? p = some (.int .i64 z)) : gives Try.prog o a.eval w (fun u w' => u = .int .i64 z ∧ Below w.heap.size w w') := by
  refine gives_val (.int .i64 z) ?_ ⟨rfl, Below.refl _ _⟩
  unfold execOp; rw [ho]; simp only [eval_tmp, hx]; go_simp
theorem load_es {p : Addr} {u : Value} (ho : o.op = .load 38 (.tmp t)) (hx : tv a t = .pointer (some p)) (hc : w.cell? p = some u) : gives Try.prog o a.eval w (fun v w' => v = u ∧ Below w.heap.size w w') := by
  refine gives_val u ?_ ⟨rfl, Below.refl _ _⟩
  unfold execOp; rw [ho]; simp only [eval_tmp, hx]; go_simp
theorem ne_u32 {u : Tmp} {i j : Int} {T T2 : TypeId} (ho : o.op = .binOp .neq T (.tmp t) (.tmp u) T2) (hx : tv a t = .int .u32 i) (hy : tv a u = .int .u32 j) : gives Try.prog o a.eval w (fun v w' => v = .bool (i != j) ∧ Below w.heap.size w w') :=
  gives_ne_int i j .u32 _ _ _ _ ho hx hy ⟨rfl, Below.refl _ _⟩
end
end Go.Proofs.Ytamcibmjpmibdaa
namespace Go.Proofs.Ytamcibmjpmibdaa
open Go.RowKit

/-- A Rat of value x, in its normal form. -/
def Rv (b : Nat) (x : Rat) (v : Value) (w : World) : Prop := ∃ s A n c B m d, v = .agg #[.bool s, .slice A n c, .slice B m d] ∧ Rn w s A n c B m d b x
/-- A Rat of value x, in any form. -/
def Rw (b : Nat) (x : Rat) (v : Value) (w : World) : Prop := ∃ s A n c B m d, v = .agg #[.bool s, .slice A n c, .slice B m d] ∧ Ra w s A n c B m d b x
/-- A block that holds a Rat of value x. -/
def Bx (b : Nat) (x : Rat) (g : Nat) (w : World) : Prop := ∃ s A n c B m d, TB w g 41 (.bool s) (.slice A n c) (.slice B m d) ∧ Ra w s A n c B m d b x
/-- .. in its normal form. -/
def Bn (b : Nat) (x : Rat) (g : Nat) (w : World) : Prop := ∃ s A n c B m d, TB w g 41 (.bool s) (.slice A n c) (.slice B m d) ∧ Rn w s A n c B m d b x
section
variable {w w' : World} {b b' g : Nat} {x y : Rat} {v v' : Value}
theorem Rv.rw (h : Rv b x v w) : Rw b x v w := by obtain ⟨s, A, n, c, B, m, d, e, h⟩ := h; exact ⟨s, A, n, c, B, m, d, e, h.ra⟩
theorem Rv.new (h : Rv b x v w) (hb : Below w.heap.size w w') : Rv b x v w' := by obtain ⟨s, A, n, c, B, m, d, e, h⟩ := h; exact ⟨s, A, n, c, B, m, d, e, h.new hb⟩
theorem Rw.new (h : Rw b x v w) (hb : Below w.heap.size w w') : Rw b x v w' := by obtain ⟨s, A, n, c, B, m, d, e, h⟩ := h; exact ⟨s, A, n, c, B, m, d, e, h.new hb⟩
theorem Bx.new (h : Bx b x g w) (hb : Below w.heap.size w w') : Bx b x g w' := by obtain ⟨s, A, n, c, B, m, d, h1, h⟩ := h; exact ⟨s, A, n, c, B, m, d, h1.new hb, h.new hb⟩
theorem Bn.new (h : Bn b x g w) (hb : Below w.heap.size w w') : Bn b x g w' := by obtain ⟨s, A, n, c, B, m, d, h1, h⟩ := h; exact ⟨s, A, n, c, B, m, d, h1.new hb, h.new hb⟩
theorem Bx.lt (h : Bx b x g w) : g < w.heap.size := by obtain ⟨s, A, n, c, B, m, d, h1, h⟩ := h; exact h1.lt
theorem Bn.bx (h : Bn b x g w) : Bx b x g w := by obtain ⟨s, A, n, c, B, m, d, h1, h⟩ := h; exact ⟨s, A, n, c, B, m, d, h1, h.ra⟩
theorem add_v (h : Rw b x v w) (h' : Rw b' y v' w) (hb : b + b' ≤ 4900) : Calls Try.prog 77 #[v, v'] w (RV w (Rv (b + b' + 1) (x + y))) := by
  obtain ⟨s, A, n, c, B, m, d, rfl, h⟩ := h
  obtain ⟨s', A', n', c', B', m', d', rfl, h'⟩ := h'
  refine (qadd_any h h' hb).mono ?_
  rintro e w1 ⟨s1, A1, n1, c1, B1, m1, d1, rfl, h1, hb1⟩
  exact ⟨_, rfl, ⟨s1, A1, n1, c1, B1, m1, d1, rfl, h1⟩, hb1⟩
theorem sub_v (h : Rw b x v w) (h' : Rw b' y v' w) (hb : b + b' ≤ 4900) : Calls Try.prog 93 #[v, v'] w (RV w (Rv (b + b' + 1) (x - y))) := by
  obtain ⟨s, A, n, c, B, m, d, rfl, h⟩ := h
  obtain ⟨s', A', n', c', B', m', d', rfl, h'⟩ := h'
  refine (qsub_any h h' hb).mono ?_
  rintro e w1 ⟨s1, A1, n1, c1, B1, m1, d1, rfl, h1, hb1⟩
  exact ⟨_, rfl, ⟨s1, A1, n1, c1, B1, m1, d1, rfl, h1⟩, hb1⟩
theorem mul_v (h : Rw b x v w) (h' : Rw b' y v' w) (hb : b + b' ≤ 4900) : Calls Try.prog 26 #[v, v'] w (RV w (Rv (b + b') (x * y))) := by
  obtain ⟨s, A, n, c, B, m, d, rfl, h⟩ := h
  obtain ⟨s', A', n', c', B', m', d', rfl, h'⟩ := h'
  refine (qmul_any h h' (by omega)).mono ?_
  rintro e w1 ⟨s1, A1, n1, c1, B1, m1, d1, rfl, h1, hb1⟩
  exact ⟨_, rfl, ⟨s1, A1, n1, c1, B1, m1, d1, rfl, h1⟩, hb1⟩
theorem neg_v (h : Rw b x v w) (hb : b ≤ 4900) : Calls Try.prog 24 #[v] w (RV w (Rv b (-x))) := by
  obtain ⟨s, A, n, c, B, m, d, rfl, h⟩ := h
  refine (qneg_any h (by omega)).mono ?_
  rintro e w1 ⟨s1, A1, n1, c1, B1, m1, d1, rfl, h1, hb1⟩
  exact ⟨_, rfl, ⟨s1, A1, n1, c1, B1, m1, d1, rfl, h1⟩, hb1⟩
theorem norm_v (h : Rw b x v w) (hb : b ≤ 4900) : Calls Try.prog 63 #[v] w (RV w (Rv b x)) := by
  obtain ⟨s, A, n, c, B, m, d, rfl, h⟩ := h
  refine (qnorm_any h (by omega)).mono ?_
  rintro e w1 ⟨s1, A1, n1, c1, B1, m1, d1, rfl, h1, hb1⟩
  exact ⟨_, rfl, ⟨s1, A1, n1, c1, B1, m1, d1, rfl, h1⟩, hb1⟩
theorem int_v (z : Int) (h1 : -9223372036854775808 ≤ z) (h2 : z ≤ 9223372036854775807) (w : World) : Calls Try.prog 25 #[.int .i64 z] w (RV w (Rv 2 (z : Rat))) := by
  refine (qint_any z h1 h2).mono ?_
  rintro e w1 ⟨s1, A1, n1, c1, B1, m1, d1, rfl, h1, hb1⟩
  exact ⟨_, rfl, ⟨s1, A1, n1, c1, B1, m1, d1, rfl, h1⟩, hb1⟩
theorem int_w (z : Int) (h1 : -9223372036854775808 ≤ z) (h2 : z ≤ 9223372036854775807) (v : Value) (hv : v = .int .i64 z) (w : World) : Calls Try.prog 25 #[v] w (RV w (Rv 2 (z : Rat))) := by
  subst hv; exact int_v z h1 h2 w
theorem cmp_v (h : Rw b x v w) (h' : Rw b' y v' w) (hb : b + b' ≤ 4900) : Calls Try.prog 17 #[v, v'] w (RV w (fun u _ => u = .int .i64 (rcq x y))) := by
  obtain ⟨s, A, n, c, B, m, d, rfl, h⟩ := h
  obtain ⟨s', A', n', c', B', m', d', rfl, h'⟩ := h'
  exact rv_one (qcmp_any h h' hb)
theorem sign_v (h : Rw b x v w) : Calls Try.prog 44 #[v] w (RV w (fun u _ => u = .int .i64 x.num.sign)) := by
  obtain ⟨s, A, n, c, B, m, d, rfl, h⟩ := h
  exact rv_one (sign_any h)
theorem div_v (h : Rw b x v w) (h' : Rw b' y v' w) (hb : b + b' ≤ 4900) (hy : y ≠ 0) : Calls Try.prog 92 #[v, v'] w (RV w (fun u w1 => ∃ q, u = .tuple #[q, .int .i64 0] ∧ Rv (b + b') (x / y) q w1)) := by
  obtain ⟨s, A, n, c, B, m, d, rfl, h⟩ := h
  obtain ⟨s', A', n', c', B', m', d', rfl, h'⟩ := h'
  refine (qdiv_any h h' (by omega)).mono ?_
  rintro e w1 ⟨-, hd⟩
  obtain ⟨s1, A1, n1, c1, B1, m1, d1, rfl, h1, hb1⟩ := hd hy
  exact ⟨_, rfl, ⟨_, rfl, s1, A1, n1, c1, B1, m1, d1, rfl, h1⟩, hb1⟩
theorem div_0 (h : Rw b x v w) (h' : Rw b' y v' w) (hb : b + b' ≤ 4900) (hy : y = 0) : Calls Try.prog 92 #[v, v'] w (RV w (fun u _ => u = .tuple #[.agg #[.bool false, .slice none 0 0, .slice none 0 0], .int .i64 18])) := by
  obtain ⟨s, A, n, c, B, m, d, rfl, h⟩ := h
  obtain ⟨s', A', n', c', B', m', d', rfl, h'⟩ := h'
  refine (qdiv_any h h' (by omega)).mono ?_
  rintro e w1 ⟨hd, -⟩
  obtain ⟨rfl, hb1⟩ := hd hy
  exact ⟨_, rfl, rfl, hb1⟩
end
/-- A load of a boxed Rat. -/
theorem load_bx {o : Oper} {a : Act} {w : World} {t : Tmp} {b g : Nat} {x : Rat} (ho : o.op = .load 41 (.tmp t)) (ht : tv a t = .pointer (some ⟨g, 0, none⟩)) (h : Bx b x g w) :
    gives Try.prog o a.eval w (fun v w' => Rw b x v w' ∧ Below w.heap.size w w') := by
  obtain ⟨s, A, n, c, B, m, d, h1, h⟩ := h
  exact gives_load_blk 41 (.tmp t) ho g 41 _ _ ht h1 Try.underlying41 rfl (by kernel_rfl) ⟨⟨s, A, n, c, B, m, d, rfl, h⟩, Below.refl _ _⟩
theorem load_bn {o : Oper} {a : Act} {w : World} {t : Tmp} {b g : Nat} {x : Rat} (ho : o.op = .load 41 (.tmp t)) (ht : tv a t = .pointer (some ⟨g, 0, none⟩)) (h : Bn b x g w) :
    gives Try.prog o a.eval w (fun v w' => Rv b x v w' ∧ Below w.heap.size w w') := by
  obtain ⟨s, A, n, c, B, m, d, h1, h⟩ := h
  exact gives_load_blk 41 (.tmp t) ho g 41 _ _ ht h1 Try.underlying41 rfl (by kernel_rfl) ⟨⟨s, A, n, c, B, m, d, rfl, h⟩, Below.refl _ _⟩
theorem call_add : callsB Try.prog 77 = true := by kernel_rfl
theorem call_sub : callsB Try.prog 93 = true := by kernel_rfl
theorem call_mul : callsB Try.prog 26 = true := by kernel_rfl
theorem call_div : callsB Try.prog 92 = true := by kernel_rfl
theorem call_neg : callsB Try.prog 24 = true := by kernel_rfl
theorem call_norm : callsB Try.prog 63 = true := by kernel_rfl
theorem call_int : callsB Try.prog 25 = true := by kernel_rfl
theorem call_cmp : callsB Try.prog 17 = true := by kernel_rfl
theorem call_sign : callsB Try.prog 44 = true := by kernel_rfl
end Go.Proofs.Ytamcibmjpmibdaa
namespace Go.Proofs.Ytamcibmjpmibdaa
open Go.RowKit

/-- A new box for a Rat. -/
def Zx (B g : Nat) (w : World) : Prop := B ≤ g ∧ TB w g 41 (.bool false) (.slice none 0 0) (.slice none 0 0)
def Zb (B : Nat) (v : Value) (w : World) : Prop := ∃ g, v = .pointer (some ⟨g, 0, none⟩) ∧ Zx B g w
theorem Zb.new {B : Nat} {v : Value} {w w' : World} (h : Zb B v w) (hb : Below w.heap.size w w') : Zb B v w' := by
  obtain ⟨g, h1, h2, h3⟩ := h
  exact ⟨g, h1, h2, h3.new hb⟩
theorem alloc_rat {o : Oper} {a : Act} {w0 w : World} (ho : o.op = .alloc 41) (hb : Below w0.heap.size w0 w) : gives Try.prog o a.eval w (fun v w' => (Zb w0.heap.size v w' ∧ Below w.heap.size w w') ∧ Fresh v w w') := by
  have hr : (execOp a.eval o).run Try.prog w = .ok (.value (.pointer (some ⟨w.heap.size, 0, none⟩))) (w.alloc (.cells #[.bool false, .slice none 0 0, .slice none 0 0] 41)) := by
    unfold execOp
    rw [ho]
    go_simp
  unfold gives
  rw [hr]
  exact ⟨⟨⟨_, rfl, hb.size, TB.made _ _ _ _ _⟩, al _ _⟩, _, rfl, Nat.le_refl _, by simp⟩
/-- What a store into a new box keeps. -/
structure Kept (w : World) (g : Nat) (w' : World) : Prop where
  rw : ∀ {b x v}, Rw b x v w → Rw b x v w'
  bx : ∀ {b x g'}, g' ≠ g → Bx b x g' w → Bx b x g' w'
  zx : ∀ {B g'}, g' ≠ g → Zx B g' w → Zx B g' w'
  below : ∀ {B W}, B ≤ g → Below B W w → Below B W w'
  gb : ∀ {g' t y z}, g' ≠ g → GB w g' t y z → GB w' g' t y z
theorem store_rat {o : Oper} {a : Act} {w : World} {t u : Tmp} {B g b : Nat} {x : Rat} {v : Value} {K : Act → World → Prop} {Q : Exit → Act → World → Prop} (ho : o.op = .store 41 (.tmp t) (.tmp u)) (hd : o.dst = none) (ht : a.eval (.tmp t) = .pointer (some ⟨g, 0, none⟩)) (hu : a.eval (.tmp u) = v)
    (hz : Zx B g w) (hv : Rw b x v w) (next : ∀ w', Bx b x g w' → Kept w g w' → K a w') : o.wp Try.prog a w K Q := by
  obtain ⟨s, A, n, c, C, m, d, rfl, h⟩ := hv
  have hT := hz.2
  refine wp_store_mid 41 (.tmp t) (.tmp u) ho g 0 #[.bool s, .slice A n c, .slice C m d] ht hu (fun j hj => ⟨?_, hT.blk.frozen _⟩) (by kernel_rfl) (by simp [Value.oneCell']) ?_
  · rw [hT.blk.cell]
    have : j < 3 := by simpa using hj
    simp [this]
  · rw [hd]
    have e : w.setCells g 0 [.bool s, .slice A n c, .slice C m d] = ((w.setCell ⟨g, 0, none⟩ (.bool s)).setCell ⟨g, 1, none⟩ (.slice A n c)).setCell ⟨g, 2, none⟩ (.slice C m d) := rfl
    show K a (w.setCells g 0 [.bool s, .slice A n c, .slice C m d])
    rw [e]
    refine next _ ⟨s, A, n, c, C, m, d, ((hT.blk.set_ 0 _).set_ 1 _).set_ 2 _, h.store3 hT _ _ _⟩ ⟨?_, ?_, ?_, ?_, ?_⟩
    · rintro b x v ⟨s', A', n', c', B', m', d', rfl, h'⟩
      exact ⟨s', A', n', c', B', m', d', rfl, h'.store3 hT _ _ _⟩
    · rintro b x g' hne ⟨s', A', n', c', B', m', d', h1, h'⟩
      exact ⟨s', A', n', c', B', m', d', ((h1.blk.far (p := ⟨g, 0, none⟩) hne _).far (p := ⟨g, 1, none⟩) hne _).far (p := ⟨g, 2, none⟩) hne _, h'.store3 hT _ _ _⟩
    · rintro B g' hne ⟨h1, h2⟩
      exact ⟨h1, ((h2.blk.far (p := ⟨g, 0, none⟩) hne _).far (p := ⟨g, 1, none⟩) hne _).far (p := ⟨g, 2, none⟩) hne _⟩
    · intro B W hB hb
      exact below_store3 hb hB _ _ _
    · intro g' t' y z hne h1
      exact ((h1.blk.far (p := ⟨g, 0, none⟩) hne _).far (p := ⟨g, 1, none⟩) hne _).far (p := ⟨g, 2, none⟩) hne _
/-- A quotient and no error. -/
def Dv (b : Nat) (x : Rat) (v : Value) (w : World) : Prop := ∃ q, v = .tuple #[q, .int .i64 0] ∧ Rv b x q w
theorem Dv.new {b : Nat} {x : Rat} {v : Value} {w w' : World} (h : Dv b x v w) (hb : Below w.heap.size w w') : Dv b x v w' := by
  obtain ⟨q, h1, h2⟩ := h
  exact ⟨q, h1, h2.new hb⟩
theorem ext_q {o : Oper} {a : Act} {w : World} {t : Tmp} {b : Nat} {x : Rat} (ho : o.op = .extract (.tmp t) 0) (h : Dv b x (tv a t) w) : gives Try.prog o a.eval w (fun v w' => Rv b x v w' ∧ Below w.heap.size w w') := by
  obtain ⟨q, h1, h2⟩ := h
  refine gives_val q ?_ ⟨h2, Below.refl _ _⟩
  unfold execOp
  rw [ho]
  simp only [eval_tmp, h1]
  go_simp
theorem ext_e {o : Oper} {a : Act} {w : World} {t : Tmp} {b : Nat} {x : Rat} (ho : o.op = .extract (.tmp t) 1) (h : Dv b x (tv a t) w) : gives Try.prog o a.eval w (fun v w' => v = .int .i64 0 ∧ Below w.heap.size w w') := by
  obtain ⟨q, h1, h2⟩ := h
  refine gives_val (.int .i64 0) ?_ ⟨rfl, Below.refl _ _⟩
  unfold execOp
  rw [ho]
  simp only [eval_tmp, h1]
  go_simp
theorem late_e {ops : Array Oper} {S : World → Prop} {o : Oper} {a : Act} {w : World} {t : Tmp} {b : Nat} {x : Rat} (ho : o.op = .extract (.tmp t) 1) (hg : o.guard = none) (h : Dv b x (tv a t) w) : Region.wanted o (yielded ops a.tmps) = true ∧ ∃ v, (∀ w', S w' → (execOp a.eval o).run Try.prog w' = .ok (.value v) w') ∧ v = .int .i64 0 := by
  obtain ⟨q, h1, h2⟩ := h
  refine ⟨by simp [Region.wanted, hg], .int .i64 0, fun w' _ => ?_, rfl⟩
  unfold execOp
  rw [ho]
  simp only [eval_tmp, h1]
  go_simp
theorem rw_zero (w : World) : Rw 1 0 (.agg #[.bool false, .slice none 0 0, .slice none 0 0]) w := ⟨_, _, _, _, _, _, _, rfl, 0, 0, nil_num' _ _ (by omega), nil_num' _ _ (by omega), (qv_zero _ _).symm⟩
theorem ext_z {o : Oper} {a : Act} {w : World} {t : Tmp} (ho : o.op = .extract (.tmp t) 0) (h : tv a t = .tuple #[.agg #[.bool false, .slice none 0 0, .slice none 0 0], .int .i64 18]) : gives Try.prog o a.eval w (fun v w' => Rw 1 0 v w' ∧ Below w.heap.size w w') := by
  refine gives_val (.agg #[.bool false, .slice none 0 0, .slice none 0 0]) ?_ ⟨rw_zero _, Below.refl _ _⟩
  unfold execOp
  rw [ho]
  simp only [eval_tmp, h]
  go_simp
theorem ext_ze {o : Oper} {a : Act} {w : World} {t : Tmp} (ho : o.op = .extract (.tmp t) 1) (h : tv a t = .tuple #[.agg #[.bool false, .slice none 0 0, .slice none 0 0], .int .i64 18]) : gives Try.prog o a.eval w (fun v w' => v = .int .i64 18 ∧ Below w.heap.size w w') := by
  refine gives_val (.int .i64 18) ?_ ⟨rfl, Below.refl _ _⟩
  unfold execOp
  rw [ho]
  simp only [eval_tmp, h]
  go_simp
section
variable {P : Program} {o : Oper} {a : Act} {w : World} {K : Value → World → Prop}
theorem gives_neg_int (i : Int) (t : TypeId) (x : Operand) (ho : o.op = .unOp .neg t x) (hx : a.eval x = .int .i64 i) (hb : -1000 ≤ i ∧ i ≤ 1000) (hK : K (.int .i64 (-i)) w) : gives P o a.eval w K := by
  refine gives_val _ ?_ hK
  have e : IntKind.i64.wrap (-i) = -i := IntWalk.i64_in _ (by omega)
  unfold execOp
  rw [ho]
  simp only [hx]
  go_simp
theorem gives_mul_int (i j : Int) (t t2 : TypeId) (x y : Operand) (ho : o.op = .binOp .mul t x y t2) (hx : a.eval x = .int .i64 i) (hy : a.eval y = .int .i64 j) (hb : -1000 ≤ i * j ∧ i * j ≤ 1000) (hK : K (.int .i64 (i * j)) w) : gives P o a.eval w K := by
  refine gives_val _ ?_ hK
  have e : IntKind.i64.wrap (i * j) = i * j := IntWalk.i64_in _ (by omega)
  unfold execOp
  rw [ho]
  simp only [hx, hy]
  go_simp
end
end Go.Proofs.Ytamcibmjpmibdaa
namespace Go.Proofs.Ytamcibmjpmibdaa
open Go.RowKit

def Win (z : Int) : Prop := -1048576 ≤ z ∧ z ≤ 1048576
instance (z : Int) : Decidable (Win z) := inferInstanceAs (Decidable (_ ∧ _))
def winB (a b c d : Int) : Bool := decide (Win a ∧ Win b ∧ Win c ∧ Win d)
/-- The four numbers. -/
def four (a b c d : Int) (i : Nat) : Int := if i = 0 then a else if i = 1 then b else if i = 2 then c else d
section
variable {w w' : World} {g : Nat} {a b c d : Int}
theorem four_all (P : Int → Prop) : (∀ i, i < 4 → P (four a b c d i)) ↔ P a ∧ P b ∧ P c ∧ P d := by
  constructor
  · intro h; exact ⟨h 0 (by omega), h 1 (by omega), h 2 (by omega), h 3 (by omega)⟩
  · rintro ⟨h0, h1, h2, h3⟩ i hi
    have : i = 0 ∨ i = 1 ∨ i = 2 ∨ i = 3 := by omega
    rcases this with rfl | rfl | rfl | rfl
    · exact h0
    · exact h1
    · exact h2
    · exact h3

end

end Go.Proofs.Ytamcibmjpmibdaa
namespace Go.Proofs.Ytamcibmjpmibdaa
open Go.RowKit

theorem one_div (z : Int) : (z : Rat) / ((1 : Int) : Rat) = (z : Rat) := by rw [Rat.intCast_one]; grind
theorem frac_le (n d : Int) (hd : d ≠ 0) : ((n : Rat) / (d : Rat)).num.natAbs ≤ n.natAbs ∧ ((n : Rat) / (d : Rat)).den ≤ d.natAbs := by
  have h0 : d.natAbs ≠ 0 := by omega
  rw [← qv_frac n d hd, qv_abs h0, qv_den h0]
  exact ⟨Nat.div_le_self _ _, Nat.div_le_self _ _⟩
/-- A fraction of the reference. -/
def QL (x : Rat) : Value := .agg #[.int .i64 x.num, .int .i64 (x.den : Int)]
/-- A number. -/
def Nv (b N : Nat) (v : Value) (w : World) : Prop := ∃ A k c, v = .slice A k c ∧ Num w A k c b N
theorem Nv.new {b N : Nat} {v : Value} {w w' : World} (h : Nv b N v w) (hb : Below w.heap.size w w') : Nv b N v w' := by
  obtain ⟨A, k, c, h1, h2⟩ := h
  exact ⟨A, k, c, h1, h2.new hb⟩
theorem low_v (n d : Int) (h1 : -9223372036854775807 ≤ n) (h2 : n ≤ 9223372036854775807) (h3 : -9223372036854775807 ≤ d) (h4 : d ≤ 9223372036854775807) (hd : d ≠ 0) (v v' : Value) (hv : v = .int .i64 n) (hv' : v' = .int .i64 d) (w : World) :
    Calls Try.prog 53 #[v, v'] w (RV w (fun u _ => u = QL ((n : Rat) / (d : Rat)))) := by
  subst hv; subst hv'
  exact rv_one (rlow_any n d h1 h2 h3 h4 hd)
theorem nof_v (k : Nat) (hk : k < 18446744073709551616) (v : Value) (hv : v = .int .u64 k) (w : World) : Calls Try.prog 81 #[v] w (RV w (Nv 2 k)) := by
  subst hv
  refine (of_n k hk w).mono ?_
  rintro e w1 ⟨A, n, c, rfl, h, -, hb⟩
  exact ⟨_, rfl, ⟨A, n, c, rfl, h⟩, hb⟩
theorem call_low : callsB Try.prog 53 = true := by kernel_rfl
theorem call_nof : callsB Try.prog 81 = true := by kernel_rfl
section
variable {o : Oper} {a : Act} {w : World} {t : Tmp} {g : Nat}
theorem load_i64 {p : Addr} {z : Int} (ho : o.op = .load 2 (.tmp t)) (hx : tv a t = .pointer (some p)) (hc : w.cell? p = some (.int .i64 z)) : gives Try.prog o a.eval w (fun u w' => u = .int .i64 z ∧ Below w.heap.size w w') := by
  refine gives_val (.int .i64 z) ?_ ⟨rfl, Below.refl _ _⟩
  unfold execOp; rw [ho]; simp only [eval_tmp, hx]; go_simp
theorem conv_u64 {k : Nat} (hk : k < 9223372036854775808) (ho : o.op = .convert 2 64 (.tmp t)) (hx : tv a t = .int .i64 (k : Int)) : gives Try.prog o a.eval w (fun u w' => u = .int .u64 (k : Int) ∧ Below w.heap.size w w') := by
  refine gives_val (.int .u64 (k : Int)) ?_ ⟨rfl, Below.refl _ _⟩
  have e : IntKind.u64.wrap (k : Int) = (k : Int) := IntWalk.u64_in _ (by omega)
  unfold execOp; rw [ho]; simp only [eval_tmp, hx]; go_simp
theorem build_zero (ho : o.op = .build 41 #[]) : gives Try.prog o a.eval w (fun v w' => Rw 1 0 v w' ∧ Below w.heap.size w w') := by
  refine gives_val (.agg #[.bool false, .slice none 0 0, .slice none 0 0]) ?_ ⟨rw_zero _, Below.refl _ _⟩
  unfold execOp; rw [ho]; go_simp
end
/-- The Rat that RatMakes lays by hand. -/
theorem raw_world (W : World) (s : Bool) (k y : Nat) (hk : k < 4294967296) (hy : y < 4294967296) :
    (fun W3 => Bx 3 (qv s k y) (W.heap.size + 2) W3 ∧ Below W.heap.size W W3)
      (((W.alloc (.cells #[.int .u32 (k : Int), .int .u32 0, .int .u32 0] 111)).alloc (.cells #[.int .u32 (y : Int), .int .u32 0] 111)).alloc (.cells #[.bool s, .slice (some ⟨W.heap.size, 0, none⟩) 3 3, .slice (some ⟨W.heap.size + 1, 0, none⟩) 2 2] 41)) := by
  have b1 : Blk (W.alloc (.cells #[.int .u32 (k : Int), .int .u32 0, .int .u32 0] 111)) W.heap.size 111 (urow [k, 0, 0]) := by
    have := Blk.new W 111 (urow [k, 0, 0])
    simpa [urow, U32] using this
  have z1 : (W.alloc (.cells #[.int .u32 (k : Int), .int .u32 0, .int .u32 0] 111)).heap.size = W.heap.size + 1 := by simp
  have l1 := al W (.cells #[.int .u32 (k : Int), .int .u32 0, .int .u32 0] 111)
  generalize W.alloc (.cells #[.int .u32 (k : Int), .int .u32 0, .int .u32 0] 111) = W1 at *
  have b2 : Blk (W1.alloc (.cells #[.int .u32 (y : Int), .int .u32 0] 111)) (W.heap.size + 1) 111 (urow [y, 0]) := by
    have := Blk.new W1 111 (urow [y, 0])
    rw [z1] at this
    simpa [urow, U32] using this
  have z2 : (W1.alloc (.cells #[.int .u32 (y : Int), .int .u32 0] 111)).heap.size = W.heap.size + 2 := by simp [z1]
  have l2 := al W1 (.cells #[.int .u32 (y : Int), .int .u32 0] 111)
  replace b1 := b1.below l2 b1.lt
  replace l1 := bthen l1 l2 l1.size
  generalize W1.alloc (.cells #[.int .u32 (y : Int), .int .u32 0] 111) = W2 at *
  have b3 := TB.made W2 41 (.bool s) (.slice (some ⟨W.heap.size, 0, none⟩) 3 3) (.slice (some ⟨W.heap.size + 1, 0, none⟩) 2 2)
  have l3 := al W2 (.cells #[.bool s, .slice (some ⟨W.heap.size, 0, none⟩) 3 3, .slice (some ⟨W.heap.size + 1, 0, none⟩) 2 2] 41)
  rw [z2] at b3
  replace b1 := b1.below l3 b1.lt
  replace b2 := b2.below l3 b2.lt
  replace l1 := bthen l1 l3 l1.size
  generalize W2.alloc (.cells #[.bool s, .slice (some ⟨W.heap.size, 0, none⟩) 3 3, .slice (some ⟨W.heap.size + 1, 0, none⟩) 2 2] 41) = W3 at *
  have hp : k < PB 3 ∧ y < PB 3 := by
    have : PB 1 ≤ PB 3 := PB_mono (by omega)
    have h1 : PB 1 = 4294967296 * 4294967296 ∨ 4294967296 ≤ PB 1 := .inr (by rw [PB]; omega)
    rcases h1 with h | h <;> omega
  have e1 := Es.of_blk b1 (by simp) (by simp; omega)
  have e2 := Es.of_blk b2 (by simp) (by simp; omega)
  refine ⟨⟨s, _, 3, 3, _, 2, 2, b3, k, y, ⟨Nat.le_refl _, by omega, by omega, hp.1, [k, 0, 0], e1, by simp [valB]⟩, ⟨Nat.le_refl _, by omega, by omega, hp.2, [y, 0], e2, by simp [valB]⟩, rfl⟩, l1⟩
end Go.Proofs.Ytamcibmjpmibdaa
namespace Go.Proofs.Ytamcibmjpmibdaa
open Go.RowKit
set_option linter.unusedSimpArgs false

/-- A fraction of small numbers. -/
def Sm (x : Rat) : Prop := x.num.natAbs ≤ 1073741824 ∧ x.den ≤ 1073741824
theorem mul_small {a b : Int} (ha : -1073741824 ≤ a ∧ a ≤ 1073741824) (hb : -1073741824 ≤ b ∧ b ≤ 1073741824) : -1152921504606846976 ≤ a * b ∧ a * b ≤ 1152921504606846976 := by
  have h : (a * b).natAbs ≤ 1073741824 * 1073741824 := by rw [Int.natAbs_mul]; exact Nat.mul_le_mul (by omega) (by omega)
  omega
theorem Sm.rng {x : Rat} (h : Sm x) : (-1073741824 ≤ x.num ∧ x.num ≤ 1073741824) ∧ (-1073741824 ≤ (x.den : Int) ∧ (x.den : Int) ≤ 1073741824) ∧ (x.den : Int) ≠ 0 := by
  have := x.den_nz; obtain ⟨h1, h2⟩ := h; omega
theorem self_frac (x : Rat) : ((x.num : Int) : Rat) / (((x.den : Nat) : Int) : Rat) = x := by
  have h := qv_frac x.num (x.den : Int) (by have := x.den_nz; omega)
  rw [show decide ((x.den : Int) < 0) = false by simp, show (decide (x.num < 0) != false) = decide (x.num < 0) by simp, Int.natAbs_natCast, qv_self] at h
  exact h.symm
theorem mul_frac (x y : Rat) : ((x.num * y.num : Int) : Rat) / (((x.den : Int) * (y.den : Int) : Int) : Rat) = x * y := by
  have h1 := self_frac x; have h2 := self_frac y
  have d1 : (((x.den : Nat) : Int) : Rat) ≠ 0 := by intro h; have := Rat.intCast_eq_zero_iff.1 h; have := x.den_nz; omega
  have d2 : (((y.den : Nat) : Int) : Rat) ≠ 0 := by intro h; have := Rat.intCast_eq_zero_iff.1 h; have := y.den_nz; omega
  rw [Rat.intCast_mul, Rat.intCast_mul]
  generalize ((x.num : Int) : Rat) = a at *; generalize ((y.num : Int) : Rat) = b at *
  generalize (((x.den : Nat) : Int) : Rat) = c at *; generalize (((y.den : Nat) : Int) : Rat) = d at *
  rw [← h1, ← h2]; grind
theorem add_frac (x y : Rat) : ((x.num * (y.den : Int) + y.num * (x.den : Int) : Int) : Rat) / (((x.den : Int) * (y.den : Int) : Int) : Rat) = x + y := by
  have h1 := self_frac x; have h2 := self_frac y
  have d1 : (((x.den : Nat) : Int) : Rat) ≠ 0 := by intro h; have := Rat.intCast_eq_zero_iff.1 h; have := x.den_nz; omega
  have d2 : (((y.den : Nat) : Int) : Rat) ≠ 0 := by intro h; have := Rat.intCast_eq_zero_iff.1 h; have := y.den_nz; omega
  rw [Rat.intCast_add, Rat.intCast_mul, Rat.intCast_mul, Rat.intCast_mul]
  generalize ((x.num : Int) : Rat) = a at *; generalize ((y.num : Int) : Rat) = b at *
  generalize (((x.den : Nat) : Int) : Rat) = c at *; generalize (((y.den : Nat) : Int) : Rat) = d at *
  rw [← h1, ← h2]; grind

set_option maxRecDepth 100000 in
set_option maxHeartbeats 2000000 in
theorem rmul_any {x y : Rat} (hx : Sm x) (hy : Sm y) (w : World) : Calls Try.prog 61 #[QL x, QL y] w fun e w' => e = .returned (QL (x * y)) ∧ Below w.heap.size w w' := by
  obtain ⟨a1, a2, a3⟩ := hx.rng; obtain ⟨b1, b2, b3⟩ := hy.rng
  have HL := Lib.hid (show ∀ W, Calls Try.prog 53 #[.int .i64 (x.num * y.num), .int .i64 ((x.den : Int) * (y.den : Int))] W fun e w' => e = .returned (.agg #[.int .i64 (x * y).num, .int .i64 ((x * y).den : Int)]) ∧ Below W.heap.size W w' from fun W => by
    have m1 := mul_small a1 b1; have m2 := mul_small a2 b2
    have := rlow_any (w := W) (x.num * y.num) ((x.den : Int) * (y.den : Int)) (by omega) (by omega) (by omega) (by omega) (Int.mul_ne_zero a3 b3)
    rw [mul_frac] at this
    exact this)
  have i1 : IntKind.i64.wrap (x.num * y.num) = x.num * y.num := IntWalk.i64_in _ (by have := mul_small a1 b1; omega)
  have i2 : IntKind.i64.wrap ((x.den : Int) * (y.den : Int)) = (x.den : Int) * (y.den : Int) := IntWalk.i64_in _ (by have := mul_small a2 b2; omega)
  unfold QL
  clear a1 a2 a3 b1 b2 b3 hx hy
  generalize (x * y).num = p1 at *; generalize ((x * y).den : Int) = p2 at *
  generalize x.num = xa at *; generalize (x.den : Int) = xb at *; generalize y.num = ya at *; generalize (y.den : Int) = yb at *
  go_enter Try.func61, Try.ntmps61
  go_wp2_with fail
  have hT : GB ((((w.alloc (.cells #[.int .i64 xa, .int .i64 xb] 58)).alloc (.cells #[.int .i64 ya, .int .i64 yb] 58)).alloc (.cells #[.int .i64 0, .int .i64 0] 58))) (w.heap.size + 2) 58 (.int .i64 0) (.int .i64 0) := by
    have := GB.made ((w.alloc (.cells #[.int .i64 xa, .int .i64 xb] 58)).alloc (.cells #[.int .i64 ya, .int .i64 yb] 58)) 58 (.int .i64 0) (.int .i64 0)
    simpa using this
  have hW : Below w.heap.size w (((w.alloc (.cells #[.int .i64 xa, .int .i64 xb] 58)).alloc (.cells #[.int .i64 ya, .int .i64 yb] 58)).alloc (.cells #[.int .i64 0, .int .i64 0] 58)) := ((al w _).alloc (by simp) _).alloc (by simp; omega) _
  generalize ((w.alloc (.cells #[.int .i64 xa, .int .i64 xb] 58)).alloc (.cells #[.int .i64 ya, .int .i64 yb] 58)).alloc (.cells #[.int .i64 0, .int .i64 0] 58) = w0 at hT hW ⊢
  refine (HL.out _).mono ?_
  rintro e w1 ⟨rfl, hb⟩
  have T := Lib.hid (hT.new hb); have HW := Lib.hid (bthen hW hb hW.size)
  clear hT hW hb
  have r0 := T.out.c0; have r1 := T.out.c1; have f0 := T.out.f0; have f1 := T.out.f1
  go_wp2_with fail
  refine bodyPost_ret (v := .agg #[.int .i64 p1, .int .i64 p2]) ?_ rfl ⟨rfl, (HW.out.setCell (p := ⟨w.heap.size + 2, 0, none⟩) (Nat.le_add_right _ _) _).setCell (p := ⟨w.heap.size + 2, 1, none⟩) (Nat.le_add_right _ _) _⟩
  exact results_cell_row Try.results61 _ _ _ _ _ (0, 0) _ rfl ((T.out.blk.set_ 0 _).set_ 1 _) Try.underlying58 rfl rfl
set_option maxRecDepth 100000 in
set_option maxHeartbeats 2000000 in
theorem radd_any {x y : Rat} (hx : Sm x) (hy : Sm y) (w : World) : Calls Try.prog 65 #[QL x, QL y] w fun e w' => e = .returned (QL (x + y)) ∧ Below w.heap.size w w' := by
  obtain ⟨a1, a2, a3⟩ := hx.rng; obtain ⟨b1, b2, b3⟩ := hy.rng
  have HL := Lib.hid (show ∀ W, Calls Try.prog 53 #[.int .i64 (x.num * (y.den : Int) + y.num * (x.den : Int)), .int .i64 ((x.den : Int) * (y.den : Int))] W fun e w' => e = .returned (.agg #[.int .i64 (x + y).num, .int .i64 ((x + y).den : Int)]) ∧ Below W.heap.size W w' from fun W => by
    have m1 := mul_small a1 b2; have m2 := mul_small a2 b2; have m3 := mul_small b1 a2
    have := rlow_any (w := W) (x.num * (y.den : Int) + y.num * (x.den : Int)) ((x.den : Int) * (y.den : Int)) (by omega) (by omega) (by omega) (by omega) (Int.mul_ne_zero a3 b3)
    rw [add_frac] at this
    exact this)
  have i1 : IntKind.i64.wrap (x.num * (y.den : Int)) = x.num * (y.den : Int) := IntWalk.i64_in _ (by have := mul_small a1 b2; omega)
  have i3 : IntKind.i64.wrap (y.num * (x.den : Int)) = y.num * (x.den : Int) := IntWalk.i64_in _ (by have := mul_small b1 a2; omega)
  have i2 : IntKind.i64.wrap ((x.den : Int) * (y.den : Int)) = (x.den : Int) * (y.den : Int) := IntWalk.i64_in _ (by have := mul_small a2 b2; omega)
  have i4 : IntKind.i64.wrap (x.num * (y.den : Int) + y.num * (x.den : Int)) = x.num * (y.den : Int) + y.num * (x.den : Int) := IntWalk.i64_in _ (by have := mul_small a1 b2; have := mul_small b1 a2; omega)
  unfold QL
  clear a1 a2 a3 b1 b2 b3 hx hy
  generalize (x + y).num = p1 at *; generalize ((x + y).den : Int) = p2 at *
  generalize x.num = xa at *; generalize (x.den : Int) = xb at *; generalize y.num = ya at *; generalize (y.den : Int) = yb at *
  go_enter Try.func65, Try.ntmps65
  go_wp2_with fail
  have hT : GB ((((w.alloc (.cells #[.int .i64 xa, .int .i64 xb] 58)).alloc (.cells #[.int .i64 ya, .int .i64 yb] 58)).alloc (.cells #[.int .i64 0, .int .i64 0] 58))) (w.heap.size + 2) 58 (.int .i64 0) (.int .i64 0) := by
    have := GB.made ((w.alloc (.cells #[.int .i64 xa, .int .i64 xb] 58)).alloc (.cells #[.int .i64 ya, .int .i64 yb] 58)) 58 (.int .i64 0) (.int .i64 0)
    simpa using this
  have hW : Below w.heap.size w (((w.alloc (.cells #[.int .i64 xa, .int .i64 xb] 58)).alloc (.cells #[.int .i64 ya, .int .i64 yb] 58)).alloc (.cells #[.int .i64 0, .int .i64 0] 58)) := ((al w _).alloc (by simp) _).alloc (by simp; omega) _
  generalize ((w.alloc (.cells #[.int .i64 xa, .int .i64 xb] 58)).alloc (.cells #[.int .i64 ya, .int .i64 yb] 58)).alloc (.cells #[.int .i64 0, .int .i64 0] 58) = w0 at hT hW ⊢
  refine (HL.out _).mono ?_
  rintro e w1 ⟨rfl, hb⟩
  have T := Lib.hid (hT.new hb); have HW := Lib.hid (bthen hW hb hW.size)
  clear hT hW hb
  have r0 := T.out.c0; have r1 := T.out.c1; have f0 := T.out.f0; have f1 := T.out.f1
  go_wp2_with fail
  refine bodyPost_ret (v := .agg #[.int .i64 p1, .int .i64 p2]) ?_ rfl ⟨rfl, (HW.out.setCell (p := ⟨w.heap.size + 2, 0, none⟩) (Nat.le_add_right _ _) _).setCell (p := ⟨w.heap.size + 2, 1, none⟩) (Nat.le_add_right _ _) _⟩
  exact results_cell_row Try.results65 _ _ _ _ _ (0, 0) _ rfl ((T.out.blk.set_ 0 _).set_ 1 _) Try.underlying58 rfl rfl
end Go.Proofs.Ytamcibmjpmibdaa
namespace Go.Proofs.Ytamcibmjpmibdaa
open Go.RowKit
set_option linter.unusedSimpArgs false

theorem rcq_num (x y : Rat) : rcq x y = if x.num * (y.den : Int) < y.num * (x.den : Int) then -1 else if y.num * (x.den : Int) < x.num * (y.den : Int) then 1 else 0 := by
  unfold rcq
  simp only [Rat.lt_iff]
set_option maxRecDepth 100000 in
set_option maxHeartbeats 2000000 in
theorem rcmp_any {x y : Rat} (hx : Sm x) (hy : Sm y) (w : World) : Calls Try.prog 56 #[QL x, QL y] w fun e w' => e = .returned (.int .i64 (rcq x y)) ∧ Below w.heap.size w w' := by
  obtain ⟨a1, a2, a3⟩ := hx.rng; obtain ⟨b1, b2, b3⟩ := hy.rng
  have HQ := Lib.hid (rcq_num x y)
  have k1 := mul_small a1 b2
  have k3 := mul_small b1 a2
  unfold QL
  clear a1 a2 a3 b1 b2 b3 hx hy
  generalize x.num = xa at *; generalize (x.den : Int) = xb at *; generalize y.num = ya at *; generalize (y.den : Int) = yb at *
  generalize rcq x y = r at *
  obtain ⟨P1, e1⟩ : ∃ p, p = xa * yb := ⟨_, rfl⟩
  obtain ⟨P2, e2⟩ : ∃ p, p = ya * xb := ⟨_, rfl⟩
  rw [← e1, ← e2] at HQ
  rw [← e1] at k1; rw [← e2] at k3
  replace k1 : -9223372036854775808 ≤ P1 ∧ P1 ≤ 9223372036854775807 := by omega
  replace k3 : -9223372036854775808 ≤ P2 ∧ P2 ≤ 9223372036854775807 := by omega
  have HK1 := Lib.hid k1; have HK3 := Lib.hid k3; have E1 := Lib.hid e1; have E2 := Lib.hid e2; clear k1 k3 e1 e2
  go_enter Try.func56, Try.ntmps56
  go_wp2_with fail
  have hT2 : GB ((w.alloc (.cells #[.int .i64 xa, .int .i64 xb] 58)).alloc (.cells #[.int .i64 ya, .int .i64 yb] 58)) w.heap.size 58 (.int .i64 xa) (.int .i64 xb) := (GB.made w _ _ _).alloc _
  have hT3 : GB ((w.alloc (.cells #[.int .i64 xa, .int .i64 xb] 58)).alloc (.cells #[.int .i64 ya, .int .i64 yb] 58)) (w.heap.size + 1) 58 (.int .i64 ya) (.int .i64 yb) := by
    have := GB.made (w.alloc (.cells #[.int .i64 xa, .int .i64 xb] 58)) 58 (.int .i64 ya) (.int .i64 yb)
    simpa using this
  have hW : Below w.heap.size w ((w.alloc (.cells #[.int .i64 xa, .int .i64 xb] 58)).alloc (.cells #[.int .i64 ya, .int .i64 yb] 58)) := (al w _).alloc (by simp) _
  generalize (w.alloc (.cells #[.int .i64 xa, .int .i64 xb] 58)).alloc (.cells #[.int .i64 ya, .int .i64 yb] 58) = w0 at hT2 hT3 hW ⊢
  have c0 := hT2.c0; have c1 := hT2.c1; have d0 := hT3.c0; have d1 := hT3.c1
  have HW := Lib.hid hW; clear hT2 hT3 hW
  go_quiet (fail)
  have k1 := HK1.out; have k3 := HK3.out; have e1 := E1.out; have e2 := E2.out; clear HK1 HK3 E1 E2
  rw [show wrap64 (xa * yb) = P1 from by rw [← e1]; exact IntWalk.wrap64_in P1 k1, show wrap64 (ya * xb) = P2 from by rw [← e2]; exact IntWalk.wrap64_in P2 k3]
  clear k1 k3 e1 e2
  by_cases h1 : P1 < P2
  · have HR := Lib.hid (show r = -1 by rw [HQ.out, if_pos h1])
    have t1 := decide_eq_true h1
    clear HQ h1
    go_wp2_with fail
    go_ret
    exact ⟨by rw [HR.out]; rfl, below_drewN HW.out _⟩
  · by_cases h2 : P2 < P1
    · have HR := Lib.hid (show r = 1 by rw [HQ.out, if_neg h1, if_pos h2])
      have t1 := decide_eq_false h1
      have t2 := decide_eq_true h2
      clear HQ h1 h2
      go_wp2_with fail
      go_ret
      exact ⟨by rw [HR.out]; rfl, below_drewN HW.out _⟩
    · have HR := Lib.hid (show r = 0 by rw [HQ.out, if_neg h1, if_neg h2])
      have t1 := decide_eq_false h1
      have t2 := decide_eq_false h2
      clear HQ h1 h2
      go_wp2_with fail
      go_ret
      exact ⟨by rw [HR.out]; rfl, below_drewN HW.out _⟩

/-- A block that holds a fraction of the reference. -/
def Qb (x : Rat) (g : Nat) (w : World) : Prop := GB w g 58 (.int .i64 x.num) (.int .i64 (x.den : Int))
theorem Qb.new {x : Rat} {g : Nat} {w w' : World} (h : Qb x g w) (hb : Below w.heap.size w w') : Qb x g w' := GB.new h hb
theorem Qb.lt {x : Rat} {g : Nat} {w : World} (h : Qb x g w) : g < w.heap.size := GB.lt h
theorem load_qb {o : Oper} {a : Act} {w : World} {t : Tmp} {g : Nat} {x : Rat} (ho : o.op = .load 58 (.tmp t)) (ht : tv a t = .pointer (some ⟨g, 0, none⟩)) (h : Qb x g w) :
    gives Try.prog o a.eval w (fun v w' => v = QL x ∧ Below w.heap.size w w') :=
  gives_load_blk 58 (.tmp t) ho g 58 _ _ ht (GB.blk h) Try.underlying58 rfl (by kernel_rfl) ⟨rfl, Below.refl _ _⟩
theorem radd_v {x y : Rat} (hx : Sm x) (hy : Sm y) (v v' : Value) (hv : v = QL x) (hv' : v' = QL y) (w : World) : Calls Try.prog 65 #[v, v'] w (RV w (fun u _ => u = QL (x + y))) := by subst hv; subst hv'; exact rv_one (radd_any hx hy w)
theorem rmul_v {x y : Rat} (hx : Sm x) (hy : Sm y) (v v' : Value) (hv : v = QL x) (hv' : v' = QL y) (w : World) : Calls Try.prog 61 #[v, v'] w (RV w (fun u _ => u = QL (x * y))) := by subst hv; subst hv'; exact rv_one (rmul_any hx hy w)
theorem rcmp_v {x y : Rat} (hx : Sm x) (hy : Sm y) (v v' : Value) (hv : v = QL x) (hv' : v' = QL y) (w : World) : Calls Try.prog 56 #[v, v'] w (RV w (fun u _ => u = .int .i64 (rcq x y))) := by subst hv; subst hv'; exact rv_one (rcmp_any hx hy w)
theorem call_radd : callsB Try.prog 65 = true := by kernel_rfl
theorem call_rmul : callsB Try.prog 61 = true := by kernel_rfl
theorem call_rcmp : callsB Try.prog 56 = true := by kernel_rfl
end Go.Proofs.Ytamcibmjpmibdaa
namespace Go.Proofs.Ytamcibmjpmibdaa
open Go.RowKit
set_option linter.unusedSimpArgs false

theorem Rv.setQ {b g : Nat} {x : Rat} {v : Value} {w : World} {p q : Int} (h : Rv b x v w) (hg : GB w g 58 (.int .i64 p) (.int .i64 q)) (u1 u2 : Value) : Rv b x v ((w.setCell ⟨g, 0, none⟩ u1).setCell ⟨g, 1, none⟩ u2) := by
  obtain ⟨s, A, n, c, B, m, d, rfl, h1, ⟨⟨p1, p2, p3, p4, l, e1, e2⟩, l', e3, e4⟩, ⟨⟨q1, q2, q3, q4, k, f1, f2⟩, k', f3, f4⟩⟩ := h
  have es : ∀ {A : Option Addr} {n : Nat} {l : List Nat}, Es w w.heap.size A n l → Es ((w.setCell ⟨g, 0, none⟩ u1).setCell ⟨g, 1, none⟩ u2) ((w.setCell ⟨g, 0, none⟩ u1).setCell ⟨g, 1, none⟩ u2).heap.size A n l := by
    intro A n l h
    rw [size_setCell, size_setCell]
    refine (h.far hg.c0 (by simp) u1).far (v := .int .i64 q) ?_ (by simp) u2
    rw [(hg.blk.set_ 0 u1).cell]; rfl
  exact ⟨s, A, n, c, B, m, d, rfl, h1, ⟨⟨p1, p2, p3, p4, l, es e1, e2⟩, l', es e3, e4⟩, ⟨⟨q1, q2, q3, q4, k, es f1, f2⟩, k', es f3, f4⟩⟩
theorem store_rv {o : Oper} {a : Act} {w : World} {t u : Tmp} {B g b : Nat} {x : Rat} {v : Value} {K : Act → World → Prop} {Q : Exit → Act → World → Prop} (ho : o.op = .store 41 (.tmp t) (.tmp u)) (hd : o.dst = none) (ht : a.eval (.tmp t) = .pointer (some ⟨g, 0, none⟩)) (hu : a.eval (.tmp u) = v)
    (hz : Zx B g w) (hv : Rv b x v w) (next : ∀ w', (∃ y1 y2 y3, v = .agg #[y1, y2, y3] ∧ TB w' g 41 y1 y2 y3) → Rv b x v w' → (∀ g' t' y z, g' ≠ g → GB w g' t' y z → GB w' g' t' y z) → (∀ C W, C ≤ g → Below C W w → Below C W w') → K a w') : o.wp Try.prog a w K Q := by
  obtain ⟨s, A, n, c, C, m, d, rfl, h⟩ := hv
  have hT := hz.2
  refine wp_store_mid 41 (.tmp t) (.tmp u) ho g 0 #[.bool s, .slice A n c, .slice C m d] ht hu (fun j hj => ⟨?_, hT.blk.frozen _⟩) (by kernel_rfl) (by simp [Value.oneCell']) ?_
  · rw [hT.blk.cell]
    have : j < 3 := by simpa using hj
    simp [this]
  · rw [hd]
    have e : w.setCells g 0 [.bool s, .slice A n c, .slice C m d] = ((w.setCell ⟨g, 0, none⟩ (.bool s)).setCell ⟨g, 1, none⟩ (.slice A n c)).setCell ⟨g, 2, none⟩ (.slice C m d) := rfl
    show K a (w.setCells g 0 [.bool s, .slice A n c, .slice C m d])
    rw [e]
    refine next _ ⟨_, _, _, rfl, ((hT.blk.set_ 0 _).set_ 1 _).set_ 2 _⟩ ⟨s, A, n, c, C, m, d, rfl, h.store3 hT _ _ _⟩ ?_ ?_
    · intro g' t' y z hne h1
      exact ((h1.blk.far (p := ⟨g, 0, none⟩) hne _).far (p := ⟨g, 1, none⟩) hne _).far (p := ⟨g, 2, none⟩) hne _
    · intro B W hB hb
      exact below_store3 hb hB _ _ _
theorem store_q {o : Oper} {a : Act} {w : World} {t u : Tmp} {g : Nat} {x : Rat} {K : Act → World → Prop} {Q : Exit → Act → World → Prop} (ho : o.op = .store 58 (.tmp t) (.tmp u)) (hd : o.dst = none) (ht : a.eval (.tmp t) = .pointer (some ⟨g, 0, none⟩)) (hu : a.eval (.tmp u) = QL x)
    (hz : GB w g 58 (.int .i64 0) (.int .i64 0)) (next : K a ((w.setCell ⟨g, 0, none⟩ (.int .i64 x.num)).setCell ⟨g, 1, none⟩ (.int .i64 (x.den : Int)))) : o.wp Try.prog a w K Q := by
  refine wp_store_mid 58 (.tmp t) (.tmp u) ho g 0 #[.int .i64 x.num, .int .i64 (x.den : Int)] ht hu (fun j hj => ⟨?_, hz.blk.frozen _⟩) (by kernel_rfl) (by simp [Value.oneCell']) ?_
  · rw [hz.blk.cell]
    have : j < 2 := by simpa using hj
    simp [this]
  · rw [hd]; exact next
/-- Two results that lie in memory. -/
theorem results_cell2 {P : Program} {fn : Func} {p q : Tmp} {t1 t2 : TypeId} (h : fn.results = #[.cell p t1, .cell q t2]) (tmps : Array Value) (w : World) (g1 g2 : Nat) (s1 s2 : TypeId) (c1 c2 : Array Value) (d1 d2 : TypeDesc)
    (hp : tmps.getD p undef = .pointer (some ⟨g1, 0, none⟩)) (hq : tmps.getD q undef = .pointer (some ⟨g2, 0, none⟩)) (h1 : Blk w g1 s1 c1) (h2 : Blk w g2 s2 c2)
    (u1 : P.underlying t1 = some d1) (v1 : (match d1 with | .struct _ | .array _ _ => true | _ => false) = true) (i1 : (P.info? t1).map (·.size) = some c1.size)
    (u2 : P.underlying t2 = some d2) (v2 : (match d2 with | .struct _ | .array _ _ => true | _ => false) = true) (i2 : (P.info? t2).map (·.size) = some c2.size) :
    (results fn tmps).run P w = .ok (.tuple #[.agg c1, .agg c2]) w := by
  have hp' : tmps[p]?.getD undef = .pointer (some ⟨g1, 0, none⟩) := by simpa using hp
  have hq' : tmps[q]?.getD undef = .pointer (some ⟨g2, 0, none⟩) := by simpa using hq
  simp [results, h, hp', hq', asAddr, run_loadVar_row w g1 s1 t1 c1 (0, 0) d1 h1 u1 v1 i1, run_loadVar_row w g2 s2 t2 c2 (0, 0) d2 h2 u2 v2 i2]
-- printed by gen/ratof.py
end Go.Proofs.Ytamcibmjpmibdaa
namespace Go.Proofs.Ytamcibmjpmibdaa
open Go.RowKit

/-- A Rat and its fraction. -/
def OfV (x : Rat) (v : Value) (w : World) : Prop := ∃ q, v = .tuple #[q, QL x] ∧ Rv 2 x q w
theorem OfV.new {x : Rat} {v : Value} {w w' : World} (h : OfV x v w) (hb : Below w.heap.size w w') : OfV x v w' := by
  obtain ⟨q, h1, h2⟩ := h
  exact ⟨q, h1, h2.new hb⟩
theorem ext_o0 {o : Oper} {a : Act} {w : World} {t : Tmp} {x : Rat} (ho : o.op = .extract (.tmp t) 0) (h : OfV x (tv a t) w) : gives Try.prog o a.eval w (fun v w' => Rv 2 x v w' ∧ Below w.heap.size w w') := by
  obtain ⟨q, h1, h2⟩ := h
  refine gives_val q ?_ ⟨h2, Below.refl _ _⟩
  unfold execOp
  rw [ho]
  simp only [eval_tmp, h1]
  go_simp
theorem ext_o1 {o : Oper} {a : Act} {w : World} {t : Tmp} {x : Rat} (ho : o.op = .extract (.tmp t) 1) (h : OfV x (tv a t) w) : gives Try.prog o a.eval w (fun v w' => v = QL x ∧ Below w.heap.size w w') := by
  obtain ⟨q, h1, h2⟩ := h
  refine gives_val (QL x) ?_ ⟨rfl, Below.refl _ _⟩
  unfold execOp
  rw [ho]
  simp only [eval_tmp, h1]
  go_simp
/-- A new box for a fraction. -/
def Zq (B : Nat) (v : Value) (w : World) : Prop := ∃ g, v = .pointer (some ⟨g, 0, none⟩) ∧ B ≤ g ∧ GB w g 58 (.int .i64 0) (.int .i64 0)
theorem Zq.new {B : Nat} {v : Value} {w w' : World} (h : Zq B v w) (hb : Below w.heap.size w w') : Zq B v w' := by
  obtain ⟨g, h1, h2, h3⟩ := h
  exact ⟨g, h1, h2, h3.new hb⟩
theorem alloc_q {o : Oper} {a : Act} {w0 w : World} (ho : o.op = .alloc 58) (hb : Below w0.heap.size w0 w) : gives Try.prog o a.eval w (fun v w' => Zq w0.heap.size v w' ∧ Below w.heap.size w w') := by
  have hr : (execOp a.eval o).run Try.prog w = .ok (.value (.pointer (some ⟨w.heap.size, 0, none⟩))) (w.alloc (.cells #[.int .i64 0, .int .i64 0] 58)) := by
    unfold execOp
    rw [ho]
    go_simp
  unfold gives
  rw [hr]
  exact ⟨⟨_, rfl, hb.size, GB.made _ _ _ _⟩, al _ _⟩
/-- The denominator that of takes. -/
def den1 (d : Int) : Int := if d = 0 then 1 else d
theorem den1_ne (d : Int) : den1 d ≠ 0 := by unfold den1; split <;> omega
theorem den1_le {d : Int} (h : -1048576 ≤ d ∧ d ≤ 1048576) : -1048576 ≤ den1 d ∧ den1 d ≤ 1048576 := by unfold den1; split <;> omega
theorem sm_frac (n d : Int) (hn : -1048576 ≤ n ∧ n ≤ 1048576) (hd : -1048576 ≤ d ∧ d ≤ 1048576) : Sm (((n : Int) : Rat) / ((den1 d : Int) : Rat)) := by
  have h1 := frac_le n (den1 d) (den1_ne d)
  have h2 := den1_le hd
  unfold Sm; omega
end Go.Proofs.Ytamcibmjpmibdaa
namespace Go.Proofs.Ytamcibmjpmibdaa
open Go.RowKit
set_option linter.unusedSimpArgs false

section
variable {o : Oper} {a : Act} {w : World} {t : Tmp} {g : Nat}
theorem fld_q0 (ho : o.op = .fieldAddr 58 (.tmp t) 0) (hx : tv a t = .pointer (some ⟨g, 0, none⟩)) : gives Try.prog o a.eval w (fun v w' => v = .pointer (some ⟨g, 0, none⟩) ∧ Below w.heap.size w w') := by
  refine gives_val (.pointer (some ⟨g, 0, none⟩)) ?_ ⟨rfl, Below.refl _ _⟩
  unfold execOp; rw [ho]; simp only [eval_tmp, hx]; go_simp
theorem fld_q1 (ho : o.op = .fieldAddr 58 (.tmp t) 1) (hx : tv a t = .pointer (some ⟨g, 0, none⟩)) : gives Try.prog o a.eval w (fun v w' => v = .pointer (some ⟨g, 1, none⟩) ∧ Below w.heap.size w w') := by
  refine gives_val (.pointer (some ⟨g, 1, none⟩)) ?_ ⟨rfl, Below.refl _ _⟩
  unfold execOp; rw [ho]; simp only [eval_tmp, hx]; go_simp
theorem gives_neg_i64 {P : Program} {K : Value → World → Prop} (i : Int) (t : TypeId) (x : Operand) (ho : o.op = .unOp .neg t x) (hx : a.eval x = .int .i64 i) (hb : -1048576 ≤ i ∧ i ≤ 1048576) (hK : K (.int .i64 (-i)) w) : gives P o a.eval w K := by
  refine gives_val _ ?_ hK
  have e : IntKind.i64.wrap (-i) = -i := IntWalk.i64_in _ (by omega)
  unfold execOp
  rw [ho]
  simp only [hx]
  go_simp
theorem ext_z0 (ho : o.op = .extract (.tmp t) 0) (h : tv a t = .tuple #[.agg #[.bool false, .slice none 0 0, .slice none 0 0], .int .i64 18]) : gives Try.prog o a.eval w (fun v w' => v = .agg #[.bool false, .slice none 0 0, .slice none 0 0] ∧ Below w.heap.size w w') := by
  refine gives_val (.agg #[.bool false, .slice none 0 0, .slice none 0 0]) ?_ ⟨rfl, Below.refl _ _⟩
  unfold execOp
  rw [ho]
  simp only [eval_tmp, h]
  go_simp
theorem store_zero {u : Tmp} {B : Nat} {K : Act → World → Prop} {Q : Exit → Act → World → Prop} (ho : o.op = .store 41 (.tmp t) (.tmp u)) (hd : o.dst = none) (ht : a.eval (.tmp t) = .pointer (some ⟨g, 0, none⟩)) (hu : a.eval (.tmp u) = .agg #[.bool false, .slice none 0 0, .slice none 0 0])
    (hz : Zx B g w) (next : ∀ w', TB w' g 41 (.bool false) (.slice none 0 0) (.slice none 0 0) → (∀ C W, C ≤ g → Below C W w → Below C W w') → K a w') : o.wp Try.prog a w K Q := by
  have hT := hz.2
  refine wp_store_mid 41 (.tmp t) (.tmp u) ho g 0 #[.bool false, .slice none 0 0, .slice none 0 0] ht hu (fun j hj => ⟨?_, hT.blk.frozen _⟩) (by kernel_rfl) (by simp [Value.oneCell']) ?_
  · rw [hT.blk.cell]
    have : j < 3 := by simpa using hj
    simp [this]
  · rw [hd]
    have e : w.setCells g 0 [.bool false, .slice none 0 0, .slice none 0 0] = ((w.setCell ⟨g, 0, none⟩ (.bool false)).setCell ⟨g, 1, none⟩ (.slice none 0 0)).setCell ⟨g, 2, none⟩ (.slice none 0 0) := rfl
    show K a (w.setCells g 0 [.bool false, .slice none 0 0, .slice none 0 0])
    rw [e]
    exact next _ (((hT.blk.set_ 0 _).set_ 1 _).set_ 2 _) (fun B W hB hb => below_store3 hb hB _ _ _)
end
/-- A Rat and its fraction, both stored. -/
theorem pair_world {w4 W : World} {g3 g4 C : Nat} {x : Rat} {y1 y2 y3 : Value} (rv : Rv 2 x (.agg #[y1, y2, y3]) w4) (hT : TB w4 g3 41 y1 y2 y3) (hQ : GB w4 g4 58 (.int .i64 0) (.int .i64 0)) (hne : g4 ≠ g3) (hb : Below C W w4) (hC : C ≤ g4) :
    (fun w5 => Bn 2 x g3 w5 ∧ Qb x g4 w5 ∧ Below C W w5) ((w4.setCell ⟨g4, 0, none⟩ (.int .i64 x.num)).setCell ⟨g4, 1, none⟩ (.int .i64 (x.den : Int))) := by
  have r1 := rv.setQ hQ (.int .i64 x.num) (.int .i64 (x.den : Int))
  have hT' := (hT.blk.far (p := ⟨g4, 0, none⟩) (Ne.symm hne) (.int .i64 x.num)).far (p := ⟨g4, 1, none⟩) (Ne.symm hne) (.int .i64 (x.den : Int))
  have hQ' := (hQ.blk.set_ 0 (.int .i64 x.num)).set_ 1 (.int .i64 (x.den : Int))
  have hW' := (hb.setCell (p := ⟨g4, 0, none⟩) hC (.int .i64 x.num)).setCell (p := ⟨g4, 1, none⟩) hC (.int .i64 (x.den : Int))
  refine ⟨?_, hQ', hW'⟩
  obtain ⟨s, A, n, c, B, m, d, he, h⟩ := r1
  simp only [Value.agg.injEq, Array.mk.injEq, List.cons.injEq, and_true] at he
  obtain ⟨rfl, rfl, rfl⟩ := he
  exact ⟨s, A, n, c, B, m, d, hT', h⟩
/-- A fraction, stored. -/
theorem q_world {w4 W : World} {g C : Nat} {x : Rat} (hQ : GB w4 g 58 (.int .i64 0) (.int .i64 0)) (hb : Below C W w4) (hC : C ≤ g) :
    (fun w5 => Qb x g w5 ∧ Below C W w5) ((w4.setCell ⟨g, 0, none⟩ (.int .i64 x.num)).setCell ⟨g, 1, none⟩ (.int .i64 (x.den : Int))) :=
  ⟨(hQ.blk.set_ 0 (.int .i64 x.num)).set_ 1 (.int .i64 (x.den : Int)), (hb.setCell (p := ⟨g, 0, none⟩) hC (.int .i64 x.num)).setCell (p := ⟨g, 1, none⟩) hC (.int .i64 (x.den : Int))⟩

section
variable {x y : Rat}
theorem Sm.mul_le (hx : Sm x) (hy : Sm y) : (x * y).num.natAbs ≤ 9223372036854775807 ∧ (x * y).den ≤ 9223372036854775807 := by
  obtain ⟨a1, a2, a3⟩ := hx.rng; obtain ⟨b1, b2, b3⟩ := hy.rng
  have m1 := mul_small a1 b1; have m2 := mul_small a2 b2
  have := frac_le (x.num * y.num) ((x.den : Int) * (y.den : Int)) (Int.mul_ne_zero a3 b3)
  rw [mul_frac] at this
  omega
theorem Sm.add_le (hx : Sm x) (hy : Sm y) : (x + y).num.natAbs ≤ 9223372036854775807 ∧ (x + y).den ≤ 9223372036854775807 := by
  obtain ⟨a1, a2, a3⟩ := hx.rng; obtain ⟨b1, b2, b3⟩ := hy.rng
  have m1 := mul_small a1 b2; have m2 := mul_small a2 b2; have m3 := mul_small b1 a2
  have := frac_le (x.num * (y.den : Int) + y.num * (x.den : Int)) ((x.den : Int) * (y.den : Int)) (Int.mul_ne_zero a3 b3)
  rw [add_frac] at this
  omega
theorem Sm.neg (hx : Sm x) : Sm (-x) := by
  unfold Sm at *
  rw [Rat.neg_num, Rat.neg_den]
  omega
theorem Sm.le (hx : Sm x) : x.num.natAbs ≤ 9223372036854775807 ∧ x.den ≤ 9223372036854775807 := by unfold Sm at *; omega
/-- The reciprocal, as the law writes it. -/
def recp (y : Rat) : Rat := ((y.den : Int) : Rat) / ((y.num : Int) : Rat)
theorem num_ne (h : y ≠ 0) : y.num ≠ 0 := fun h4 => h (Rat.num_eq_zero.1 h4)
theorem Sm.recp (hy : Sm y) (h : y ≠ 0) : Sm (recp y) := by
  have := frac_le (y.den : Int) y.num (num_ne h)
  unfold Sm at *
  show (((y.den : Int) : Rat) / ((y.num : Int) : Rat)).num.natAbs ≤ _ ∧ _
  unfold Go.Proofs.Ytamcibmjpmibdaa.recp
  omega
theorem div_recp (h : y ≠ 0) : x / y = x * recp y := by
  have h2 := self_frac y
  have d2 : (((y.den : Nat) : Int) : Rat) ≠ 0 := by intro h; have := Rat.intCast_eq_zero_iff.1 h; have := y.den_nz; omega
  have d3 : ((y.num : Int) : Rat) ≠ 0 := by intro h3; exact num_ne h (Rat.intCast_eq_zero_iff.1 h3)
  unfold recp
  generalize ((y.num : Int) : Rat) = c at *; generalize (((y.den : Nat) : Int) : Rat) = d at *
  rw [← h2]; grind
theorem neg_frac (y : Rat) : ((-y.num : Int) : Rat) / ((y.den : Int) : Rat) = -y := by
  have h2 := self_frac y
  rw [Rat.intCast_neg]
  generalize ((y.num : Int) : Rat) = c at *; generalize (((y.den : Nat) : Int) : Rat) = d at *
  rw [← h2]; grind
theorem bn_of {b g : Nat} {w : World} {y1 y2 y3 : Value} (rv : Rv b x (.agg #[y1, y2, y3]) w) (hT : TB w g 41 y1 y2 y3) : Bn b x g w := by
  obtain ⟨s, A, n, c, B, m, d, he, h⟩ := rv
  simp only [Value.agg.injEq, Array.mk.injEq, List.cons.injEq, and_true] at he
  obtain ⟨rfl, rfl, rfl⟩ := he
  exact ⟨s, A, n, c, B, m, d, hT, h⟩
def negq (y : Rat) : Rat := ((-y.num : Int) : Rat) / ((y.den : Int) : Rat)
theorem negq_eq (y : Rat) : negq y = -y := neg_frac y
def zeroq : Rat := ((0 : Int) : Rat) / ((1 : Int) : Rat)
theorem zeroq_eq : zeroq = 0 := one_div 0
theorem sm_zeroq : Sm zeroq := by rw [zeroq_eq]; exact ⟨by decide, by decide⟩
theorem rcq_zero (x : Rat) : rcq x 0 = x.num.sign := by
  rw [rcq_num]
  have e1 : (0 : Rat).num = 0 := rfl
  have e2 : (0 : Rat).den = 1 := rfl
  rw [e1, e2]
  simp only [Int.natCast_one, Int.mul_one, Int.zero_mul]
  rcases Int.lt_trichotomy x.num 0 with h1 | h1 | h1
  · rw [if_pos h1, Int.sign_eq_neg_one_of_neg h1]
  · rw [h1]; simp
  · rw [if_neg (by omega), if_pos h1, Int.sign_eq_one_of_pos h1]
end
end Go.Proofs.Ytamcibmjpmibdaa
namespace Go.Proofs.Ytamcibmjpmibdaa
open Go.RowKit
section
variable {o : Oper} {a : Act} {w : World} {t u : Tmp}
theorem idx_es {ad : Addr} {n c k : Nat} (hk : k < n) (ho : o.op = .indexAddr 38 (.tmp t) (.tmp u)) (h : tv a t = .slice (some ad) n c) (h2 : tv a u = .int .i64 (k : Int)) : gives Try.prog o a.eval w (fun v w' => v = .pointer (some (ad.add k)) ∧ Below w.heap.size w w') := by
  refine gives_val (.pointer (some (ad.add k))) ?_ ⟨rfl, Below.refl _ _⟩
  have i1 : (0 : Int) ≤ (k : Int) := by omega
  have i2 : (k : Int) < (n : Int) := by omega
  unfold execOp; rw [ho]; simp only [eval_tmp, h, h2]; go_simp
theorem load_u {p : Addr} {v : Value} (ho : o.op = .load 111 (.tmp t)) (hx : tv a t = .pointer (some p)) (hc : w.cell? p = some v) : gives Try.prog o a.eval w (fun z w' => z = v ∧ Below w.heap.size w w') := by
  refine gives_val v ?_ ⟨rfl, Below.refl _ _⟩
  unfold execOp; rw [ho]; simp only [eval_tmp, hx]; go_simp
theorem load_b {p : Addr} {v : Value} (ho : o.op = .load 4 (.tmp t)) (hx : tv a t = .pointer (some p)) (hc : w.cell? p = some v) : gives Try.prog o a.eval w (fun z w' => z = v ∧ Below w.heap.size w w') := by
  refine gives_val v ?_ ⟨rfl, Below.refl _ _⟩
  unfold execOp; rw [ho]; simp only [eval_tmp, hx]; go_simp
theorem idx_xs {ad : Addr} {n c k : Nat} {y : Operand} (hk : k < n) (ho : o.op = .indexAddr 86 (.tmp t) y) (h : tv a t = .slice (some ad) n c) (h2 : a.eval y = .int .i64 (k : Int)) : gives Try.prog o a.eval w (fun v w' => v = .pointer (some (ad.add k)) ∧ Below w.heap.size w w') := by
  refine gives_val (.pointer (some (ad.add k))) ?_ ⟨rfl, Below.refl _ _⟩
  have i1 : (0 : Int) ≤ (k : Int) := by omega
  have i2 : (k : Int) < (n : Int) := by omega
  unfold execOp; rw [ho]; simp only [eval_tmp, h, h2]; go_simp
end
end Go.Proofs.Ytamcibmjpmibdaa
namespace Go.Proofs.Ytamcibmjpmibdaa
open Go.RowKit
set_option linter.unusedVariables false

/-- All digits stay where they are. -/
def KeepsN (w w' : World) : Prop := w.heap.size ≤ w'.heap.size ∧ ∀ (p : Addr) x, w.cell? p = some (.int .u32 x) → w'.cell? p = some (.int .u32 x)
theorem cell_lt {w : World} {p : Addr} {v : Value} (h : w.cell? p = some v) : p.block < w.heap.size := by
  rcases Nat.lt_or_ge p.block w.heap.size with h1 | h1
  · exact h1
  · have : w.heap[p.block]? = none := Array.getElem?_eq_none h1
    unfold World.cell? at h
    simp [this] at h
section
variable {w w' w'' : World}
theorem KeepsN.refl (w : World) : KeepsN w w := ⟨Nat.le_refl _, fun _ _ h => h⟩
theorem KeepsN.trans (h : KeepsN w w') (h' : KeepsN w' w'') : KeepsN w w'' := ⟨Nat.le_trans h.1 h'.1, fun p x hp => h'.2 p x (h.2 p x hp)⟩
theorem KeepsN.below (h : Below w.heap.size w w') : KeepsN w w' := ⟨h.size, fun p x hp => (h.cell (cell_lt hp)).trans hp⟩
theorem KeepsN.alloc (w : World) (o : Obj) : KeepsN w (w.alloc o) := KeepsN.below (al w o)
theorem KeepsN.setCell {p : Addr} {v : Value} (hc : w.cell? p = some v) (hv : ∀ x, v ≠ .int .u32 x) (u : Value) : KeepsN w (w.setCell p u) := by
  refine ⟨by rw [size_setCell]; exact Nat.le_refl _, fun q x hq => ?_⟩
  rw [World.cell?_setCell_other w p q u]
  · exact hq
  · intro e
    rw [← e, hc] at hq
    cases hq
    exact hv _ rfl
theorem KeepsN.blk {g : Nat} {t : TypeId} {cs : Array Value} (hb : Blk w g t cs) {i : Nat} (hi : i < cs.size) (hv : ∀ x, cs[i]? ≠ some (.int .u32 x)) (u : Value) : KeepsN w (w.setCell ⟨g, i, none⟩ u) := by
  refine KeepsN.setCell (v := cs[i]) ?_ ?_ u
  · rw [hb.cell]; exact Array.getElem?_eq_getElem hi
  · intro x he
    exact hv x (by rw [Array.getElem?_eq_getElem hi, he])
theorem Es.keepN {A : Option Addr} {n : Nat} {es : List Nat} (h : Es w w.heap.size A n es) (k : KeepsN w w') : Es w' w'.heap.size A n es := by
  refine ⟨⟨h.1.1, fun hn => ?_⟩, h.2⟩
  obtain ⟨ad, rfl, hb, hx⟩ := h.1.2 hn
  refine ⟨ad, rfl, Nat.lt_of_lt_of_le hb k.1, fun j y hj => ?_⟩
  have h1 := hx j y hj
  have h2 := U32_get hj
  rw [h2] at h1 ⊢
  exact k.2 _ _ h1
theorem Num.keepN {A : Option Addr} {k c b N : Nat} (h : Num w A k c b N) (hk : KeepsN w w') : Num w' A k c b N := by
  obtain ⟨h1, h2, h3, h4, l, h5, h6⟩ := h
  exact ⟨h1, h2, h3, h4, l, h5.keepN hk, h6⟩
theorem Norm.keepN {A : Option Addr} {k N : Nat} (h : Norm w A k N) (hk : KeepsN w w') : Norm w' A k N := by
  obtain ⟨l, h5, h6⟩ := h
  exact ⟨l, h5.keepN hk, h6⟩
theorem Rv.keepN {b : Nat} {x : Rat} {v : Value} (h : Rv b x v w) (k : KeepsN w w') : Rv b x v w' := by
  obtain ⟨s, A, n, c, B, m, d, e, h1, ⟨h2, h3⟩, h4, h5⟩ := h
  exact ⟨s, A, n, c, B, m, d, e, h1, ⟨h2.keepN k, h3.keepN k⟩, h4.keepN k, h5.keepN k⟩
theorem Rw.keepN {b : Nat} {x : Rat} {v : Value} (h : Rw b x v w) (k : KeepsN w w') : Rw b x v w' := by
  obtain ⟨s, A, n, c, B, m, d, e, N, M, h1, h2, h3⟩ := h
  exact ⟨s, A, n, c, B, m, d, e, N, M, h1.keepN k, h2.keepN k, h3⟩
/-- A smaller bound. -/
theorem Rv.fit {b b' : Nat} {x : Rat} {v : Value} (h : Rv b x v w) (h1 : x.num.natAbs < PB b') (h2 : x.den < PB b') (h3 : 1 ≤ b') : Rv b' x v w := by
  obtain ⟨s, A, n, c, B, m, d, e, q1, ⟨⟨p1, p2, p3, p4, p5⟩, q2⟩, ⟨r1, r2, r3, r4, r5⟩, q3⟩ := h
  exact ⟨s, A, n, c, B, m, d, e, q1, ⟨⟨p1, h3, p3, h1, p5⟩, q2⟩, ⟨r1, h3, r3, h2, r5⟩, q3⟩
theorem Rw.agg {b : Nat} {x : Rat} {v : Value} (h : Rw b x v w) : ∃ s A n c B m d, v = .agg #[.bool s, .slice A n c, .slice B m d] := by
  obtain ⟨s, A, n, c, B, m, d, e, _⟩ := h; exact ⟨s, A, n, c, B, m, d, e⟩
end

/-- The cells of n Rats; P says what each holds. -/
def RL (P : Nat → Value → Prop) (n : Nat) (xs : List Value) : Prop := xs.length = n * 3 ∧ ∀ j, j < n → ∃ s A k c B m d, xs[j * 3]? = some (.bool s) ∧ xs[j * 3 + 1]? = some (.slice A k c) ∧ xs[j * 3 + 2]? = some (.slice B m d) ∧ P j (.agg #[.bool s, .slice A k c, .slice B m d])
theorem RL.mono {P Q : Nat → Value → Prop} {n : Nat} {xs : List Value} (h : RL P n xs) (hq : ∀ j v, j < n → P j v → Q j v) : RL Q n xs :=
  ⟨h.1, fun j hj => by obtain ⟨s, A, k, c, B, m, d, h0, h1, h2, h3⟩ := h.2 j hj; exact ⟨s, A, k, c, B, m, d, h0, h1, h2, hq j _ hj h3⟩⟩
theorem RL.app {P : Nat → Value → Prop} {n : Nat} {xs : List Value} {s : Bool} {A B : Option Addr} {k c m d : Nat} (h : RL P n xs) (hp : P n (.agg #[.bool s, .slice A k c, .slice B m d])) : RL P (n + 1) (xs ++ [.bool s, .slice A k c, .slice B m d]) := by
  refine ⟨by rw [List.length_append, h.1, Nat.add_mul]; rfl, fun j hj => ?_⟩
  have hl := h.1
  by_cases hjn : j < n
  · obtain ⟨s', A', k', c', B', m', d', h0, h1, h2, h3⟩ := h.2 j hjn
    exact ⟨s', A', k', c', B', m', d', by rw [List.getElem?_append_left (by omega)]; exact h0, by rw [List.getElem?_append_left (by omega)]; exact h1, by rw [List.getElem?_append_left (by omega)]; exact h2, h3⟩
  · obtain rfl : j = n := by omega
    exact ⟨s, A, k, c, B, m, d, by rw [List.getElem?_append_right (by omega), hl]; simp, by rw [List.getElem?_append_right (by omega), hl, Nat.add_sub_cancel_left]; rfl, by rw [List.getElem?_append_right (by omega), hl, Nat.add_sub_cancel_left]; rfl, hp⟩
theorem RL.clean {P : Nat → Value → Prop} {n : Nat} {xs : List Value} (h : RL P n xs) (i : Nat) (x : Int) : xs[i]? ≠ some (.int .u32 x) := by
  intro he
  have hi : i < n * 3 := by
    rcases Nat.lt_or_ge i xs.length with h4 | h4
    · have := h.1; omega
    · rw [List.getElem?_eq_none h4] at he; cases he
  obtain ⟨s, A, k, c, B, m, d, q0, q1, q2, q3⟩ := h.2 (i / 3) (by omega)
  have : i = i / 3 * 3 ∨ i = i / 3 * 3 + 1 ∨ i = i / 3 * 3 + 2 := by omega
  rcases this with h5 | h5 | h5
  · rw [h5, q0] at he; cases he
  · rw [h5, q1] at he; cases he
  · rw [h5, q2] at he; cases he
theorem RL.set {P Q : Nat → Value → Prop} {n j : Nat} {xs : List Value} {s : Bool} {A B : Option Addr} {k c m d : Nat} (h : RL P n xs) (hj : j < n) (hq : ∀ i v, i < n → i ≠ j → P i v → Q i v) (hv : Q j (.agg #[.bool s, .slice A k c, .slice B m d])) :
    RL Q n (((xs.set (j * 3) (.bool s)).set (j * 3 + 1) (.slice A k c)).set (j * 3 + 2) (.slice B m d)) := by
  refine ⟨by simp [h.1], fun i hi => ?_⟩
  have hl := h.1
  by_cases hij : i = j
  · subst hij
    exact ⟨s, A, k, c, B, m, d, by simp [List.getElem?_set]; omega, by simp [List.getElem?_set]; omega, by simp [List.getElem?_set]; omega, hv⟩
  · obtain ⟨s', A', k', c', B', m', d', h0, h1, h2, h3⟩ := h.2 i hi
    refine ⟨s', A', k', c', B', m', d', ?_, ?_, ?_, hq i _ hi hij h3⟩
    · rw [List.getElem?_set_ne (by omega), List.getElem?_set_ne (by omega), List.getElem?_set_ne (by omega)]; exact h0
    · rw [List.getElem?_set_ne (by omega), List.getElem?_set_ne (by omega), List.getElem?_set_ne (by omega)]; exact h1
    · rw [List.getElem?_set_ne (by omega), List.getElem?_set_ne (by omega), List.getElem?_set_ne (by omega)]; exact h2
/-- A slice of n Rats. -/
def Rs (w : World) (B : Nat) (A : Option Addr) (n : Nat) (P : Nat → Value → Prop) : Prop := ∃ xs, Reads w B 3 A n xs ∧ RL P n xs
/-- A block of n Rats. -/
def RB (w : World) (g : Nat) (n : Nat) (P : Nat → Value → Prop) : Prop := ∃ cs : Array Value, Blk w g 41 cs ∧ RL P n cs.toList
/-- Normal Rats, and Rats of any form. -/
def PN (w : World) (b : Nat) (f : Nat → Rat) (j : Nat) (v : Value) : Prop := Rv b (f j) v w
def PW (w : World) (b : Nat) (f : Nat → Rat) (j : Nat) (v : Value) : Prop := Rw b (f j) v w
section
variable {w w' : World} {B g n b : Nat} {A : Option Addr} {f : Nat → Rat} {P Q : Nat → Value → Prop}
theorem RB.lt (h : RB w g n P) : g < w.heap.size := by obtain ⟨cs, h1, _⟩ := h; exact h1.lt
theorem Rs.at_ (h : Rs w B A n P) {j : Nat} (hj : j < n) : ∃ ad s A0 k c B0 m d, A = some ad ∧ ad.block < B ∧ w.cell? (ad.add (j * 3)) = some (.bool s) ∧ w.cell? (ad.add (j * 3 + 1)) = some (.slice A0 k c) ∧ w.cell? (ad.add (j * 3 + 2)) = some (.slice B0 m d) ∧ P j (.agg #[.bool s, .slice A0 k c, .slice B0 m d]) := by
  obtain ⟨xs, ⟨h0, h1⟩, h2⟩ := h
  obtain ⟨s, A0, k, c, B0, m, d, q0, q1, q2, q3⟩ := h2.2 j hj
  obtain ⟨ad, e, hb, hc⟩ := h1 (by omega)
  exact ⟨ad, s, A0, k, c, B0, m, d, e, hb, hc _ _ q0, hc _ _ q1, hc _ _ q2, q3⟩
theorem addr_zero (g k : Nat) : (Addr.add ⟨g, 0, none⟩ k) = ⟨g, k, none⟩ := by unfold Addr.add; split <;> simp_all
theorem Rs.of_rb (h : RB w g n P) : Rs w w.heap.size (some ⟨g, 0, none⟩) n P := by
  obtain ⟨cs, h1, h2⟩ := h
  refine ⟨cs.toList, ⟨h2.1, fun _ => ⟨_, rfl, h1.lt, fun j u hu => ?_⟩⟩, h2⟩
  rw [addr_zero, h1.cell]; simpa using hu
theorem Rs.mono (h : Rs w B A n P) (hq : ∀ j v, j < n → P j v → Q j v) : Rs w B A n Q := by
  obtain ⟨xs, h1, h2⟩ := h; exact ⟨xs, h1, h2.mono hq⟩
theorem RB.mono (h : RB w g n P) (hq : ∀ j v, j < n → P j v → Q j v) : RB w g n Q := by
  obtain ⟨xs, h1, h2⟩ := h; exact ⟨xs, h1, h2.mono hq⟩
theorem PN.keep {j : Nat} {v : Value} (h : PN w b f j v) (k : KeepsN w w') : PN w' b f j v := Rv.keepN h k
theorem PW.keep {j : Nat} {v : Value} (h : PW w b f j v) (k : KeepsN w w') : PW w' b f j v := Rw.keepN h k
theorem Rs.below (h : Rs w w.heap.size A n P) (hb : Below w.heap.size w w') (hq : ∀ j v, j < n → P j v → Q j v) : Rs w' w'.heap.size A n Q := by
  obtain ⟨xs, h1, h2⟩ := h
  exact ⟨xs, (h1.below hb).more hb.size, h2.mono hq⟩
theorem Rs.newN (h : Rs w w.heap.size A n (PN w b f)) (hb : Below w.heap.size w w') : Rs w' w'.heap.size A n (PN w' b f) := h.below hb fun _ _ _ hv => PN.keep hv (KeepsN.below hb)
theorem Rs.newW (h : Rs w w.heap.size A n (PW w b f)) (hb : Below w.heap.size w w') : Rs w' w'.heap.size A n (PW w' b f) := h.below hb fun _ _ _ hv => PW.keep hv (KeepsN.below hb)
theorem Rs.toW (h : Rs w B A n (PN w b f)) : Rs w B A n (PW w b f) := h.mono fun _ _ _ hv => Rv.rw hv
theorem RB.below (h : RB w g n P) (hb : Below w.heap.size w w') (hq : ∀ j v, j < n → P j v → Q j v) : RB w' g n Q := by
  obtain ⟨cs, h1, h2⟩ := h
  exact ⟨cs, h1.below hb h1.lt, h2.mono hq⟩
theorem RB.newN (h : RB w g n (PN w b f)) (hb : Below w.heap.size w w') : RB w' g n (PN w' b f) := h.below hb fun _ _ _ hv => PN.keep hv (KeepsN.below hb)
/-- A store elsewhere. -/
theorem RB.far (h : RB w g n P) {p : Addr} (hp : g ≠ p.block) {u : Value} (hq : ∀ j v, j < n → P j v → Q j v) : RB (w.setCell p u) g n Q := by
  obtain ⟨cs, h1, h2⟩ := h
  exact ⟨cs, h1.far hp u, h2.mono hq⟩
theorem RB.clean (h : RB w g n P) : ∃ cs, Blk w g 41 cs ∧ cs.size = n * 3 ∧ ∀ (i : Nat) x, cs[i]? ≠ some (.int .u32 x) := by
  obtain ⟨cs, h1, h2⟩ := h
  exact ⟨cs, h1, by have := h2.1; simpa using this, fun i x he => h2.clean i x (by simpa using he)⟩
theorem RB.new {n : Nat} (w : World) (cs : Array Value) (h : RL P n cs.toList) : RB (w.alloc (.cells cs 41)) w.heap.size n P := ⟨cs, Blk.new w _ _, h⟩
end
/-- A Rat is written into a row. -/
theorem store_row {o : Oper} {a : Act} {w : World} {t u : Tmp} {g n j b : Nat} {P : Nat → Value → Prop} {x : Rat} {v : Value} {K : Act → World → Prop} {Q : Exit → Act → World → Prop} (ho : o.op = .store 41 (.tmp t) (.tmp u)) (hd : o.dst = none) (ht : a.eval (.tmp t) = .pointer (some (Addr.add ⟨g, 0, none⟩ (j * 3)))) (hu : a.eval (.tmp u) = v)
    (hr : RB w g n P) (hj : j < n) (hv : Rw b x v w) (next : ∀ w', KeepsN w w' → w.grownBy w' (some g) → w'.heap.size = w.heap.size → (∀ R : Nat → Value → Prop, (∀ i u, i < n → i ≠ j → P i u → R i u) → R j v → RB w' g n R) → K a w') : o.wp Try.prog a w K Q := by
  obtain ⟨s, A, k, c, B, m, d, rfl⟩ := hv.agg
  obtain ⟨cs, h1, h2⟩ := hr
  have hsz : cs.size = n * 3 := by have := h2.1; simpa using this
  rw [addr_zero] at ht
  have e : w.setCells g (j * 3) [.bool s, .slice A k c, .slice B m d] = ((w.setCell ⟨g, j * 3, none⟩ (.bool s)).setCell ⟨g, j * 3 + 1, none⟩ (.slice A k c)).setCell ⟨g, j * 3 + 2, none⟩ (.slice B m d) := rfl
  have b1 := h1.set_ (j * 3) (.bool s)
  have b2 := b1.set_ (j * 3 + 1) (.slice A k c)
  have b3 := b2.set_ (j * 3 + 2) (.slice B m d)
  have cl : ∀ (i : Nat) x, cs[i]? ≠ some (.int .u32 x) := fun i x he => h2.clean i x (by simpa using he)
  have cl1 : ∀ (i : Nat) x, (cs.setIfInBounds (j * 3) (.bool s))[i]? ≠ some (.int .u32 x) := fun i x he => by
    rw [Array.getElem?_setIfInBounds] at he
    split at he
    · split at he <;> cases he
    · exact cl i x he
  have cl2 : ∀ (i : Nat) x, ((cs.setIfInBounds (j * 3) (.bool s)).setIfInBounds (j * 3 + 1) (.slice A k c))[i]? ≠ some (.int .u32 x) := fun i x he => by
    rw [Array.getElem?_setIfInBounds] at he
    split at he
    · split at he <;> cases he
    · exact cl1 i x he
  have kp : KeepsN w (w.setCells g (j * 3) [.bool s, .slice A k c, .slice B m d]) := by
    rw [e]
    exact ((KeepsN.blk h1 (by omega) (cl _) _).trans (KeepsN.blk b1 (by simp; omega) (cl1 _) _)).trans (KeepsN.blk b2 (by simp; omega) (cl2 _) _)
  refine wp_store_mid 41 (.tmp t) (.tmp u) ho g (j * 3) #[.bool s, .slice A k c, .slice B m d] ht hu (fun i hi => ⟨?_, h1.frozen _⟩) (by kernel_rfl) (by simp [Value.oneCell']) ?_
  · rw [h1.cell]
    have : i < 3 := by simpa using hi
    rw [Array.getElem?_eq_getElem (by omega)]; rfl
  · rw [hd]
    refine next _ kp (only_setCells _ _ _ (World.grownBy.refl w _)) (by show (w.setCells g (j * 3) [.bool s, .slice A k c, .slice B m d]).heap.size = _; rw [e, size_setCell, size_setCell, size_setCell]) (fun R hR hj' => ⟨_, b3, ?_⟩)
    have := h2.set hj hR hj'
    simpa using this
section
variable {o : Oper} {a : Act} {w : World} {t u : Tmp}
theorem idx_rs {ad : Addr} {n c k : Nat} {y : Operand} (hk : k < n) (ho : o.op = .indexAddr 28 (.tmp t) y) (h : tv a t = .slice (some ad) n c) (h2 : a.eval y = .int .i64 (k : Int)) : gives Try.prog o a.eval w (fun v w' => v = .pointer (some (ad.add (k * 3))) ∧ Below w.heap.size w w') := by
  refine gives_val (.pointer (some (ad.add (k * 3)))) ?_ ⟨rfl, Below.refl _ _⟩
  have i1 : (0 : Int) ≤ (k : Int) := by omega
  have i2 : (k : Int) < (n : Int) := by omega
  unfold execOp; rw [ho]; simp only [eval_tmp, h, h2]; go_simp
theorem run_load_rat (w : World) (p : Addr) (x y z : Value) (h0 : w.cell? p = some x) (h1 : w.cell? (p.add 1) = some y) (h2 : w.cell? (p.add 2) = some z) : (loadVar 41 p).run Try.prog w = .ok (.agg #[x, y, z]) w := by
  obtain ⟨i, hi, hz, hs1, hby⟩ := info_parts (P := Try.prog) (e := 41) (z := .agg #[.bool false, .slice none 0 0, .slice none 0 0]) (size := 3) (bytes := 56) (by kernel_rfl)
  have hl := run_loadCells_list (P := Try.prog) w p [x, y, z] (fun j v hv => by
    match j with
    | 0 => simp at hv; subst hv; simpa [Addr.add] using h0
    | 1 => simp at hv; subst hv; exact h1
    | 2 => simp at hv; subst hv; exact h2
    | j + 3 => simp at hv)
  have hagg : (isAgg 41).run Try.prog w = .ok true w := by
    unfold isAgg
    rw [Sem.run_bind, run_underlying Try.underlying41 w]
    rfl
  simp only [List.length_cons, List.length_nil, Nat.zero_add, Nat.reduceAdd] at hl
  simp [loadVar, Sem.run_bind, hagg, sizeOf, typeInfo, hi, hs1, hl]
/-- An element of a row is loaded. -/
theorem load_rs {B n j : Nat} {ad : Addr} {P : Nat → Value → Prop} (ho : o.op = .load 41 (.tmp t)) (hx : tv a t = .pointer (some (ad.add (j * 3)))) (h : Rs w B (some ad) n P) (hj : j < n) : gives Try.prog o a.eval w (fun v w' => P j v ∧ w' = w) := by
  obtain ⟨ad', s, A0, k, c, B0, m, d, e, hb, q0, q1, q2, q3⟩ := h.at_ hj
  injection e with e
  subst e
  rw [← add_of_add] at q1 q2
  have hl := run_load_rat w (ad.add (j * 3)) _ _ _ q0 q1 q2
  have h : (execOp a.eval o).run Try.prog w = .ok (.value (.agg #[.bool s, .slice A0 k c, .slice B0 m d])) w := by
    unfold execOp
    rw [ho]
    simp only [eval_tmp, hx, Instr.loadAt, Instr.sureAddr, Sem.run_bind, Sem.run_pure, Result.andThen_ok, hl]
  exact gives_val _ h ⟨q3, rfl⟩
theorem load_rn {B n j b : Nat} {f : Nat → Rat} {ad : Addr} (ho : o.op = .load 41 (.tmp t)) (hx : tv a t = .pointer (some (ad.add (j * 3)))) (h : Rs w B (some ad) n (PN w b f)) (hj : j < n) : gives Try.prog o a.eval w (fun v w' => Rv b (f j) v w' ∧ Below w.heap.size w w') :=
  gives_mono (load_rs ho hx h hj) (fun v w' ⟨h1, h2⟩ => by subst h2; exact ⟨h1, Below.refl _ _⟩)
theorem load_rw {B n j b : Nat} {f : Nat → Rat} {ad : Addr} (ho : o.op = .load 41 (.tmp t)) (hx : tv a t = .pointer (some (ad.add (j * 3)))) (h : Rs w B (some ad) n (PW w b f)) (hj : j < n) : gives Try.prog o a.eval w (fun v w' => Rw b (f j) v w' ∧ Below w.heap.size w w') :=
  gives_mono (load_rs ho hx h hj) (fun v w' ⟨h1, h2⟩ => by subst h2; exact ⟨h1, Below.refl _ _⟩)
theorem load_rp {B n j b : Nat} {x : Rat} {ad : Addr} {P : Nat → Value → Prop} (ho : o.op = .load 41 (.tmp t)) (hx : tv a t = .pointer (some (ad.add (j * 3)))) (h : Rs w B (some ad) n P) (hj : j < n) (hp : ∀ v, P j v → Rv b x v w) : gives Try.prog o a.eval w (fun v w' => Rv b x v w' ∧ Below w.heap.size w w') :=
  gives_mono (load_rs ho hx h hj) (fun v w' ⟨h1, h2⟩ => by subst h2; exact ⟨hp v h1, Below.refl _ _⟩)
end
end Go.Proofs.Ytamcibmjpmibdaa
namespace Go.Proofs.Ytamcibmjpmibdaa
open Go.RowKit
theorem info_bool : (Try.prog.info? 4).map (fun i => (i.zero, i.size, i.bytes)) = some (some (.bool false), 1, 1) := by kernel_rfl
theorem info_int : (Try.prog.info? 3).map (fun i => (i.zero, i.size, i.bytes)) = some (some (.int .i64 0), 1, 8) := by kernel_rfl
theorem mk_u32 (n : Nat) (hn : n ≤ 1000000) (W : World) : (Instr.makeSlice 38 (.int .i64 (n : Int)) (.int .i64 (n : Int))).run Try.prog W = .ok (.slice (some ⟨W.heap.size, 0, none⟩) n n) (W.alloc (.cells (urow (List.replicate n 0)) 111)) := by
  obtain ⟨i, hi, hz, hs, hb⟩ := info_parts info_u32
  have h := run_make_rowN (P := Try.prog) 38 111 i (.int .u32 0) Try.underlying38 hi hz .i64 .i64 n n (Nat.le_refl _) (by rw [hb]; omega) (by omega) W
  rw [hs, Nat.mul_one] at h
  rw [h, ← urow_make]; rfl
theorem mk_int (n : Nat) (hn : n ≤ 1000000) (W : World) : (Instr.makeSlice 86 (.int .i64 (n : Int)) (.int .i64 (n : Int))).run Try.prog W = .ok (.slice (some ⟨W.heap.size, 0, none⟩) n n) (W.alloc (.cells (irow (List.replicate n 0)) 3)) := by
  obtain ⟨i, hi, hz, hs, hb⟩ := info_parts info_int
  have h := run_make_rowN (P := Try.prog) 86 3 i (.int .i64 0) Try.underlying86 hi hz .i64 .i64 n n (Nat.le_refl _) (by rw [hb]; omega) (by omega) W
  rw [hs, Nat.mul_one] at h
  rw [h, ← irow_make]; rfl

section
variable {ops : Array Oper} {rest : List Oper} {o : Oper} {a : Act} {w : World} {Q : Exit → Act → World → Prop}
/-- append(v, y): one number onto a row of the call's own. -/
theorem app_u32 (hgd : o.guard = none) (s x : Operand) (ho : o.op = .call { callee := .builtin .append, args := #[s, x], argTypes := #[38, 38] })
    (base : Nat) (v : Value) (k : Nat) (L : List Nat) (hs : a.eval s = v) (hown : w.ownsRow base 111 1 v k (U32 L)) (g y : Nat) (hx : a.eval x = .slice (some ⟨g, 0, none⟩) 1 1) (hb : Blk w g 111 #[.int .u32 (y : Int)])
    (hk : k ≤ 1000000) (hbase : base ≤ w.heap.size)
    (h : ∀ v' w', w'.ownsRow base 111 1 v' (k + 1) (U32 (L ++ [y])) → w.grownBy w' v.ownBlock → (v'.ownBlock = v.ownBlock ∨ v'.ownBlock = some w.heap.size) → wpList Try.prog ops Q rest (a.put o.dst v') w') : wpList Try.prog ops Q (o :: rest) a w := by
  obtain ⟨i, hi, hz, hs1, hby⟩ := info_parts info_u32
  have hr : Reads w w.heap.size 1 (some ⟨g, 0, none⟩) 1 [.int .u32 (y : Int)] := ⟨rfl, fun _ => ⟨_, rfl, hb.lt, fun j u hu => by
    have e : (Addr.add ⟨g, 0, none⟩ j) = ⟨g, j, none⟩ := by unfold Addr.add; split <;> simp_all
    rw [e, hb.cell]; simpa using hu⟩⟩
  refine wpList_append_any w hgd s x 38 ho base 111 i _ 1 4 Try.underlying38 hi hz hs1 hby rfl (by omega) v k (U32 L) hs hown w.heap.size _ 1 1 _ hx hr (by simp; rfl) (by simp only [maxLen]; omega) (by omega) hbase ?_
  intro v' w' h1 h2 h3
  exact h v' w' (by simpa [U32] using h1) h2 h3
theorem app_int (hgd : o.guard = none) (s x : Operand) (ho : o.op = .call { callee := .builtin .append, args := #[s, x], argTypes := #[86, 86] })
    (base : Nat) (v : Value) (k : Nat) (L : List Int) (hs : a.eval s = v) (hown : w.ownsRow base 3 1 v k (I64 L)) (g : Nat) (y : Int) (hx : a.eval x = .slice (some ⟨g, 0, none⟩) 1 1) (hb : Blk w g 3 #[.int .i64 y])
    (hk : k ≤ 1000000) (hbase : base ≤ w.heap.size)
    (h : ∀ v' w', w'.ownsRow base 3 1 v' (k + 1) (I64 (L ++ [y])) → w.grownBy w' v.ownBlock → (v'.ownBlock = v.ownBlock ∨ v'.ownBlock = some w.heap.size) → wpList Try.prog ops Q rest (a.put o.dst v') w') : wpList Try.prog ops Q (o :: rest) a w := by
  obtain ⟨i, hi, hz, hs1, hby⟩ := info_parts info_int
  have hr : Reads w w.heap.size 1 (some ⟨g, 0, none⟩) 1 [.int .i64 y] := ⟨rfl, fun _ => ⟨_, rfl, hb.lt, fun j u hu => by
    have e : (Addr.add ⟨g, 0, none⟩ j) = ⟨g, j, none⟩ := by unfold Addr.add; split <;> simp_all
    rw [e, hb.cell]; simpa using hu⟩⟩
  refine wpList_append_any w hgd s x 86 ho base 3 i _ 1 8 Try.underlying86 hi hz hs1 hby rfl (by omega) v k (I64 L) hs hown w.heap.size _ 1 1 _ hx hr (by simp; rfl) (by simp only [maxLen]; omega) (by omega) hbase ?_
  intro v' w' h1 h2 h3
  exact h v' w' (by simpa [I64] using h1) h2 h3
end
end Go.Proofs.Ytamcibmjpmibdaa
