/-
  rat: Sign, divisor, Neg, Sub, Div, Cmp.
-/
import Derived.Test.YtifnbpkcnkfanaaQAdd
namespace Go.Proofs.Ytifnbpkcnkfanaa
open Go.RowKit

theorem qv_sign (s : Bool) (N M : Nat) : (qv s N M).num.sign = if N = 0 then 0 else if s then -1 else 1 := by
  by_cases hN : N = 0
  · subst hN; rw [qv_zero, if_pos rfl]; rfl
  · rw [if_neg hN]
    obtain ⟨M', hM', he⟩ : ∃ M', M' ≠ 0 ∧ qv s N M = qv s N M' := by
      by_cases hM : M = 0
      · exact ⟨1, by omega, by rw [hM, qv_den0]⟩
      · exact ⟨M, hM, rfl⟩
    rw [he, qv_num hM']
    have hg : 0 < Nat.gcd N M' := Nat.gcd_pos_of_pos_left _ (by omega)
    have hk : 0 < N / Nat.gcd N M' := Nat.div_pos (Nat.le_of_dvd (by omega) (Nat.gcd_dvd_left N M')) hg
    generalize N / Nat.gcd N M' = k at *
    cases s
    · simp only [Bool.false_eq_true, if_false]; exact Int.sign_eq_one_of_pos (by omega)
    · simp only [if_true]; exact Int.sign_eq_neg_one_of_neg (by omega)

theorem Ra.store3 {w : World} {g : Nat} {t : TypeId} {q : Bool} {a1 b1 : Option Addr} {a2 a3 b2 b3 : Nat} {s : Bool} {A B : Option Addr} {n c m d b : Nat} {r : Rat} (h : Ra w s A n c B m d b r) (ht : TB w g t (.bool q) (.slice a1 a2 a3) (.slice b1 b2 b3)) (x y z : Value) : Ra (((w.setCell ⟨g, 0, none⟩ x).setCell ⟨g, 1, none⟩ y).setCell ⟨g, 2, none⟩ z) s A n c B m d b r := by
  obtain ⟨N, M, h1, h2, h3⟩ := h
  exact ⟨N, M, h1.store3 ht x y z, h2.store3 ht x y z, h3⟩
section
variable {w : World} {s : Bool} {A B : Option Addr} {n c m d b : Nat} {x : Rat}
set_option maxHeartbeats 2000000 in
theorem sign_any (h : Ra w s A n c B m d b x) : Calls Try.prog 24 #[.agg #[.bool s, .slice A n c, .slice B m d]] w fun e w' => e = .returned (.int .i64 x.num.sign) ∧ Below w.heap.size w w' := by
  obtain ⟨N, M, hA, hB, hx⟩ := h
  have HS := Lib.hid (show x.num.sign = if N = 0 then 0 else if s then -1 else 1 by rw [hx, qv_sign])
  have HA := Lib.hid (hA.new (al w (.cells #[.bool s, .slice A n c, .slice B m d] 29))); clear hA hB hx
  go_enter Try.func24, Try.ntmps24
  go_wp2_with fail
  refine (bits_n HA.out).mono ?_
  rintro e w1 ⟨bb, rfl, hbits, hbb, rfl⟩
  by_cases hN : N = 0
  · have HSS := Lib.hid (show x.num.sign = 0 by rw [HS.out, if_pos hN])
    subst hN
    obtain rfl := hbits.zero'
    clear hbits
    go_wp2_with fail
    go_ret
    exact ⟨by rw [HSS.out]; rfl, al w _⟩
  · have tb : ((bb : Int) == 0) = false := by have := hbits.pos' hN; simp; omega
    have HSS := Lib.hid (show x.num.sign = if s then -1 else 1 by rw [HS.out, if_neg hN])
    clear hbits HS hN
    cases s
    all_goals
      go_wp2_with fail
      go_ret
      exact ⟨by rw [HSS.out]; rfl, al w _⟩

def dnz (M : Nat) : Nat := if M = 0 then 1 else M
theorem dnz_ne (M : Nat) : dnz M ≠ 0 := by unfold dnz; split <;> omega
theorem qv_dnz (s : Bool) (N M : Nat) : qv s N M = qv s N (dnz M) := by
  unfold dnz; split
  · rename_i h; rw [h, qv_den0]
  · rfl
set_option maxHeartbeats 2000000 in
theorem divisor_any {M : Nat} (hB : Num w B m d b M) : Calls Try.prog 52 #[.agg #[.bool s, .slice A n c, .slice B m d]] w (RetN1 w b (dnz M)) := by
  have HB := Lib.hid (hB.new (al w (.cells #[.bool s, .slice A n c, .slice B m d] 29))); clear hB
  go_enter Try.func52, Try.ntmps52
  go_wp2_with fail
  refine (bits_n HB.out).mono ?_
  rintro e w1 ⟨bb, rfl, hbits, hbb, rfl⟩
  by_cases hM : M = 0
  · subst hM
    obtain rfl := hbits.zero'
    clear hbits
    go_wp2_with fail
    refine (of_n 1 (by omega) _).mono ?_
    rintro e w2 ⟨A2, k2, c2, rfl, h2, -, hb⟩
    have H2 := Lib.hid h2; have HW := Lib.hid (bthen (al w _) hb (al w _).size); clear h2 hb
    go_wp2_with fail
    go_ret
    exact ⟨A2, k2, c2, rfl, H2.out.up (PB_one HB.out.2.1) HB.out.2.1, HW.out⟩
  · have tb : ((bb : Int) == 0) = false := by have := hbits.pos' hM; simp; omega
    have HD := Lib.hid (show dnz M = M by simp [dnz, hM])
    clear hbits hM
    go_wp2_with fail
    go_ret
    rw [HD.out]
    exact ⟨B, m, d, rfl, HB.out, al w _⟩

set_option maxRecDepth 100000 in
set_option maxHeartbeats 4000000 in
theorem qneg_any (h : Ra w s A n c B m d b x) (hb5 : b ≤ 5000) : Calls Try.prog 25 #[.agg #[.bool s, .slice A n c, .slice B m d]] w (RetQ w b (-x)) := by
  obtain ⟨N, M, hA, hB, hx⟩ := h
  have HX := Lib.hid (show -x = qv (!s) N M by rw [hx, qv_negate]); clear hx
  have HA := Lib.hid hA; have HB := Lib.hid hB; clear hA hB
  go_enter Try.func25, Try.ntmps25
  go_wp2_with fail
  have hT1 : TB ((w.alloc (.cells #[.bool s, .slice A n c, .slice B m d] 29)).alloc (.cells #[.bool false, .slice none 0 0, .slice none 0 0] 29)) (w.heap.size + 1) 29 (.bool false) (.slice none 0 0) (.slice none 0 0) := by simpa using TB.made (w.alloc (.cells #[.bool s, .slice A n c, .slice B m d] 29)) 29 (.bool false) (.slice none 0 0) (.slice none 0 0)
  have hW : Below w.heap.size w ((w.alloc (.cells #[.bool s, .slice A n c, .slice B m d] 29)).alloc (.cells #[.bool false, .slice none 0 0, .slice none 0 0] 29)) := (al w _).alloc (by simp) _
  generalize (w.alloc (.cells #[.bool s, .slice A n c, .slice B m d] 29)).alloc (.cells #[.bool false, .slice none 0 0, .slice none 0 0] 29) = w0 at hT1 hW ⊢
  refine (qnorm_any (x := -x) (s := !s) (b := b) ⟨N, M, HA.out.new hW, HB.out.new hW, HX.out⟩ hb5).mono ?_
  rintro e w7 ⟨s7, A7, n7, c7, B7, m7, d7, rfl, h7, hb⟩
  have H7 := Lib.hid h7
  have U4 := Lib.hid (hT1.new hb)
  have HW7 := Lib.hid (bthen hW hb hW.size)
  have r0 := U4.out.c0; have r1 := U4.out.c1; have r2 := U4.out.c2; have f0 := U4.out.f0; have f1 := U4.out.f1; have f2 := U4.out.f2
  clear h7 hb hT1 hW
  go_wp2_with fail
  refine bodyPost_end (v := .agg #[.bool s7, .slice A7 n7 c7, .slice B7 m7 d7]) ?_ rfl ⟨_, _, _, _, _, _, _, rfl, H7.out.store3 U4.out _ _ _, below_store3 HW7.out (by omega) _ _ _⟩
  exact results_cell_row Try.results25 _ _ _ _ _ (0, 0) _ rfl (U4.out.set3 _ _ _) Try.underlying29 rfl rfl
end

set_option maxRecDepth 100000 in
set_option maxHeartbeats 4000000 in
theorem qsub_any {w : World} {s : Bool} {A B : Option Addr} {n c m d b : Nat} {x : Rat} (h : Ra w s A n c B m d b x) {s' : Bool} {A' B' : Option Addr} {n' c' m' d' b' : Nat} {y : Rat} (h' : Ra w s' A' n' c' B' m' d' b' y) (hb5 : b + b' ≤ 4900) : Calls Try.prog 26 #[.agg #[.bool s, .slice A n c, .slice B m d], .agg #[.bool s', .slice A' n' c', .slice B' m' d']] w (RetQ w (b + b' + 1) (x - y)) := by
  have HA := Lib.hid h; have HB := Lib.hid h'; clear h h'
  go_enter Try.func26, Try.ntmps26
  go_wp2_with fail
  obtain ⟨X, hX⟩ : ∃ X : Array Value, X = #[.bool s, .slice A n c, .slice B m d] := ⟨_, rfl⟩
  obtain ⟨Y, hY⟩ : ∃ Y : Array Value, Y = #[.bool s', .slice A' n' c', .slice B' m' d'] := ⟨_, rfl⟩
  obtain ⟨Z, hZ⟩ : ∃ Z : Array Value, Z = #[.bool false, .slice none 0 0, .slice none 0 0] := ⟨_, rfl⟩
  have hW : Below w.heap.size w (((w.alloc (.cells X 29)).alloc (.cells Y 29)).alloc (.cells Z 29)) := ((al w _).alloc (by simp) _).alloc (by simp; omega) _
  have h2 : Blk (((w.alloc (.cells X 29)).alloc (.cells Y 29)).alloc (.cells Z 29)) w.heap.size 29 X := ((Blk.new w _ _).alloc _).alloc _
  have h3 : Blk (((w.alloc (.cells X 29)).alloc (.cells Y 29)).alloc (.cells Z 29)) (w.heap.size + 1) 29 Y := by
    have := (Blk.new (w.alloc (.cells X 29)) 29 Y).alloc (.cells Z 29)
    simpa using this
  have h4 : Blk (((w.alloc (.cells X 29)).alloc (.cells Y 29)).alloc (.cells Z 29)) (w.heap.size + 2) 29 Z := by
    have := (Blk.new ((w.alloc (.cells X 29)).alloc (.cells Y 29)) 29 Z)
    simpa using this
  rw [hX, hY, hZ] at hW h2 h3 h4
  clear hX hY hZ
  generalize ((w.alloc (.cells #[.bool s, .slice A n c, .slice B m d] 29)).alloc (.cells #[.bool s', .slice A' n' c', .slice B' m' d'] 29)).alloc (.cells #[.bool false, .slice none 0 0, .slice none 0 0] 29) = w0 at hW h2 h3 h4 ⊢
  clear X Y Z
  replace HA := Lib.hid (HA.out.new hW); replace HB := Lib.hid (HB.out.new hW)
  have HW := Lib.hid hW; clear hW
  have T2 : Hid (TB w0 w.heap.size 29 (.bool s) (.slice A n c) (.slice B m d)) := Lib.hid h2
  have T3 : Hid (TB w0 (w.heap.size + 1) 29 (.bool s') (.slice A' n' c') (.slice B' m' d')) := Lib.hid h3
  have T4 : Hid (TB w0 (w.heap.size + 2) 29 (.bool false) (.slice none 0 0) (.slice none 0 0)) := Lib.hid h4
  clear h2 h3 h4
  have l2 := T2.out.lt; have l3 := T3.out.lt; have l4 := T4.out.lt
  have a0 := T2.out.c0; have a1 := T2.out.c1; have a2 := T2.out.c2
  have b0 := T3.out.c0; have b1 := T3.out.c1; have b2 := T3.out.c2
  go_region_held3 (fun w' => ((w'.cell? ⟨w.heap.size, 0, none⟩ = some (.bool s) ∧ w'.cell? ⟨w.heap.size, 1, none⟩ = some (.slice A n c) ∧ w'.cell? ⟨w.heap.size, 2, none⟩ = some (.slice B m d)) ∧ (w'.cell? ⟨w.heap.size + 1, 0, none⟩ = some (.bool s') ∧ w'.cell? ⟨w.heap.size + 1, 1, none⟩ = some (.slice A' n' c') ∧ w'.cell? ⟨w.heap.size + 1, 2, none⟩ = some (.slice B' m' d'))) ∧ w0.grownBy w' (some (w.heap.size + 2)))
    ((refine keep6 T2.out T3.out ?_ (by omega) (by omega); first | exact World.grownBy.refl _ _ | exact only_drew (World.grownBy.refl _ _) | exact Hid.out ‹_› | exact only_store3 (Hid.out ‹_›) _ _ _))
    (first
      | (have Hg := H5; clear Hg; go_at_call 22; refine (qadd_any (HA.out.new HB5.out) H5.out.ra hb5).mono ?_; rintro e w7 ⟨s7, A7, n7, c7, B7, m7, d7, rfl, h7, hb⟩; have H7 := Lib.hid h7; have HB7 := Lib.hid (bthen HB5.out hb HB5.out.size); have HG7 := Lib.hid (grown_below HB7.out (some (w.heap.size + 2))); have HW7 := Lib.hid (bthen HW.out HB7.out HW.out.size); clear h7 hb; have U4 := Lib.hid (T4.out.new HB7.out); have r0 := U4.out.c0; have r1 := U4.out.c1; have r2 := U4.out.c2; have f0 := U4.out.f0; have f1 := U4.out.f1; have f2 := U4.out.f2)
      | (go_at_call 25; refine (qneg_any (w := w0.drew) HB.out (by omega)).mono ?_; rintro e w5 ⟨s5, A5, n5, c5, B5, m5, d5, rfl, h5, hb⟩; have H5 := Lib.hid h5; have HB5 := Lib.hid (below_from_drew hb); have HG5 := Lib.hid (grown_below HB5.out (some (w.heap.size + 2))); clear h5 hb))
  go_wp2_with fail
  rw [Rat.sub_eq_add_neg]
  refine bodyPost_end (v := .agg #[.bool s7, .slice A7 n7 c7, .slice B7 m7 d7]) ?_ rfl ⟨_, _, _, _, _, _, _, rfl, H7.out.store3 U4.out _ _ _, below_store3 HW7.out (by omega) _ _ _⟩
  exact results_cell_row Try.results26 _ _ _ _ _ (0, 0) _ rfl (U4.out.set3 _ _ _) Try.underlying29 rfl rfl

theorem results_cell_tmp {P : Program} {fn : Func} {p t : Tmp} {ty : TypeId} (h : fn.results = #[.cell p ty, .tmp t]) (tmps : Array Value) (w : World) (g : Nat) (t' : TypeId) (cs : Array Value) (fr : Nat × Nat) (d : TypeDesc)
    (hp : tmps.getD p undef = .pointer (some ⟨g, 0, none⟩)) (hg : w.heap[g]? = some (.cells cs t' fr))
    (hu : P.underlying ty = some d) (hd : (match d with | .struct _ | .array _ _ => true | _ => false) = true) (hi : (P.info? ty).map (·.size) = some cs.size) :
    (results fn tmps).run P w = .ok (.tuple #[.agg cs, tmps.getD t undef]) w := by
  have hp' : tmps[p]?.getD undef = .pointer (some ⟨g, 0, none⟩) := by simpa using hp
  simp [results, h, hp', asAddr, run_loadVar_row w g t' ty cs fr d hg hu hd hi]

def RetDiv (w : World) (b : Nat) (x y : Rat) (e : Ending) (w' : World) : Prop :=
  (y = 0 → e = .returned (.tuple #[.agg #[.bool false, .slice none 0 0, .slice none 0 0], .int .i64 18]) ∧ Below w.heap.size w w') ∧
  (y ≠ 0 → ∃ s A n c B m d, e = .returned (.tuple #[.agg #[.bool s, .slice A n c, .slice B m d], .int .i64 0]) ∧ Rn w' s A n c B m d b (x / y) ∧ Below w.heap.size w w')
theorem num_zero {y : Rat} : y.num.natAbs = 0 ↔ y = 0 := by
  rw [Int.natAbs_eq_zero]; exact Rat.num_eq_zero

set_option maxRecDepth 100000 in
set_option maxHeartbeats 4000000 in
theorem qdiv_any {w : World} {s : Bool} {A B : Option Addr} {n c m d b : Nat} {x : Rat} (h : Ra w s A n c B m d b x) {s' : Bool} {A' B' : Option Addr} {n' c' m' d' b' : Nat} {y : Rat} (h' : Ra w s' A' n' c' B' m' d' b' y) (hb5 : b + b' ≤ 4900) : Calls Try.prog 27 #[.agg #[.bool s, .slice A n c, .slice B m d], .agg #[.bool s', .slice A' n' c', .slice B' m' d']] w (RetDiv w (b + b') x y) := by
  have HA := Lib.hid h; have HB := Lib.hid h'; clear h h'
  go_enter Try.func27, Try.ntmps27
  go_upto_region 1 with (fail)
  obtain ⟨X, hX⟩ : ∃ X : Array Value, X = #[.bool s, .slice A n c, .slice B m d] := ⟨_, rfl⟩
  obtain ⟨Y, hY⟩ : ∃ Y : Array Value, Y = #[.bool s', .slice A' n' c', .slice B' m' d'] := ⟨_, rfl⟩
  obtain ⟨Z, hZ⟩ : ∃ Z : Array Value, Z = #[.bool false, .slice none 0 0, .slice none 0 0] := ⟨_, rfl⟩
  have hW : Below w.heap.size w (((w.alloc (.cells X 29)).alloc (.cells Y 29)).alloc (.cells Z 29)) := ((al w _).alloc (by simp) _).alloc (by simp; omega) _
  have h2 : Blk (((w.alloc (.cells X 29)).alloc (.cells Y 29)).alloc (.cells Z 29)) w.heap.size 29 X := ((Blk.new w _ _).alloc _).alloc _
  have h3 : Blk (((w.alloc (.cells X 29)).alloc (.cells Y 29)).alloc (.cells Z 29)) (w.heap.size + 1) 29 Y := by
    have := (Blk.new (w.alloc (.cells X 29)) 29 Y).alloc (.cells Z 29)
    simpa using this
  have h4 : Blk (((w.alloc (.cells X 29)).alloc (.cells Y 29)).alloc (.cells Z 29)) (w.heap.size + 2) 29 Z := by
    have := (Blk.new ((w.alloc (.cells X 29)).alloc (.cells Y 29)) 29 Z)
    simpa using this
  rw [hX, hY, hZ] at hW h2 h3 h4
  clear hX hY hZ
  generalize ((w.alloc (.cells #[.bool s, .slice A n c, .slice B m d] 29)).alloc (.cells #[.bool s', .slice A' n' c', .slice B' m' d'] 29)).alloc (.cells #[.bool false, .slice none 0 0, .slice none 0 0] 29) = w0 at hW h2 h3 h4 ⊢
  clear X Y Z
  replace HA := Lib.hid (HA.out.new hW); replace HB := Lib.hid (HB.out.new hW)
  have HW := Lib.hid hW; clear hW
  have T2 : Hid (TB w0 w.heap.size 29 (.bool s) (.slice A n c) (.slice B m d)) := Lib.hid h2
  have T3 : Hid (TB w0 (w.heap.size + 1) 29 (.bool s') (.slice A' n' c') (.slice B' m' d')) := Lib.hid h3
  have T4 : Hid (TB w0 (w.heap.size + 2) 29 (.bool false) (.slice none 0 0) (.slice none 0 0)) := Lib.hid h4
  clear h2 h3 h4
  have b0 := T3.out.c0; have b1 := T3.out.c1; have b2 := T3.out.c2
  go_wp2_with fail
  refine (qnorm_any HB.out (by omega)).mono ?_
  rintro e w5 ⟨s5, A5, n5, c5, B5, m5, d5, rfl, h5, hb⟩
  have t3 := T3.out.new hb
  clear b0 b1 b2
  have e0 := t3.c0; have e1 := t3.c1; have e2 := t3.c2; have g0 := t3.f0; have g1 := t3.f1; have g2 := t3.f2
  have H5 := Lib.hid (h5.store3 t3 (.bool s5) (.slice A5 n5 c5) (.slice B5 m5 d5))
  have HA5 := Lib.hid ((HA.out.new hb).store3 t3 (.bool s5) (.slice A5 n5 c5) (.slice B5 m5 d5))
  have U2 := Lib.hid ((T2.out.new hb).far3 (show w.heap.size ≠ w.heap.size + 1 by omega) (.bool s5) (.slice A5 n5 c5) (.slice B5 m5 d5))
  have U4 := Lib.hid ((T4.out.new hb).far3 (show w.heap.size + 2 ≠ w.heap.size + 1 by omega) (.bool s5) (.slice A5 n5 c5) (.slice B5 m5 d5))
  have U3 : Hid (TB _ _ _ _ _ _) := Lib.hid (t3.set3 (.bool s5) (.slice A5 n5 c5) (.slice B5 m5 d5))
  have HW5 := Lib.hid (below_store3 (bthen HW.out hb HW.out.size) (show w.heap.size ≤ w.heap.size + 1 by omega) (.bool s5) (.slice A5 n5 c5) (.slice B5 m5 d5))
  clear h5 hb t3 HA HB T2 T3 T4 HW
  go_upto_region 2 with (fail)
  generalize ((w5.setCell ⟨w.heap.size + 1, 0, none⟩ (.bool s5)).setCell ⟨w.heap.size + 1, 1, none⟩ (.slice A5 n5 c5)).setCell ⟨w.heap.size + 1, 2, none⟩ (.slice B5 m5 d5) = w6 at H5 HA5 U2 U4 U3 HW5 ⊢
  clear e0 e1 e2 g0 g1 g2
  have b0 := U3.out.c0; have b1 := U3.out.c1; have b2 := U3.out.c2
  have a0 := U2.out.c0; have a1 := U2.out.c1; have a2 := U2.out.c2
  have Z5 := Lib.hid (H5.out.2.1.2.zero.trans num_zero)
  by_cases hy : y = 0
  · have hn5 := Z5.out.2 hy
    subst hn5
    have r0 := U4.out.c0; have r1 := U4.out.c1; have r2 := U4.out.c2; have f0 := U4.out.f0; have f1 := U4.out.f1; have f2 := U4.out.f2
    have HY := Lib.hid hy; clear hy Z5
    go_wp2_with fail
    refine bodyPost_ret (v := .tuple #[.agg #[.bool false, .slice none 0 0, .slice none 0 0], .int .i64 18]) ?_ rfl ⟨fun _ => ⟨rfl, below_store3 HW5.out (by omega) _ _ _⟩, fun h => absurd HY.out h⟩
    exact results_cell_tmp Try.results27 _ _ _ _ _ (0, 0) _ rfl (U4.out.set3 _ _ _) Try.underlying29 rfl rfl
  · have tn : ((n5 : Int) == 0) = false := by have : n5 ≠ 0 := fun h => hy (Z5.out.1 h); simp; omega
    have HQ := Lib.hid (show y⁻¹ = qv s5 y.den y.num.natAbs by rw [qv_inv (fun h => hy (num_zero.1 h)) y.den_nz, H5.out.1, qv_self])
    have HY := Lib.hid hy; clear hy Z5
    go_wp2_with fail
    refine (qmul_any HA5.out (x := x) (y := y⁻¹) (b' := b') ⟨_, _, H5.out.2.2.1, H5.out.2.1.1, HQ.out⟩ (by omega)).mono ?_
    rintro e w7 ⟨s7, A7, n7, c7, B7, m7, d7, rfl, h7, hb⟩
    have H7 := Lib.hid h7
    have V4 := Lib.hid (U4.out.new hb)
    have HW7 := Lib.hid (bthen HW5.out hb HW5.out.size)
    have r0 := V4.out.c0; have r1 := V4.out.c1; have r2 := V4.out.c2; have f0 := V4.out.f0; have f1 := V4.out.f1; have f2 := V4.out.f2
    clear h7 hb b0 b1 b2 a0 a1 a2
    go_wp2_with fail
    refine bodyPost_end (v := .tuple #[.agg #[.bool s7, .slice A7 n7 c7, .slice B7 m7 d7], .int .i64 0]) ?_ rfl ⟨fun h => absurd h HY.out, fun _ => ⟨_, _, _, _, _, _, _, rfl, by rw [Rat.div_def]; exact H7.out.store3 V4.out _ _ _, below_store3 HW7.out (by omega) _ _ _⟩⟩
    exact results_cell_tmp Try.results27 _ _ _ _ _ (0, 0) _ rfl (V4.out.set3 _ _ _) Try.underlying29 rfl rfl
end Go.Proofs.Ytifnbpkcnkfanaa
