/-
rat: Sign, divisor, Neg, Sub, Div, Cmp.
Plain facts: comparing fractions.
rat: Cmp, magnitude, Of, Int, FromNat.
strings.Join of one or two strings; rat.join.
Plain facts on decimal digits (the reference's arithmetic), no program in sight.
Plain facts for nat.Parse: bytes of a string, the value of a prefix, one digit more.
nat.Parse.
Plain facts on decimal texts: a text parses to its number; a good string is the text of its number.
-/
import Derived.Test.YtpnklmgfdihjfaaK3
import Derived.Test.YtpnklmgfdihjfaaK1
namespace Go.Proofs.Ytpnklmgfdihjfaa
open Go.RowKit

theorem qv_sign (s : Bool) (N M : Nat) : (qv s N M).num.sign = if N = 0 then 0 else if s then -1 else 1 := by
  by_cases hN : N = 0
  · subst hN; rw [qv_zero, if_pos rfl]; rfl
  · rw [if_neg hN]
    obtain ⟨M', hM', he⟩ : ∃ M', M' ≠ 0 ∧ qv s N M = qv s N M' := by
      by_cases hM : M = 0
      · exact ⟨1, by omega, by rw [hM, qv_den0]⟩
      · exact ⟨M, hM, rfl⟩
    rw [he, qv_num hM']
    have hg : 0 < Nat.gcd N M' := Nat.gcd_pos_of_pos_left _ (by omega)
    have hk : 0 < N / Nat.gcd N M' := Nat.div_pos (Nat.le_of_dvd (by omega) (Nat.gcd_dvd_left N M')) hg
    generalize N / Nat.gcd N M' = k at *
    cases s
    · simp only [Bool.false_eq_true, if_false]; exact Int.sign_eq_one_of_pos (by omega)
    · simp only [if_true]; exact Int.sign_eq_neg_one_of_neg (by omega)

theorem Ra.store3 {w : World} {g : Nat} {t : TypeId} {q : Bool} {a1 b1 : Option Addr} {a2 a3 b2 b3 : Nat} {s : Bool} {A B : Option Addr} {n c m d b : Nat} {r : Rat} (h : Ra w s A n c B m d b r) (ht : TB w g t (.bool q) (.slice a1 a2 a3) (.slice b1 b2 b3)) (x y z : Value) : Ra (((w.setCell ⟨g, 0, none⟩ x).setCell ⟨g, 1, none⟩ y).setCell ⟨g, 2, none⟩ z) s A n c B m d b r := by
  obtain ⟨N, M, h1, h2, h3⟩ := h
  exact ⟨N, M, h1.store3 ht x y z, h2.store3 ht x y z, h3⟩
section
variable {w : World} {s : Bool} {A B : Option Addr} {n c m d b : Nat} {x : Rat}
set_option maxHeartbeats 2000000 in
theorem sign_any (h : Ra w s A n c B m d b x) : Calls Try.prog 28 #[.agg #[.bool s, .slice A n c, .slice B m d]] w fun e w' => e = .returned (.int .i64 x.num.sign) ∧ Below w.heap.size w w' := by
  obtain ⟨N, M, hA, hB, hx⟩ := h
  have HS := Lib.hid (show x.num.sign = if N = 0 then 0 else if s then -1 else 1 by rw [hx, qv_sign])
  have HA := Lib.hid (hA.new (al w (.cells #[.bool s, .slice A n c, .slice B m d] 31))); clear hA hB hx
  go_enter Try.func28, Try.ntmps28
  go_wp2_with fail
  refine (bits_n HA.out).mono ?_
  rintro e w1 ⟨bb, rfl, hbits, hbb, rfl⟩
  by_cases hN : N = 0
  · have HSS := Lib.hid (show x.num.sign = 0 by rw [HS.out, if_pos hN])
    subst hN
    obtain rfl := hbits.zero'
    clear hbits
    go_wp2_with fail
    go_ret
    exact ⟨by rw [HSS.out]; rfl, al w _⟩
  · have tb : ((bb : Int) == 0) = false := by have := hbits.pos' hN; simp; omega
    have HSS := Lib.hid (show x.num.sign = if s then -1 else 1 by rw [HS.out, if_neg hN])
    clear hbits HS hN
    cases s
    all_goals
      go_wp2_with fail
      go_ret
      exact ⟨by rw [HSS.out]; rfl, al w _⟩

def dnz (M : Nat) : Nat := if M = 0 then 1 else M
theorem dnz_ne (M : Nat) : dnz M ≠ 0 := by unfold dnz; split <;> omega
theorem qv_dnz (s : Bool) (N M : Nat) : qv s N M = qv s N (dnz M) := by
  unfold dnz; split
  · rename_i h; rw [h, qv_den0]
  · rfl
set_option maxHeartbeats 2000000 in
theorem divisor_any {M : Nat} (hB : Num w B m d b M) : Calls Try.prog 37 #[.agg #[.bool s, .slice A n c, .slice B m d]] w (RetN1 w b (dnz M)) := by
  have HB := Lib.hid (hB.new (al w (.cells #[.bool s, .slice A n c, .slice B m d] 31))); clear hB
  go_enter Try.func37, Try.ntmps37
  go_wp2_with fail
  refine (bits_n HB.out).mono ?_
  rintro e w1 ⟨bb, rfl, hbits, hbb, rfl⟩
  by_cases hM : M = 0
  · subst hM
    obtain rfl := hbits.zero'
    clear hbits
    go_wp2_with fail
    refine (of_n 1 (by omega) _).mono ?_
    rintro e w2 ⟨A2, k2, c2, rfl, h2, -, hb⟩
    have H2 := Lib.hid h2; have HW := Lib.hid (bthen (al w _) hb (al w _).size); clear h2 hb
    go_wp2_with fail
    go_ret
    exact ⟨A2, k2, c2, rfl, H2.out.up (PB_one HB.out.2.1) HB.out.2.1, HW.out⟩
  · have tb : ((bb : Int) == 0) = false := by have := hbits.pos' hM; simp; omega
    have HD := Lib.hid (show dnz M = M by simp [dnz, hM])
    clear hbits hM
    go_wp2_with fail
    go_ret
    rw [HD.out]
    exact ⟨B, m, d, rfl, HB.out, al w _⟩

set_option maxRecDepth 100000 in
set_option maxHeartbeats 4000000 in
theorem qneg_any (h : Ra w s A n c B m d b x) (hb5 : b ≤ 5000) : Calls Try.prog 91 #[.agg #[.bool s, .slice A n c, .slice B m d]] w (RetQ w b (-x)) := by
  obtain ⟨N, M, hA, hB, hx⟩ := h
  have HX := Lib.hid (show -x = qv (!s) N M by rw [hx, qv_negate]); clear hx
  have HA := Lib.hid hA; have HB := Lib.hid hB; clear hA hB
  go_enter Try.func91, Try.ntmps91
  go_wp2_with fail
  have hT1 : TB ((w.alloc (.cells #[.bool s, .slice A n c, .slice B m d] 31)).alloc (.cells #[.bool false, .slice none 0 0, .slice none 0 0] 31)) (w.heap.size + 1) 31 (.bool false) (.slice none 0 0) (.slice none 0 0) := by simpa using TB.made (w.alloc (.cells #[.bool s, .slice A n c, .slice B m d] 31)) 31 (.bool false) (.slice none 0 0) (.slice none 0 0)
  have hW : Below w.heap.size w ((w.alloc (.cells #[.bool s, .slice A n c, .slice B m d] 31)).alloc (.cells #[.bool false, .slice none 0 0, .slice none 0 0] 31)) := (al w _).alloc (by simp) _
  generalize (w.alloc (.cells #[.bool s, .slice A n c, .slice B m d] 31)).alloc (.cells #[.bool false, .slice none 0 0, .slice none 0 0] 31) = w0 at hT1 hW ⊢
  refine (qnorm_any (x := -x) (s := !s) (b := b) ⟨N, M, HA.out.new hW, HB.out.new hW, HX.out⟩ hb5).mono ?_
  rintro e w7 ⟨s7, A7, n7, c7, B7, m7, d7, rfl, h7, hb⟩
  have H7 := Lib.hid h7
  have U4 := Lib.hid (hT1.new hb)
  have HW7 := Lib.hid (bthen hW hb hW.size)
  have r0 := U4.out.c0; have r1 := U4.out.c1; have r2 := U4.out.c2; have f0 := U4.out.f0; have f1 := U4.out.f1; have f2 := U4.out.f2
  clear h7 hb hT1 hW
  go_wp2_with fail
  refine bodyPost_end (v := .agg #[.bool s7, .slice A7 n7 c7, .slice B7 m7 d7]) ?_ rfl ⟨_, _, _, _, _, _, _, rfl, H7.out.store3 U4.out _ _ _, below_store3 HW7.out (by omega) _ _ _⟩
  exact results_cell_row Try.results91 _ _ _ _ _ (0, 0) _ rfl (U4.out.set3 _ _ _) Try.underlying31 rfl rfl
end

set_option maxRecDepth 100000 in
set_option maxHeartbeats 4000000 in
theorem qsub_any {w : World} {s : Bool} {A B : Option Addr} {n c m d b : Nat} {x : Rat} (h : Ra w s A n c B m d b x) {s' : Bool} {A' B' : Option Addr} {n' c' m' d' b' : Nat} {y : Rat} (h' : Ra w s' A' n' c' B' m' d' b' y) (hb5 : b + b' ≤ 4900) : Calls Try.prog 100 #[.agg #[.bool s, .slice A n c, .slice B m d], .agg #[.bool s', .slice A' n' c', .slice B' m' d']] w (RetQ w (b + b' + 1) (x - y)) := by
  have HA := Lib.hid h; have HB := Lib.hid h'; clear h h'
  go_enter Try.func100, Try.ntmps100
  go_wp2_with fail
  obtain ⟨X, hX⟩ : ∃ X : Array Value, X = #[.bool s, .slice A n c, .slice B m d] := ⟨_, rfl⟩
  obtain ⟨Y, hY⟩ : ∃ Y : Array Value, Y = #[.bool s', .slice A' n' c', .slice B' m' d'] := ⟨_, rfl⟩
  obtain ⟨Z, hZ⟩ : ∃ Z : Array Value, Z = #[.bool false, .slice none 0 0, .slice none 0 0] := ⟨_, rfl⟩
  have hW : Below w.heap.size w (((w.alloc (.cells X 31)).alloc (.cells Y 31)).alloc (.cells Z 31)) := ((al w _).alloc (by simp) _).alloc (by simp; omega) _
  have h2 : Blk (((w.alloc (.cells X 31)).alloc (.cells Y 31)).alloc (.cells Z 31)) w.heap.size 31 X := ((Blk.new w _ _).alloc _).alloc _
  have h3 : Blk (((w.alloc (.cells X 31)).alloc (.cells Y 31)).alloc (.cells Z 31)) (w.heap.size + 1) 31 Y := by
    have := (Blk.new (w.alloc (.cells X 31)) 31 Y).alloc (.cells Z 31)
    simpa using this
  have h4 : Blk (((w.alloc (.cells X 31)).alloc (.cells Y 31)).alloc (.cells Z 31)) (w.heap.size + 2) 31 Z := by
    have := (Blk.new ((w.alloc (.cells X 31)).alloc (.cells Y 31)) 31 Z)
    simpa using this
  rw [hX, hY, hZ] at hW h2 h3 h4
  clear hX hY hZ
  generalize ((w.alloc (.cells #[.bool s, .slice A n c, .slice B m d] 31)).alloc (.cells #[.bool s', .slice A' n' c', .slice B' m' d'] 31)).alloc (.cells #[.bool false, .slice none 0 0, .slice none 0 0] 31) = w0 at hW h2 h3 h4 ⊢
  clear X Y Z
  replace HA := Lib.hid (HA.out.new hW); replace HB := Lib.hid (HB.out.new hW)
  have HW := Lib.hid hW; clear hW
  have T2 : Hid (TB w0 w.heap.size 31 (.bool s) (.slice A n c) (.slice B m d)) := Lib.hid h2
  have T3 : Hid (TB w0 (w.heap.size + 1) 31 (.bool s') (.slice A' n' c') (.slice B' m' d')) := Lib.hid h3
  have T4 : Hid (TB w0 (w.heap.size + 2) 31 (.bool false) (.slice none 0 0) (.slice none 0 0)) := Lib.hid h4
  clear h2 h3 h4
  have l2 := T2.out.lt; have l3 := T3.out.lt; have l4 := T4.out.lt
  have a0 := T2.out.c0; have a1 := T2.out.c1; have a2 := T2.out.c2
  have b0 := T3.out.c0; have b1 := T3.out.c1; have b2 := T3.out.c2
  go_region_held3 (fun w' => ((w'.cell? ⟨w.heap.size, 0, none⟩ = some (.bool s) ∧ w'.cell? ⟨w.heap.size, 1, none⟩ = some (.slice A n c) ∧ w'.cell? ⟨w.heap.size, 2, none⟩ = some (.slice B m d)) ∧ (w'.cell? ⟨w.heap.size + 1, 0, none⟩ = some (.bool s') ∧ w'.cell? ⟨w.heap.size + 1, 1, none⟩ = some (.slice A' n' c') ∧ w'.cell? ⟨w.heap.size + 1, 2, none⟩ = some (.slice B' m' d'))) ∧ w0.grownBy w' (some (w.heap.size + 2)))
    ((refine keep6 T2.out T3.out ?_ (by omega) (by omega); first | exact World.grownBy.refl _ _ | exact only_drew (World.grownBy.refl _ _) | exact Hid.out ‹_› | exact only_store3 (Hid.out ‹_›) _ _ _))
    (first
      | (have Hg := H5; clear Hg; go_at_call 13; refine (qadd_any (HA.out.new HB5.out) H5.out.ra hb5).mono ?_; rintro e w7 ⟨s7, A7, n7, c7, B7, m7, d7, rfl, h7, hb⟩; have H7 := Lib.hid h7; have HB7 := Lib.hid (bthen HB5.out hb HB5.out.size); have HG7 := Lib.hid (grown_below HB7.out (some (w.heap.size + 2))); have HW7 := Lib.hid (bthen HW.out HB7.out HW.out.size); clear h7 hb; have U4 := Lib.hid (T4.out.new HB7.out); have r0 := U4.out.c0; have r1 := U4.out.c1; have r2 := U4.out.c2; have f0 := U4.out.f0; have f1 := U4.out.f1; have f2 := U4.out.f2)
      | (go_at_call 91; refine (qneg_any (w := w0.drew) HB.out (by omega)).mono ?_; rintro e w5 ⟨s5, A5, n5, c5, B5, m5, d5, rfl, h5, hb⟩; have H5 := Lib.hid h5; have HB5 := Lib.hid (below_from_drew hb); have HG5 := Lib.hid (grown_below HB5.out (some (w.heap.size + 2))); clear h5 hb))
  go_wp2_with fail
  rw [Rat.sub_eq_add_neg]
  refine bodyPost_end (v := .agg #[.bool s7, .slice A7 n7 c7, .slice B7 m7 d7]) ?_ rfl ⟨_, _, _, _, _, _, _, rfl, H7.out.store3 U4.out _ _ _, below_store3 HW7.out (by omega) _ _ _⟩
  exact results_cell_row Try.results100 _ _ _ _ _ (0, 0) _ rfl (U4.out.set3 _ _ _) Try.underlying31 rfl rfl

theorem results_cell_tmp {P : Program} {fn : Func} {p t : Tmp} {ty : TypeId} (h : fn.results = #[.cell p ty, .tmp t]) (tmps : Array Value) (w : World) (g : Nat) (t' : TypeId) (cs : Array Value) (fr : Nat × Nat) (d : TypeDesc)
    (hp : tmps.getD p undef = .pointer (some ⟨g, 0, none⟩)) (hg : w.heap[g]? = some (.cells cs t' fr))
    (hu : P.underlying ty = some d) (hd : (match d with | .struct _ | .array _ _ => true | _ => false) = true) (hi : (P.info? ty).map (·.size) = some cs.size) :
    (results fn tmps).run P w = .ok (.tuple #[.agg cs, tmps.getD t undef]) w := by
  have hp' : tmps[p]?.getD undef = .pointer (some ⟨g, 0, none⟩) := by simpa using hp
  simp [results, h, hp', asAddr, run_loadVar_row w g t' ty cs fr d hg hu hd hi]

def RetDiv (w : World) (b : Nat) (x y : Rat) (e : Ending) (w' : World) : Prop :=
  (y = 0 → e = .returned (.tuple #[.agg #[.bool false, .slice none 0 0, .slice none 0 0], .int .i64 18]) ∧ Below w.heap.size w w') ∧
  (y ≠ 0 → ∃ s A n c B m d, e = .returned (.tuple #[.agg #[.bool s, .slice A n c, .slice B m d], .int .i64 0]) ∧ Rn w' s A n c B m d b (x / y) ∧ Below w.heap.size w w')
theorem num_zero {y : Rat} : y.num.natAbs = 0 ↔ y = 0 := by
  rw [Int.natAbs_eq_zero]; exact Rat.num_eq_zero

set_option maxRecDepth 100000 in
set_option maxHeartbeats 4000000 in
theorem qdiv_any {w : World} {s : Bool} {A B : Option Addr} {n c m d b : Nat} {x : Rat} (h : Ra w s A n c B m d b x) {s' : Bool} {A' B' : Option Addr} {n' c' m' d' b' : Nat} {y : Rat} (h' : Ra w s' A' n' c' B' m' d' b' y) (hb5 : b + b' ≤ 4900) : Calls Try.prog 99 #[.agg #[.bool s, .slice A n c, .slice B m d], .agg #[.bool s', .slice A' n' c', .slice B' m' d']] w (RetDiv w (b + b') x y) := by
  have HA := Lib.hid h; have HB := Lib.hid h'; clear h h'
  go_enter Try.func99, Try.ntmps99
  go_upto_region 1 with (fail)
  obtain ⟨X, hX⟩ : ∃ X : Array Value, X = #[.bool s, .slice A n c, .slice B m d] := ⟨_, rfl⟩
  obtain ⟨Y, hY⟩ : ∃ Y : Array Value, Y = #[.bool s', .slice A' n' c', .slice B' m' d'] := ⟨_, rfl⟩
  obtain ⟨Z, hZ⟩ : ∃ Z : Array Value, Z = #[.bool false, .slice none 0 0, .slice none 0 0] := ⟨_, rfl⟩
  have hW : Below w.heap.size w (((w.alloc (.cells X 31)).alloc (.cells Y 31)).alloc (.cells Z 31)) := ((al w _).alloc (by simp) _).alloc (by simp; omega) _
  have h2 : Blk (((w.alloc (.cells X 31)).alloc (.cells Y 31)).alloc (.cells Z 31)) w.heap.size 31 X := ((Blk.new w _ _).alloc _).alloc _
  have h3 : Blk (((w.alloc (.cells X 31)).alloc (.cells Y 31)).alloc (.cells Z 31)) (w.heap.size + 1) 31 Y := by
    have := (Blk.new (w.alloc (.cells X 31)) 31 Y).alloc (.cells Z 31)
    simpa using this
  have h4 : Blk (((w.alloc (.cells X 31)).alloc (.cells Y 31)).alloc (.cells Z 31)) (w.heap.size + 2) 31 Z := by
    have := (Blk.new ((w.alloc (.cells X 31)).alloc (.cells Y 31)) 31 Z)
    simpa using this
  rw [hX, hY, hZ] at hW h2 h3 h4
  clear hX hY hZ
  generalize ((w.alloc (.cells #[.bool s, .slice A n c, .slice B m d] 31)).alloc (.cells #[.bool s', .slice A' n' c', .slice B' m' d'] 31)).alloc (.cells #[.bool false, .slice none 0 0, .slice none 0 0] 31) = w0 at hW h2 h3 h4 ⊢
  clear X Y Z
  replace HA := Lib.hid (HA.out.new hW); replace HB := Lib.hid (HB.out.new hW)
  have HW := Lib.hid hW; clear hW
  have T2 : Hid (TB w0 w.heap.size 31 (.bool s) (.slice A n c) (.slice B m d)) := Lib.hid h2
  have T3 : Hid (TB w0 (w.heap.size + 1) 31 (.bool s') (.slice A' n' c') (.slice B' m' d')) := Lib.hid h3
  have T4 : Hid (TB w0 (w.heap.size + 2) 31 (.bool false) (.slice none 0 0) (.slice none 0 0)) := Lib.hid h4
  clear h2 h3 h4
  have b0 := T3.out.c0; have b1 := T3.out.c1; have b2 := T3.out.c2
  go_wp2_with fail
  refine (qnorm_any HB.out (by omega)).mono ?_
  rintro e w5 ⟨s5, A5, n5, c5, B5, m5, d5, rfl, h5, hb⟩
  have t3 := T3.out.new hb
  clear b0 b1 b2
  have e0 := t3.c0; have e1 := t3.c1; have e2 := t3.c2; have g0 := t3.f0; have g1 := t3.f1; have g2 := t3.f2
  have H5 := Lib.hid (h5.store3 t3 (.bool s5) (.slice A5 n5 c5) (.slice B5 m5 d5))
  have HA5 := Lib.hid ((HA.out.new hb).store3 t3 (.bool s5) (.slice A5 n5 c5) (.slice B5 m5 d5))
  have U2 := Lib.hid ((T2.out.new hb).far3 (show w.heap.size ≠ w.heap.size + 1 by omega) (.bool s5) (.slice A5 n5 c5) (.slice B5 m5 d5))
  have U4 := Lib.hid ((T4.out.new hb).far3 (show w.heap.size + 2 ≠ w.heap.size + 1 by omega) (.bool s5) (.slice A5 n5 c5) (.slice B5 m5 d5))
  have U3 : Hid (TB _ _ _ _ _ _) := Lib.hid (t3.set3 (.bool s5) (.slice A5 n5 c5) (.slice B5 m5 d5))
  have HW5 := Lib.hid (below_store3 (bthen HW.out hb HW.out.size) (show w.heap.size ≤ w.heap.size + 1 by omega) (.bool s5) (.slice A5 n5 c5) (.slice B5 m5 d5))
  clear h5 hb t3 HA HB T2 T3 T4 HW
  go_upto_region 2 with (fail)
  generalize ((w5.setCell ⟨w.heap.size + 1, 0, none⟩ (.bool s5)).setCell ⟨w.heap.size + 1, 1, none⟩ (.slice A5 n5 c5)).setCell ⟨w.heap.size + 1, 2, none⟩ (.slice B5 m5 d5) = w6 at H5 HA5 U2 U4 U3 HW5 ⊢
  clear e0 e1 e2 g0 g1 g2
  have b0 := U3.out.c0; have b1 := U3.out.c1; have b2 := U3.out.c2
  have a0 := U2.out.c0; have a1 := U2.out.c1; have a2 := U2.out.c2
  have Z5 := Lib.hid (H5.out.2.1.2.zero.trans num_zero)
  by_cases hy : y = 0
  · have hn5 := Z5.out.2 hy
    subst hn5
    have r0 := U4.out.c0; have r1 := U4.out.c1; have r2 := U4.out.c2; have f0 := U4.out.f0; have f1 := U4.out.f1; have f2 := U4.out.f2
    have HY := Lib.hid hy; clear hy Z5
    go_wp2_with fail
    refine bodyPost_ret (v := .tuple #[.agg #[.bool false, .slice none 0 0, .slice none 0 0], .int .i64 18]) ?_ rfl ⟨fun _ => ⟨rfl, below_store3 HW5.out (by omega) _ _ _⟩, fun h => absurd HY.out h⟩
    exact results_cell_tmp Try.results99 _ _ _ _ _ (0, 0) _ rfl (U4.out.set3 _ _ _) Try.underlying31 rfl rfl
  · have tn : ((n5 : Int) == 0) = false := by have : n5 ≠ 0 := fun h => hy (Z5.out.1 h); simp; omega
    have HQ := Lib.hid (show y⁻¹ = qv s5 y.den y.num.natAbs by rw [qv_inv (fun h => hy (num_zero.1 h)) y.den_nz, H5.out.1, qv_self])
    have HY := Lib.hid hy; clear hy Z5
    go_wp2_with fail
    refine (qmul_any HA5.out (x := x) (y := y⁻¹) (b' := b') ⟨_, _, H5.out.2.2.1, H5.out.2.1.1, HQ.out⟩ (by omega)).mono ?_
    rintro e w7 ⟨s7, A7, n7, c7, B7, m7, d7, rfl, h7, hb⟩
    have H7 := Lib.hid h7
    have V4 := Lib.hid (U4.out.new hb)
    have HW7 := Lib.hid (bthen HW5.out hb HW5.out.size)
    have r0 := V4.out.c0; have r1 := V4.out.c1; have r2 := V4.out.c2; have f0 := V4.out.f0; have f1 := V4.out.f1; have f2 := V4.out.f2
    clear h7 hb b0 b1 b2 a0 a1 a2
    go_wp2_with fail
    refine bodyPost_end (v := .tuple #[.agg #[.bool s7, .slice A7 n7 c7, .slice B7 m7 d7], .int .i64 0]) ?_ rfl ⟨fun h => absurd h HY.out, fun _ => ⟨_, _, _, _, _, _, _, rfl, by rw [Rat.div_def]; exact H7.out.store3 V4.out _ _ _, below_store3 HW7.out (by omega) _ _ _⟩⟩
    exact results_cell_tmp Try.results99 _ _ _ _ _ (0, 0) _ rfl (V4.out.set3 _ _ _) Try.underlying31 rfl rfl
end Go.Proofs.Ytpnklmgfdihjfaa
namespace Go.Proofs.Ytpnklmgfdihjfaa

/-- -1, 0 or 1. -/
def rcq (x y : Rat) : Int := if x < y then -1 else if y < x then 1 else 0
theorem num_neg {q : Rat} : q.num < 0 ↔ q < 0 := by rw [← Int.not_le, Rat.num_nonneg, Rat.not_le]
theorem num_pos {q : Rat} : 0 < q.num ↔ 0 < q := by
  constructor
  · intro h
    refine Rat.lt_of_le_of_ne (Rat.num_nonneg.1 (by omega)) (fun e => ?_)
    rw [← e] at h; simp at h
  · intro h
    have h1 := Rat.num_nonneg.2 (Rat.le_of_lt h)
    have h2 : q.num ≠ 0 := fun e => by rw [Rat.num_eq_zero] at e; rw [e] at h; exact Rat.lt_irrefl h
    omega
theorem sign_cases (q : Rat) : (q < 0 ∧ q.num.sign = -1) ∨ (q = 0 ∧ q.num.sign = 0) ∨ (0 < q ∧ q.num.sign = 1) := by
  rcases Int.lt_trichotomy q.num 0 with h | h | h
  · left; exact ⟨num_neg.1 h, Int.sign_eq_neg_one_of_neg h⟩
  · right; left; exact ⟨Rat.num_eq_zero.1 h, by rw [h]; rfl⟩
  · right; right; exact ⟨num_pos.1 h, Int.sign_eq_one_of_pos h⟩
theorem rcq_lt {x y : Rat} (h : x < y) : rcq x y = -1 := if_pos h
theorem rcq_gt {x y : Rat} (h : y < x) : rcq x y = 1 := by
  unfold rcq; rw [if_neg (by grind), if_pos h]
theorem rcq_eq {x y : Rat} (h : x = y) : rcq x y = 0 := by
  subst h; unfold rcq; rw [if_neg Rat.lt_irrefl, if_neg Rat.lt_irrefl]
theorem rcq_sign_ne {x y : Rat} (h : x.num.sign ≠ y.num.sign) : (if x.num.sign < y.num.sign then (-1 : Int) else if y.num.sign < x.num.sign then 1 else 0) = rcq x y := by
  rcases sign_cases x with ⟨h1, h2⟩ | ⟨h1, h2⟩ | ⟨h1, h2⟩ <;> rcases sign_cases y with ⟨k1, k2⟩ | ⟨k1, k2⟩ | ⟨k1, k2⟩ <;> rw [h2, k2] at h ⊢
  all_goals first
    | exact absurd rfl h
    | (rw [rcq_lt (by grind)]; rfl)
    | (rw [rcq_gt (by grind)]; rfl)
theorem frac_lt {a b c d : Nat} (hb : b ≠ 0) (hd : d ≠ 0) : (a : Rat) / (b : Rat) < (c : Rat) / (d : Rat) ↔ a * d < c * b := by
  have h1 : (0 : Rat) < (b : Rat) := Rat.natCast_pos.2 (by omega)
  have h2 : (0 : Rat) < (d : Rat) := Rat.natCast_pos.2 (by omega)
  rw [Rat.div_lt_iff h1, show (c : Rat) / (d : Rat) * (b : Rat) = ((c * b : Nat) : Rat) / (d : Rat) by rw [Rat.natCast_mul]; grind, Rat.lt_div_iff h2, ← Rat.natCast_mul, Rat.natCast_lt_natCast]
theorem qv_pos_lt {a b c d : Nat} (hb : b ≠ 0) (hd : d ≠ 0) : qv false a b < qv false c d ↔ a * d < c * b := by
  rw [qv_eq _ _ _ hb, qv_eq _ _ _ hd]; simp only [sg, Bool.false_eq_true, if_false, Rat.one_mul]; exact frac_lt hb hd
theorem qv_neg_lt {a b c d : Nat} (hb : b ≠ 0) (hd : d ≠ 0) : qv true a b < qv true c d ↔ c * b < a * d := by
  have h1 : qv true a b = - qv false a b := qv_negate false a b
  have h2 : qv true c d = - qv false c d := qv_negate false c d
  rw [h1, h2, Rat.neg_lt_neg_iff]; exact qv_pos_lt hd hb
theorem rcq_pos {a b c d : Nat} (hb : b ≠ 0) (hd : d ≠ 0) : rcq (qv false a b) (qv false c d) = if a * d < c * b then -1 else if c * b < a * d then 1 else 0 := by
  unfold rcq
  simp only [qv_pos_lt hb hd, qv_pos_lt hd hb]
theorem rcq_neg {a b c d : Nat} (hb : b ≠ 0) (hd : d ≠ 0) : rcq (qv true a b) (qv true c d) = -(if a * d < c * b then -1 else if c * b < a * d then 1 else 0) := by
  unfold rcq
  simp only [qv_neg_lt hb hd, qv_neg_lt hd hb]
  by_cases h1 : c * b < a * d
  · rw [if_pos h1, if_neg (show ¬ a * d < c * b by omega), if_pos h1]
  · rw [if_neg h1]
    by_cases h2 : a * d < c * b
    · rw [if_pos h2, if_pos h2]; rfl
    · rw [if_neg h2, if_neg h2, if_neg h1]; rfl
end Go.Proofs.Ytpnklmgfdihjfaa
namespace Go.Proofs.Ytpnklmgfdihjfaa
open Go.RowKit

theorem cmpN_rng (a b : Nat) : -1 ≤ cmpN a b ∧ cmpN a b ≤ 1 := by
  unfold cmpN; split
  · omega
  · split <;> omega
theorem rcq_rng (x y : Rat) : -1 ≤ rcq x y ∧ rcq x y ≤ 1 := by
  unfold rcq; split
  · omega
  · split <;> omega
theorem cmpI_rcq {x y : Rat} (h : x.num.sign ≠ y.num.sign) : cmpI x.num.sign y.num.sign = rcq x y := rcq_sign_ne h
theorem rcq_same {s s' : Bool} {N M N' M' : Nat} (h : (qv s N M).num.sign = (qv s' N' M').num.sign) : (qv s N M).num.sign * cmpN (N * dnz M') (N' * dnz M) = rcq (qv s N M) (qv s' N' M') := by
  have h1 := qv_sign s N M
  have h2 := qv_sign s' N' M'
  by_cases hN : N = 0
  · rw [if_pos hN] at h1
    have hN' : N' = 0 := by
      rcases Nat.eq_zero_or_pos N' with h0 | h0
      · exact h0
      · rw [if_neg (by omega)] at h2
        rw [h1] at h; rw [← h] at h2
        cases s' <;> simp at h2
    rw [h1]
    subst hN hN'
    rw [rcq_eq (by rw [qv_zero, qv_zero])]; simp
  · rw [if_neg hN] at h1
    have hN' : N' ≠ 0 := by
      intro h0
      rw [if_pos h0] at h2
      rw [h2] at h; rw [h] at h1
      cases s <;> simp at h1
    rw [if_neg hN'] at h2
    have hs : s' = s := by
      rw [h1, h2] at h
      cases s <;> cases s' <;> simp at h <;> rfl
    subst hs
    rw [h1, qv_dnz s' N M, qv_dnz s' N' M']
    cases s'
    · rw [rcq_pos (dnz_ne _) (dnz_ne _)]; simp [cmpN]
    · rw [rcq_neg (dnz_ne _) (dnz_ne _)]; simp only [if_true, cmpN]; omega

set_option maxRecDepth 100000 in
set_option maxHeartbeats 8000000 in
theorem qcmp_any {w : World} {s : Bool} {A B : Option Addr} {n c m d b : Nat} {x : Rat} (h : Ra w s A n c B m d b x) {s' : Bool} {A' B' : Option Addr} {n' c' m' d' b' : Nat} {y : Rat} (h' : Ra w s' A' n' c' B' m' d' b' y) (hb5 : b + b' ≤ 4900) : Calls Try.prog 12 #[.agg #[.bool s, .slice A n c, .slice B m d], .agg #[.bool s', .slice A' n' c', .slice B' m' d']] w fun e w' => e = .returned (.int .i64 (rcq x y)) ∧ Below w.heap.size w w' := by
  have HA := Lib.hid h; have HB := Lib.hid h'; clear h h'
  go_enter Try.func12, Try.ntmps12
  go_upto_region 1 with (fail)
  obtain ⟨X, hX⟩ : ∃ X : Array Value, X = #[.bool s, .slice A n c, .slice B m d] := ⟨_, rfl⟩
  obtain ⟨Y, hY⟩ : ∃ Y : Array Value, Y = #[.bool s', .slice A' n' c', .slice B' m' d'] := ⟨_, rfl⟩
  have hW : Below w.heap.size w ((w.alloc (.cells X 31)).alloc (.cells Y 31)) := (al w _).alloc (by simp) _
  have h2 : Blk ((w.alloc (.cells X 31)).alloc (.cells Y 31)) w.heap.size 31 X := (Blk.new w _ _).alloc _
  have h3 : Blk ((w.alloc (.cells X 31)).alloc (.cells Y 31)) (w.heap.size + 1) 31 Y := by
    have := (Blk.new (w.alloc (.cells X 31)) 31 Y)
    simpa using this
  rw [hX, hY] at hW h2 h3
  clear hX hY
  generalize (w.alloc (.cells #[.bool s, .slice A n c, .slice B m d] 31)).alloc (.cells #[.bool s', .slice A' n' c', .slice B' m' d'] 31) = w0 at hW h2 h3 ⊢
  clear X Y
  replace HA := Lib.hid (HA.out.new hW); replace HB := Lib.hid (HB.out.new hW)
  have HW := Lib.hid hW; clear hW
  have T2 : Hid (TB w0 w.heap.size 31 (.bool s) (.slice A n c) (.slice B m d)) := Lib.hid h2
  have T3 : Hid (TB w0 (w.heap.size + 1) 31 (.bool s') (.slice A' n' c') (.slice B' m' d')) := Lib.hid h3
  clear h2 h3
  have a0 := T2.out.c0; have a1 := T2.out.c1; have a2 := T2.out.c2
  go_wp2_with fail
  refine (sign_any HA.out).mono ?_
  rintro e w1 ⟨rfl, hb⟩
  replace HA := Lib.hid (HA.out.new hb); replace HB := Lib.hid (HB.out.new hb)
  replace T2 := Lib.hid (T2.out.new hb); replace T3 := Lib.hid (T3.out.new hb)
  replace HW := Lib.hid (bthen HW.out hb HW.out.size)
  clear hb a0 a1 a2
  have b0 := T3.out.c0; have b1 := T3.out.c1; have b2 := T3.out.c2
  go_wp2_with fail
  refine (sign_any HB.out).mono ?_
  rintro e w2 ⟨rfl, hb⟩
  replace HA := Lib.hid (HA.out.new hb); replace HB := Lib.hid (HB.out.new hb)
  replace T2 := Lib.hid (T2.out.new hb); replace T3 := Lib.hid (T3.out.new hb)
  replace HW := Lib.hid (bthen HW.out hb HW.out.size)
  clear hb b0 b1 b2
  by_cases hs : x.num.sign = y.num.sign
  · have ts : (x.num.sign != y.num.sign) = false := by simp [hs]
    obtain ⟨N, M, hN, hM, hx⟩ := HA.out
    obtain ⟨N', M', hN', hM', hy⟩ := HB.out
    have HR := Lib.hid (show x.num.sign * cmpN (N * dnz M') (N' * dnz M) = rcq x y by rw [hx, hy]; exact rcq_same (by rw [← hx, ← hy]; exact hs))
    have HN1 := Lib.hid hN; have HM1 := Lib.hid hM; have HN2 := Lib.hid hN'; have HM2 := Lib.hid hM'
    clear hN hM hx hN' hM' hy hs HA HB
    have hsg : -1 ≤ x.num.sign ∧ x.num.sign ≤ 1 := by rcases sign_cases x with ⟨-, h⟩ | ⟨-, h⟩ | ⟨-, h⟩ <;> rw [h] <;> omega
    have hcg : -1 ≤ cmpN (N * dnz M') (N' * dnz M) ∧ cmpN (N * dnz M') (N' * dnz M) ≤ 1 := cmpN_rng _ _
    have hrg : -1 ≤ rcq x y ∧ rcq x y ≤ 1 := rcq_rng _ _
    have a0 := T2.out.c0; have a1 := T2.out.c1; have a2 := T2.out.c2
    have b0 := T3.out.c0; have b1 := T3.out.c1; have b2 := T3.out.c2
    have l2 := T2.out.lt; have l3 := T3.out.lt
    go_wp2_with fail
    go_region_held3 (fun w' => ((w'.cell? ⟨w.heap.size, 0, none⟩ = some (.bool s) ∧ w'.cell? ⟨w.heap.size, 1, none⟩ = some (.slice A n c) ∧ w'.cell? ⟨w.heap.size, 2, none⟩ = some (.slice B m d)) ∧ (w'.cell? ⟨w.heap.size + 1, 0, none⟩ = some (.bool s') ∧ w'.cell? ⟨w.heap.size + 1, 1, none⟩ = some (.slice A' n' c') ∧ w'.cell? ⟨w.heap.size + 1, 2, none⟩ = some (.slice B' m' d'))) ∧ w2.grownBy w' (some (w.heap.size + 2)))
      ((refine keep6 T2.out T3.out ?_ (by omega) (by omega); first | exact World.grownBy.refl _ _ | exact only_drew (World.grownBy.refl _ _) | exact Hid.out ‹_›))
      (first
        | (have Hg := H8; clear Hg; go_at_call 18; refine (cmp_n H6.out H8.out).mono ?_; rintro e w9 ⟨rfl, hb⟩; have HB9 := Lib.hid (bthen HB8.out hb HB8.out.size); have HG9 := Lib.hid (grown_below HB9.out (some (w.heap.size + 2))); clear hb)
        | (have Hg := H7; clear Hg; go_at_call 19; refine (mul_n (HN2.out.new HB7.out) H7.out (by omega)).mono ?_; rintro e w8 ⟨A8, k8, c8, rfl, h8, -, hb⟩; have HB8 := Lib.hid (bthen HB7.out hb HB7.out.size); have H8 := Lib.hid h8; clear h8; replace H6 := Lib.hid (H6.out.new hb); have HG8 := Lib.hid (grown_below HB8.out (some (w.heap.size + 2))); clear hb)
        | (have Hg := H6; clear Hg; go_at_call 37; refine (divisor_any (HM1.out.new HB6.out)).mono ?_; rintro e w7 ⟨A7, k7, c7, rfl, h7, hb⟩; have HB7 := Lib.hid (bthen HB6.out hb HB6.out.size); have H7 := Lib.hid h7; clear h7; replace H6 := Lib.hid (H6.out.new hb); have HG7 := Lib.hid (grown_below HB7.out (some (w.heap.size + 2))); clear hb)
        | (have Hg := H5; clear Hg; go_at_call 19; refine (mul_n (HN1.out.new HB5.out) H5.out (by omega)).mono ?_; rintro e w6 ⟨A6, k6, c6, rfl, h6, -, hb⟩; have HB6 := Lib.hid (bthen HB5.out hb HB5.out.size); have H6 := Lib.hid h6; clear h6; have HG6 := Lib.hid (grown_below HB6.out (some (w.heap.size + 2))); clear hb)
        | (go_at_call 37; refine (divisor_any (w := w2.drew) HM2.out).mono ?_; rintro e w5 ⟨A5, k5, c5, rfl, h5, hb⟩; have HB5 := Lib.hid (below_from_drew hb); have H5 := Lib.hid h5; clear h5; have HG5 := Lib.hid (grown_below HB5.out (some (w.heap.size + 2))); clear hb))
    have HRW := Lib.hid (show IntKind.i64.wrap (x.num.sign * cmpN (N * dnz M') (N' * dnz M)) = rcq x y by rw [HR.out]; exact IntWalk.i64_in _ (by omega))
    clear hsg hcg hrg
    go_wp2_with fail
    go_ret
    refine ⟨ret_int ?_, bthen HW.out HB9.out HW.out.size⟩
    first | exact HRW.out | exact HR.out
  · have ts : (x.num.sign != y.num.sign) = true := by simp [hs]
    have HS := Lib.hid hs; clear hs
    go_wp2_with fail
    refine (cmpInt_any _ _ _).mono ?_
    rintro e w3 ⟨rfl, rfl⟩
    go_wp2_with fail
    go_ret
    exact ⟨by rw [cmpI_rcq HS.out]; rfl, HW.out⟩

theorem neg_wrap {z : Int} (h : z < 0) (h2 : -9223372036854775808 ≤ z) : IntKind.u64.wrap (-(IntKind.u64.wrap z)) = ((z.natAbs : Nat) : Int) := by
  simp only [IntKind.wrap, IntKind.signed, IntKind.bits]
  simp
  omega

set_option maxHeartbeats 2000000 in
theorem magnitude_any (z : Int) (h1 : -9223372036854775808 ≤ z) (h2 : z ≤ 9223372036854775807) (w : World) : Calls Try.prog 52 #[.int .i64 z] w (RetN w 2 z.natAbs) := by
  by_cases hz : z < 0
  · have tz : decide (z < 0) = true := by simp [hz]
    have hw := neg_wrap hz h1
    go_enter Try.func52, Try.ntmps52
    go_wp2_with fail
    refine (of_n z.natAbs (by omega) _).mono ?_
    rintro e w1 ⟨A1, k1, c1, rfl, h, j, hb⟩
    have H1 := Lib.hid h; have J1 := Lib.hid j; have HB := Lib.hid hb; clear h j hb
    go_wp2_with fail
    go_ret
    exact ⟨A1, k1, c1, rfl, H1.out, J1.out, HB.out⟩
  · have tz : decide (z < 0) = false := by simp; omega
    obtain ⟨k, rfl⟩ := Int.eq_ofNat_of_zero_le (show 0 ≤ z by omega)
    have hk : ((k : Int)).natAbs = k := rfl
    go_enter Try.func52, Try.ntmps52
    go_wp2_with fail
    refine (of_n k (by omega) _).mono ?_
    rintro e w1 ⟨A1, k1, c1, rfl, h, j, hb⟩
    have H1 := Lib.hid h; have J1 := Lib.hid j; have HB := Lib.hid hb; clear h j hb
    go_wp2_with fail
    go_ret
    exact ⟨A1, k1, c1, rfl, H1.out, J1.out, HB.out⟩

theorem sgn_abs (z : Int) : (if decide (z < 0) = true then -(z.natAbs : Int) else (z.natAbs : Int)) = z := by
  by_cases h : z < 0
  · rw [if_pos (by simpa using h)]; omega
  · rw [if_neg (by simpa using h)]; omega
theorem qv_int (z : Int) : qv (decide (z < 0)) z.natAbs 0 = (z : Rat) := by
  unfold qv
  rw [if_pos rfl, sgn_abs, Rat.mkRat_eq_div]
  grind
theorem sg_abs (z : Int) : sg (decide (z < 0)) * (z.natAbs : Rat) = (z : Rat) := by
  have := qv_int z
  rw [qv_den0, qv_eq _ _ _ (by omega)] at this
  rw [← this]; grind
theorem qv_frac (n d : Int) (hd : d ≠ 0) : qv (decide (n < 0) != decide (d < 0)) n.natAbs d.natAbs = (n : Rat) / (d : Rat) := by
  have h0 : d.natAbs ≠ 0 := by omega
  rw [qv_eq _ _ _ h0, ← sg_mul, ← sg_abs n, ← sg_abs d]
  have h1 := cast_ne h0
  have h2 := sg_sq (decide (d < 0))
  generalize (n.natAbs : Rat) = a at *
  generalize (d.natAbs : Rat) = b at *
  generalize sg (decide (n < 0)) = s at *
  generalize sg (decide (d < 0)) = t at *
  have h3 : t ≠ 0 := by intro h; rw [h] at h2; simp at h2
  grind
theorem nil_num' (w : World) (b : Nat) (hb : 1 ≤ b) : Num w none 0 0 b 0 :=
  ⟨Nat.le_refl _, hb, by omega, Nat.lt_trans (by omega) (PB_one hb), [], ⟨Reads.none_, ⟨rfl, by omega⟩, by simp⟩, rfl⟩

section
variable {w : World}
set_option maxRecDepth 100000 in
set_option maxHeartbeats 4000000 in
theorem qint_any (z : Int) (h1 : -9223372036854775808 ≤ z) (h2 : z ≤ 9223372036854775807) : Calls Try.prog 27 #[.int .i64 z] w (RetQ w 2 (z : Rat)) := by
  go_enter Try.func27, Try.ntmps27
  go_wp2_with fail
  have hT1 := TB.made w 31 (.bool false) (.slice none 0 0) (.slice none 0 0)
  have hW := al w (.cells #[.bool false, .slice none 0 0, .slice none 0 0] 31)
  generalize w.alloc (.cells #[.bool false, .slice none 0 0, .slice none 0 0] 31) = w0 at hT1 hW ⊢
  refine (magnitude_any z h1 h2 _).mono ?_
  rintro e w5 ⟨A5, k5, c5, rfl, h5, -, hb⟩
  have T1 := Lib.hid (hT1.new hb); have HW := Lib.hid (bthen hW hb hW.size); have H5 := Lib.hid h5
  clear hT1 hW h5 hb
  go_wp2_with fail
  refine (qnorm_any (x := (z : Rat)) (b := 2) ⟨_, 0, H5.out, nil_num' _ _ (by omega), (qv_int z).symm⟩ (by omega)).mono ?_
  rintro e w7 ⟨s7, A7, n7, c7, B7, m7, d7, rfl, h7, hb⟩
  have H7 := Lib.hid h7
  have U4 := Lib.hid (T1.out.new hb)
  have HW7 := Lib.hid (bthen HW.out hb HW.out.size)
  have r0 := U4.out.c0; have r1 := U4.out.c1; have r2 := U4.out.c2; have f0 := U4.out.f0; have f1 := U4.out.f1; have f2 := U4.out.f2
  clear h7 hb
  go_wp2_with fail
  refine bodyPost_end (v := .agg #[.bool s7, .slice A7 n7 c7, .slice B7 m7 d7]) ?_ rfl ⟨_, _, _, _, _, _, _, rfl, H7.out.store3 U4.out _ _ _, below_store3 HW7.out (by omega) _ _ _⟩
  exact results_cell_row Try.results27 _ _ _ _ _ (0, 0) _ rfl (U4.out.set3 _ _ _) Try.underlying31 rfl rfl

set_option maxRecDepth 100000 in
set_option maxHeartbeats 4000000 in
theorem qnat_any {A : Option Addr} {n c b N : Nat} (hN : Num w A n c b N) (hb5 : b ≤ 5000) : Calls Try.prog 81 #[.slice A n c] w (RetQ w b (N : Rat)) := by
  have H5 := Lib.hid hN; clear hN
  go_enter Try.func81, Try.ntmps81
  go_wp2_with fail
  have hT1 := TB.made w 31 (.bool false) (.slice none 0 0) (.slice none 0 0)
  have hW := al w (.cells #[.bool false, .slice none 0 0, .slice none 0 0] 31)
  generalize w.alloc (.cells #[.bool false, .slice none 0 0, .slice none 0 0] 31) = w0 at hT1 hW ⊢
  have hq : (N : Rat) = qv false N 0 := by
    have := qv_int (N : Int)
    rw [show decide ((N : Int) < 0) = false by simp] at this
    exact this.symm
  refine (qnorm_any (x := (N : Rat)) (s := false) (b := b) ⟨N, 0, H5.out.new hW, nil_num' _ _ H5.out.2.1, hq⟩ hb5).mono ?_
  clear hq
  rintro e w7 ⟨s7, A7, n7, c7, B7, m7, d7, rfl, h7, hb⟩
  have H7 := Lib.hid h7
  have U4 := Lib.hid (hT1.new hb)
  have HW7 := Lib.hid (bthen hW hb hW.size)
  have r0 := U4.out.c0; have r1 := U4.out.c1; have r2 := U4.out.c2; have f0 := U4.out.f0; have f1 := U4.out.f1; have f2 := U4.out.f2
  clear h7 hb hT1 hW
  go_wp2_with fail
  refine bodyPost_end (v := .agg #[.bool s7, .slice A7 n7 c7, .slice B7 m7 d7]) ?_ rfl ⟨_, _, _, _, _, _, _, rfl, H7.out.store3 U4.out _ _ _, below_store3 HW7.out (by omega) _ _ _⟩
  exact results_cell_row Try.results81 _ _ _ _ _ (0, 0) _ rfl (U4.out.set3 _ _ _) Try.underlying31 rfl rfl

def RetOf (w : World) (n d : Int) (e : Ending) (w' : World) : Prop :=
  (d = 0 → e = .returned (.tuple #[.agg #[.bool false, .slice none 0 0, .slice none 0 0], .int .i64 18]) ∧ Below w.heap.size w w') ∧
  (d ≠ 0 → ∃ s A k c B m k', e = .returned (.tuple #[.agg #[.bool s, .slice A k c, .slice B m k'], .int .i64 0]) ∧ Rn w' s A k c B m k' 2 ((n : Rat) / (d : Rat)) ∧ Below w.heap.size w w')
set_option maxRecDepth 100000 in
set_option maxHeartbeats 4000000 in
theorem qof_any (n d : Int) (h1 : -9223372036854775808 ≤ n) (h2 : n ≤ 9223372036854775807) (h3 : -9223372036854775808 ≤ d) (h4 : d ≤ 9223372036854775807) : Calls Try.prog 49 #[.int .i64 n, .int .i64 d] w (RetOf w n d) := by
  have hT1 := TB.made w 31 (.bool false) (.slice none 0 0) (.slice none 0 0)
  by_cases hd : d = 0
  · have td : (d == 0) = true := by simp [hd]
    have HD := Lib.hid hd; clear hd
    have r0 := hT1.c0; have r1 := hT1.c1; have r2 := hT1.c2; have f0 := hT1.f0; have f1 := hT1.f1; have f2 := hT1.f2
    have T1 := Lib.hid hT1; clear hT1
    go_enter Try.func49, Try.ntmps49
    go_wp2_with fail
    refine bodyPost_ret (v := .tuple #[.agg #[.bool false, .slice none 0 0, .slice none 0 0], .int .i64 18]) ?_ rfl ⟨fun _ => ⟨rfl, ?_⟩, fun h => absurd HD.out h⟩
    · first | exact results_cell_tmp Try.results49 _ _ _ _ _ (0, 0) _ rfl (T1.out.set3 _ _ _) Try.underlying31 rfl rfl | exact results_cell_tmp Try.results49 _ _ _ _ _ (0, 0) _ rfl T1.out Try.underlying31 rfl rfl
    · first | exact al w _ | exact below_store3 (al w _) (by omega) _ _ _
  · have td : (d == 0) = false := by simp [hd]
    have HD := Lib.hid hd; clear hd
    go_enter Try.func49, Try.ntmps49
    go_wp2_with fail
    have hW := al w (.cells #[.bool false, .slice none 0 0, .slice none 0 0] 31)
    generalize w.alloc (.cells #[.bool false, .slice none 0 0, .slice none 0 0] 31) = w0 at hT1 hW ⊢
    refine (magnitude_any n h1 h2 _).mono ?_
    rintro e w5 ⟨A5, k5, c5, rfl, h5, -, hb⟩
    have T1 := Lib.hid (hT1.new hb); have HW := Lib.hid (bthen hW hb hW.size); have H5 := Lib.hid h5
    clear hT1 hW h5 hb
    go_wp2_with fail
    refine (magnitude_any d h3 h4 _).mono ?_
    rintro e w6 ⟨A6, k6, c6, rfl, h6, -, hb⟩
    replace T1 := Lib.hid (T1.out.new hb); replace HW := Lib.hid (bthen HW.out hb HW.out.size); replace H5 := Lib.hid (H5.out.new hb); have H6 := Lib.hid h6
    clear h6 hb
    go_wp2_with fail
    refine (qnorm_any (x := (n : Rat) / (d : Rat)) (s := decide (n < 0) != decide (d < 0)) (b := 2) ⟨_, _, H5.out, H6.out, (qv_frac n d HD.out).symm⟩ (by omega)).mono ?_
    rintro e w7 ⟨s7, A7, n7, c7, B7, m7, d7, rfl, h7, hb⟩
    have H7 := Lib.hid h7
    have U4 := Lib.hid (T1.out.new hb)
    have HW7 := Lib.hid (bthen HW.out hb HW.out.size)
    have r0 := U4.out.c0; have r1 := U4.out.c1; have r2 := U4.out.c2; have f0 := U4.out.f0; have f1 := U4.out.f1; have f2 := U4.out.f2
    clear h7 hb
    go_wp2_with fail
    refine bodyPost_end (v := .tuple #[.agg #[.bool s7, .slice A7 n7 c7, .slice B7 m7 d7], .int .i64 0]) ?_ rfl ⟨fun h => absurd h HD.out, fun _ => ⟨_, _, _, _, _, _, _, rfl, H7.out.store3 U4.out _ _ _, below_store3 HW7.out (by omega) _ _ _⟩⟩
    exact results_cell_tmp Try.results49 _ _ _ _ _ (0, 0) _ rfl (U4.out.set3 _ _ _) Try.underlying31 rfl rfl
end
end Go.Proofs.Ytpnklmgfdihjfaa
namespace Go.Proofs.Ytpnklmgfdihjfaa
open Go.RowKit

end Go.Proofs.Ytpnklmgfdihjfaa
namespace Go.Proofs.Ytpnklmgfdihjfaa

end Go.Proofs.Ytpnklmgfdihjfaa
namespace Go.Proofs.Ytpnklmgfdihjfaa
open Go.RowKit

/-- The value of the first i decimal characters. -/
def dv (bs : List Nat) : Nat → Nat
  | 0 => 0
  | i + 1 => dv bs i * 10 + (nth bs i - 48)
end Go.Proofs.Ytpnklmgfdihjfaa
namespace Go.Proofs.Ytpnklmgfdihjfaa
open Go.RowKit

section
variable {ops : Array Oper} {rest : List Oper} {o : Oper} {a : Act} {w : World} {Q : Exit → Act → World → Prop}
end
end Go.Proofs.Ytpnklmgfdihjfaa
namespace Go.Proofs.Ytpnklmgfdihjfaa
open Go.RowKit

end Go.Proofs.Ytpnklmgfdihjfaa
