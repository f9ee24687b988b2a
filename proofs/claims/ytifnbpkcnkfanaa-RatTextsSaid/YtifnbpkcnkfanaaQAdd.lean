/-
  rat.Add.
-/
import Derived.Test.YtifnbpkcnkfanaaQOps
namespace Go.Proofs.Ytifnbpkcnkfanaa
open Go.RowKit

theorem bool_ne {a b : Bool} (h : ¬ a = b) : b = !a := by revert h; cases a <;> cases b <;> simp
theorem PB_two {w : World} {A B : Option Addr} {k c m d b N M : Nat} (h : Num w A k c b N) (h' : Num w B m d b M) : N + M < PB (b + 1) := by
  have h1 := h.2.2.2.1
  have h2 := h'.2.2.2.1
  have : PB (b + 1) = PB b * 4294967296 := by rw [PB, PB, Nat.pow_succ]
  omega

set_option maxRecDepth 100000 in
set_option maxHeartbeats 8000000 in
theorem qadd_any {w : World} {s : Bool} {A B : Option Addr} {n c m d b : Nat} {x : Rat} (h : Ra w s A n c B m d b x) {s' : Bool} {A' B' : Option Addr} {n' c' m' d' b' : Nat} {y : Rat} (h' : Ra w s' A' n' c' B' m' d' b' y) (hb5 : b + b' ≤ 4900) :
    Calls Try.prog 22 #[.agg #[.bool s, .slice A n c, .slice B m d], .agg #[.bool s', .slice A' n' c', .slice B' m' d']] w (RetQ w (b + b' + 1) (x + y)) := by
  have HA := Lib.hid h; have HB := Lib.hid h'; clear h h'
  go_enter Try.func22, Try.ntmps22
  go_upto_region 1 with (fail)
  obtain ⟨X, hX⟩ : ∃ X : Array Value, X = #[.bool s, .slice A n c, .slice B m d] := ⟨_, rfl⟩
  obtain ⟨Y, hY⟩ : ∃ Y : Array Value, Y = #[.bool s', .slice A' n' c', .slice B' m' d'] := ⟨_, rfl⟩
  obtain ⟨Z, hZ⟩ : ∃ Z : Array Value, Z = #[.bool false, .slice none 0 0, .slice none 0 0] := ⟨_, rfl⟩
  have hW : Below w.heap.size w (((w.alloc (.cells X 29)).alloc (.cells Y 29)).alloc (.cells Z 29)) := ((al w _).alloc (by simp) _).alloc (by simp; omega) _
  have h2 : Blk (((w.alloc (.cells X 29)).alloc (.cells Y 29)).alloc (.cells Z 29)) w.heap.size 29 X := ((Blk.new w _ _).alloc _).alloc _
  have h3 : Blk (((w.alloc (.cells X 29)).alloc (.cells Y 29)).alloc (.cells Z 29)) (w.heap.size + 1) 29 Y := by
    have := (Blk.new (w.alloc (.cells X 29)) 29 Y).alloc (.cells Z 29)
    simpa using this
  have h4 : Blk (((w.alloc (.cells X 29)).alloc (.cells Y 29)).alloc (.cells Z 29)) (w.heap.size + 2) 29 Z := by
    have := (Blk.new ((w.alloc (.cells X 29)).alloc (.cells Y 29)) 29 Z)
    simpa using this
  rw [hX, hY, hZ] at hW h2 h3 h4
  clear hX hY hZ
  generalize ((w.alloc (.cells #[.bool s, .slice A n c, .slice B m d] 29)).alloc (.cells #[.bool s', .slice A' n' c', .slice B' m' d'] 29)).alloc (.cells #[.bool false, .slice none 0 0, .slice none 0 0] 29) = w0 at hW h2 h3 h4 ⊢
  clear X Y Z
  replace HA := Lib.hid (HA.out.new hW); replace HB := Lib.hid (HB.out.new hW)
  have HW := Lib.hid hW; clear hW
  have T2 : Hid (TB w0 w.heap.size 29 (.bool s) (.slice A n c) (.slice B m d)) := Lib.hid h2
  have T3 : Hid (TB w0 (w.heap.size + 1) 29 (.bool s') (.slice A' n' c') (.slice B' m' d')) := Lib.hid h3
  have T4 : Hid (TB w0 (w.heap.size + 2) 29 (.bool false) (.slice none 0 0) (.slice none 0 0)) := Lib.hid h4
  clear h2 h3 h4
  go_cut [2] (fun p2 wx => p2 = .pointer (some ⟨w.heap.size, 0, none⟩) ∧ ∃ s1 A1 n1 c1 B1 m1 d1 s2 A2 n2 c2 B2 m2 d2, Hid (TB wx w.heap.size 29 (.bool s1) (.slice A1 n1 c1) (.slice B1 m1 d1) ∧ TB wx (w.heap.size + 1) 29 (.bool s2) (.slice A2 n2 c2) (.slice B2 m2 d2) ∧ TB wx (w.heap.size + 2) 29 (.bool false) (.slice none 0 0) (.slice none 0 0) ∧ Rn wx s1 A1 n1 c1 B1 m1 d1 b x ∧ Rn wx s2 A2 n2 c2 B2 m2 d2 b' y ∧ Below w.heap.size w wx))
  case first =>
    have a0 := T2.out.c0; have a1 := T2.out.c1; have a2 := T2.out.c2
    have b0 := T3.out.c0; have b1 := T3.out.c1; have b2 := T3.out.c2
    go_region_law (first
      | (have HB5' := HB5; clear HB5'; go_simp; go_at_call 18; refine (qnorm_any HB5.out (by omega)).mono ?_; rintro e w6 ⟨s6, A6, n6, c6, B6, m6, d6, rfl, h6, hb⟩; have H6 := Lib.hid h6; replace H5 := Lib.hid (H5.out.new hb); replace U2 := Lib.hid (U2.out.new hb); replace U3 := Lib.hid (U3.out.new hb); replace U4 := Lib.hid (U4.out.new hb); replace HW5 := Lib.hid (bthen HW5.out hb HW5.out.size); clear h6 hb; have e0 := U3.out.c0; have e1 := U3.out.c1; have e2 := U3.out.c2; have g0 := U3.out.f0; have g1 := U3.out.f1; have g2 := U3.out.f2; have d0 := U2.out.c0; have d1 := U2.out.c1; have d2 := U2.out.c2; have f0 := U2.out.f0; have f1 := U2.out.f1; have f2 := U2.out.f2)
      | (go_simp; go_at_call 18; refine (qnorm_any (w := w0.drew) HA.out (by omega)).mono ?_; rintro e w5 ⟨s5, A5, n5, c5, B5, m5, d5, rfl, h5, hb⟩; have H5 := Lib.hid h5; have U2 := Lib.hid (T2.out.drew.new hb); have U3 := Lib.hid (T3.out.drew.new hb); have U4 := Lib.hid (T4.out.drew.new hb); have HW5 := Lib.hid (bthen HW.out.drew hb HW.out.drew.size); have HB5 := Lib.hid (HB.out.new (w := w0.drew) hb); clear h5 hb; have b0 := U3.out.c0; have b1 := U3.out.c1; have b2 := U3.out.c2))
    all_goals
      go_wp2_with fail
      go_meet
      exact ⟨rfl, s5, A5, n5, c5, B5, m5, d5, s6, A6, n6, c6, B6, m6, d6, Lib.hid (two_stored U2.out U3.out U4.out H5.out H6.out HW5.out rfl rfl rfl rfl rfl rfl)⟩
  case rest =>
    clear HA HB HW T2 T3 T4
    obtain ⟨rfl, s1, A1, n1, c1, B1, m1, d1, s2, A2, n2, c2, B2, m2, d2, HC⟩ := hcut
    obtain ⟨t2, t3, t4, r1, r2, hW⟩ := HC.out
    have l2 := t2.lt; have l3 := t3.lt; have l4 := t4.lt
    have T2 := Lib.hid t2; have T3 := Lib.hid t3; have T4 := Lib.hid t4; have R1 := Lib.hid r1; have R2 := Lib.hid r2; have HW := Lib.hid hW
    clear t2 t3 t4 r1 r2 hW HC
    have a0 := T2.out.c0; have a1 := T2.out.c1; have a2 := T2.out.c2
    have b0 := T3.out.c0; have b1 := T3.out.c1; have b2 := T3.out.c2
    go_wp2_with fail
    go_region_held3 (fun w' => ((w'.cell? ⟨w.heap.size, 0, none⟩ = some (.bool s1) ∧ w'.cell? ⟨w.heap.size, 1, none⟩ = some (.slice A1 n1 c1) ∧ w'.cell? ⟨w.heap.size, 2, none⟩ = some (.slice B1 m1 d1)) ∧ (w'.cell? ⟨w.heap.size + 1, 0, none⟩ = some (.bool s2) ∧ w'.cell? ⟨w.heap.size + 1, 1, none⟩ = some (.slice A2 n2 c2) ∧ w'.cell? ⟨w.heap.size + 1, 2, none⟩ = some (.slice B2 m2 d2))) ∧ wc.grownBy w' (some (w.heap.size + 2)))
      ((refine keep6 T2.out T3.out ?_ (by omega) (by omega); first | exact World.grownBy.refl _ _ | exact only_drew (World.grownBy.refl _ _) | exact Hid.out ‹_› | exact only_store3 (Hid.out ‹_›) _ _ _))
      (first
        | (have Hg := H5; clear Hg; go_at_call 48; refine (mul_n (R2.out.2.1.1.new HB5.out) (R1.out.2.2.1.new HB5.out) (by omega)).mono ?_; rintro e w6 ⟨A6, k6, c6, rfl, h6, -, hb⟩; have H6 := Lib.hid h6; replace H5 := Lib.hid (H5.out.new hb); have HB6 := Lib.hid (bthen HB5.out hb HB5.out.size); have HG6 := Lib.hid (grown_below HB6.out (some (w.heap.size + 2))); clear h6 hb)
        | (go_at_call 48; refine (mul_n (w := wc.drew) R1.out.2.1.1 R2.out.2.2.1 (by omega)).mono ?_; rintro e w5 ⟨A5, k5, c5, rfl, h5, -, hb⟩; have H5 := Lib.hid h5; have HB5 := Lib.hid (below_from_drew hb); have HG5 := Lib.hid (grown_below HB5.out (some (w.heap.size + 2))); clear h5 hb))
    have hb := HB6.out
    replace H6 := Lib.hid (H6.out.more (b := b + b') (by omega))
    clear HB5 HB6 HG5 HG6 a0 a1 a2 b0 b1 b2
    clear ‹_ ∧ wc.grownBy _ _›
    replace T2 := Lib.hid (T2.out.new hb); replace T3 := Lib.hid (T3.out.new hb); replace T4 := Lib.hid (T4.out.new hb)
    replace R1 := Lib.hid (R1.out.new hb); replace R2 := Lib.hid (R2.out.new hb)
    replace HW := Lib.hid (bthen HW.out hb HW.out.size)
    clear hb
    have a0 := T2.out.c0; have a2 := T2.out.c2; have b0 := T3.out.c0; have b2 := T3.out.c2
    go_wp2_with fail
    refine (mul_n R1.out.2.2.1 R2.out.2.2.1 (by omega)).mono ?_
    rintro e w8 ⟨A8, k8, c8, rfl, h8, -, hb⟩
    have H8 := Lib.hid h8
    clear a0 a2 b0 b2
    replace T2 := Lib.hid (T2.out.new hb); replace T3 := Lib.hid (T3.out.new hb); replace T4 := Lib.hid (T4.out.new hb)
    replace R1 := Lib.hid (R1.out.new hb); replace R2 := Lib.hid (R2.out.new hb)
    replace HW := Lib.hid (bthen HW.out hb HW.out.size)
    replace H5 := Lib.hid (H5.out.new hb); replace H6 := Lib.hid (H6.out.new hb)
    clear h8 hb
    have a0 := T2.out.c0; have b0 := T3.out.c0
    have HD := Lib.hid (H8.out.more (b := b + b' + 1) (by omega))
    by_cases hs : s1 = s2
    · subst hs
      have ts : (s1 == s1) = true := by simp
      have HQ := Lib.hid (show x + y = qv s1 (x.num.natAbs * y.den + y.num.natAbs * x.den) (x.den * y.den) by
        rw [qv_same x.den_nz y.den_nz]
        conv => rhs; rhs; rw [R2.out.1, qv_self]
        rw [R1.out.1, qv_self])
      go_wp2_with fail
      have l4 := T4.out.lt
      go_region_held3 (fun w' => ((w'.cell? ⟨w.heap.size, 0, none⟩ = some (.bool s1) ∧ w'.cell? ⟨w.heap.size, 1, none⟩ = some (.slice A1 n1 c1) ∧ w'.cell? ⟨w.heap.size, 2, none⟩ = some (.slice B1 m1 d1)) ∧ (w'.cell? ⟨w.heap.size + 1, 0, none⟩ = some (.bool s1) ∧ w'.cell? ⟨w.heap.size + 1, 1, none⟩ = some (.slice A2 n2 c2) ∧ w'.cell? ⟨w.heap.size + 1, 2, none⟩ = some (.slice B2 m2 d2))) ∧ w8.grownBy w' (some (w.heap.size + 2)))
        ((refine keep6 T2.out T3.out ?_ (by omega) (by omega); first | exact World.grownBy.refl _ _ | exact only_drew (World.grownBy.refl _ _) | exact Hid.out ‹_› | exact only_store3 (Hid.out ‹_›) _ _ _))
        (first
          | (have Hg := H9; clear Hg; go_at_call 18; refine (qnorm_any (x := x + y) (s := s1) (b := b + b' + 1) ⟨_, _, H9.out.up (PB_two H5.out H6.out) (by omega), HD.out.new HB9.out, HQ.out⟩ (by omega)).mono ?_; rintro e w7 ⟨s7, A7, n7, c7, B7, m7, d7, rfl, h7, hb⟩; have H7 := Lib.hid h7; have HB7 := Lib.hid (bthen HB9.out hb HB9.out.size); have HG7 := Lib.hid (grown_below HB7.out (some (w.heap.size + 2))); have HW7 := Lib.hid (bthen HW.out HB7.out HW.out.size); clear h7 hb; have U4 := Lib.hid (T4.out.new HB7.out); have r0 := U4.out.c0; have r1 := U4.out.c1; have r2 := U4.out.c2; have f0 := U4.out.f0; have f1 := U4.out.f1; have f2 := U4.out.f2)
          | (go_at_call 49; refine (add_n (w := w8.drew) H5.out H6.out (by omega)).mono ?_; rintro e w9 ⟨A9, k9, c9, rfl, h9, -, hb⟩; have H9 := Lib.hid h9; have HB9 := Lib.hid (below_from_drew hb); have HG9 := Lib.hid (grown_below HB9.out (some (w.heap.size + 2))); clear h9 hb))
      go_wp2_with fail
      refine bodyPost_ret (v := .agg #[.bool s7, .slice A7 n7 c7, .slice B7 m7 d7]) ?_ rfl ⟨_, _, _, _, _, _, _, rfl, H7.out.store3 U4.out _ _ _, below_store3 HW7.out (by omega) _ _ _⟩
      exact results_cell_row Try.results22 _ _ _ _ _ (0, 0) _ rfl (U4.out.set3 _ _ _) Try.underlying29 rfl rfl
    · have ts : (s1 == s2) = false := by simp [hs]
      have hs2 : s2 = !s1 := bool_ne hs
      have hs1 : s1 = !s2 := bool_ne (fun h => hs h.symm)
      have HQ := Lib.hid (show x + y = qv s1 x.num.natAbs x.den + qv (!s1) y.num.natAbs y.den by rw [← hs2, R1.out.1, R2.out.1, qv_self, qv_self])
      have HQ2 := Lib.hid (show x + y = qv s2 y.num.natAbs y.den + qv (!s2) x.num.natAbs x.den by rw [← hs1, R1.out.1, R2.out.1, qv_self, qv_self, Rat.add_comm])
      clear hs hs1 hs2
      by_cases hle : y.num.natAbs * x.den ≤ x.num.natAbs * y.den
      · have HL := Lib.hid hle; clear hle
        go_wp2_with fail
        refine (sub_n H5.out H6.out (by omega)).mono ?_
        rintro e w9 ⟨-, hs⟩
        obtain ⟨A9, k9, c9, rfl, h9, -, hb⟩ := hs HL.out
        clear hs a0 b0
        replace T2 := Lib.hid (T2.out.new hb); replace T3 := Lib.hid (T3.out.new hb); replace T4 := Lib.hid (T4.out.new hb)
        replace R1 := Lib.hid (R1.out.new hb); replace R2 := Lib.hid (R2.out.new hb)
        replace HW := Lib.hid (bthen HW.out hb HW.out.size)
        replace HD := Lib.hid (HD.out.new hb)
        have H9 := Lib.hid (h9.more (b := b + b' + 1) (by omega)); clear h9 hb
        have a0 := T2.out.c0
        go_wp2_with fail
        refine (qnorm_any (x := x + y) (s := s1) (b := b + b' + 1) ⟨_, _, H9.out, HD.out, by rw [HQ.out, qv_diff x.den_nz y.den_nz HL.out]⟩ (by omega)).mono ?_
        rintro e w7 ⟨s7, A7, n7, c7, B7, m7, d7, rfl, h7, hb⟩
        have H7 := Lib.hid h7
        have U4 := Lib.hid (T4.out.new hb)
        have HW7 := Lib.hid (bthen HW.out hb HW.out.size)
        have r0 := U4.out.c0; have r1 := U4.out.c1; have r2 := U4.out.c2; have f0 := U4.out.f0; have f1 := U4.out.f1; have f2 := U4.out.f2
        clear h7 hb
        go_wp2_with fail
        refine bodyPost_ret (v := .agg #[.bool s7, .slice A7 n7 c7, .slice B7 m7 d7]) ?_ rfl ⟨_, _, _, _, _, _, _, rfl, H7.out.store3 U4.out _ _ _, below_store3 HW7.out (by omega) _ _ _⟩
        exact results_cell_row Try.results22 _ _ _ _ _ (0, 0) _ rfl (U4.out.set3 _ _ _) Try.underlying29 rfl rfl
      · have HL := Lib.hid (show x.num.natAbs * y.den < y.num.natAbs * x.den by omega); clear hle
        go_wp2_with fail
        refine (sub_n H5.out H6.out (by omega)).mono ?_
        rintro e w9 ⟨hs, -⟩
        obtain ⟨rfl, hb⟩ := hs HL.out
        clear hs a0 b0
        replace T2 := Lib.hid (T2.out.new hb); replace T3 := Lib.hid (T3.out.new hb); replace T4 := Lib.hid (T4.out.new hb)
        replace R1 := Lib.hid (R1.out.new hb); replace R2 := Lib.hid (R2.out.new hb)
        replace HW := Lib.hid (bthen HW.out hb HW.out.size)
        replace HD := Lib.hid (HD.out.new hb); replace H5 := Lib.hid (H5.out.new hb); replace H6 := Lib.hid (H6.out.new hb)
        clear hb
        go_wp2_with fail
        refine (sub_n H6.out H5.out (by omega)).mono ?_
        rintro e w10 ⟨-, hs⟩
        obtain ⟨A9, k9, c9, rfl, h9, -, hb⟩ := hs (Nat.le_of_lt HL.out)
        clear hs
        replace T2 := Lib.hid (T2.out.new hb); replace T3 := Lib.hid (T3.out.new hb); replace T4 := Lib.hid (T4.out.new hb)
        replace R1 := Lib.hid (R1.out.new hb); replace R2 := Lib.hid (R2.out.new hb)
        replace HW := Lib.hid (bthen HW.out hb HW.out.size)
        replace HD := Lib.hid (HD.out.new hb)
        have H9 := Lib.hid (h9.more (b := b + b' + 1) (by omega)); clear h9 hb
        have b0 := T3.out.c0
        go_wp2_with fail
        refine (qnorm_any (x := x + y) (s := s2) (b := b + b' + 1) ⟨_, _, H9.out, HD.out, by rw [HQ2.out, Nat.mul_comm x.den, qv_diff y.den_nz x.den_nz (Nat.le_of_lt HL.out)]⟩ (by omega)).mono ?_
        rintro e w7 ⟨s7, A7, n7, c7, B7, m7, d7, rfl, h7, hb⟩
        have H7 := Lib.hid h7
        have U4 := Lib.hid (T4.out.new hb)
        have HW7 := Lib.hid (bthen HW.out hb HW.out.size)
        have r0 := U4.out.c0; have r1 := U4.out.c1; have r2 := U4.out.c2; have f0 := U4.out.f0; have f1 := U4.out.f1; have f2 := U4.out.f2
        clear h7 hb
        go_wp2_with fail
        refine bodyPost_end (v := .agg #[.bool s7, .slice A7 n7 c7, .slice B7 m7 d7]) ?_ rfl ⟨_, _, _, _, _, _, _, rfl, H7.out.store3 U4.out _ _ _, below_store3 HW7.out (by omega) _ _ _⟩
        exact results_cell_row Try.results22 _ _ _ _ _ (0, 0) _ rfl (U4.out.set3 _ _ _) Try.underlying29 rfl rfl
end Go.Proofs.Ytifnbpkcnkfanaa
