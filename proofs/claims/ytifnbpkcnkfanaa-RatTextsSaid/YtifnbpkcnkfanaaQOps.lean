/-
  rat: Add, Mul.
-/
import Derived.Test.YtifnbpkcnkfanaaQNorm
import Derived.Deep.RegionLaw
namespace Go.Proofs.Ytifnbpkcnkfanaa
open Go.RowKit

theorem TB.far3 {w : World} {g h : Nat} {t : TypeId} {x y z : Value} (hT : TB w h t x y z) (hne : h ≠ g) (a b c : Value) : TB (((w.setCell ⟨g, 0, none⟩ a).setCell ⟨g, 1, none⟩ b).setCell ⟨g, 2, none⟩ c) h t x y z :=
  ((hT.blk.far (p := ⟨g, 0, none⟩) hne a).far (p := ⟨g, 1, none⟩) hne b).far (p := ⟨g, 2, none⟩) hne c
theorem TB.drew {w : World} {g : Nat} {t : TypeId} {x y z : Value} (h : TB w g t x y z) : TB w.drew g t x y z := h

/-- Both arguments replaced by their normal forms. -/
theorem two_stored {w w6 : World} {g : Nat} {s s' s5 s6 : Bool} {A B A' B' A5 B5 A6 B6 : Option Addr} {n c m d n' c' m' d' n5 c5 m5 d5 n6 c6 m6 d6 b b' : Nat} {x y : Rat} {t : TypeId} {z0 z1 z2 : Value}
    (h2 : TB w6 g t (.bool s) (.slice A n c) (.slice B m d)) (h3 : TB w6 (g + 1) t (.bool s') (.slice A' n' c') (.slice B' m' d')) (h4 : TB w6 (g + 2) t z0 z1 z2)
    (h5 : Rn w6 s5 A5 n5 c5 B5 m5 d5 b x) (h6 : Rn w6 s6 A6 n6 c6 B6 m6 d6 b' y) (hW : Below g w w6) {a0 a1 a2 b0 b1 b2 : Value} (e0 : a0 = .bool s5) (e1 : a1 = .slice A5 n5 c5) (e2 : a2 = .slice B5 m5 d5) (f0 : b0 = .bool s6) (f1 : b1 = .slice A6 n6 c6) (f2 : b2 = .slice B6 m6 d6) :
    (fun wx => TB wx g t (.bool s5) (.slice A5 n5 c5) (.slice B5 m5 d5) ∧ TB wx (g + 1) t (.bool s6) (.slice A6 n6 c6) (.slice B6 m6 d6) ∧ TB wx (g + 2) t z0 z1 z2 ∧ Rn wx s5 A5 n5 c5 B5 m5 d5 b x ∧ Rn wx s6 A6 n6 c6 B6 m6 d6 b' y ∧ Below g w wx)
      ((((((w6.setCell ⟨g, 0, none⟩ a0).setCell ⟨g, 1, none⟩ a1).setCell ⟨g, 2, none⟩ a2).setCell ⟨g + 1, 0, none⟩ b0).setCell ⟨g + 1, 1, none⟩ b1).setCell ⟨g + 1, 2, none⟩ b2) := by
  subst e0 e1 e2 f0 f1 f2
  have k3 : TB (((w6.setCell ⟨g, 0, none⟩ (.bool s5)).setCell ⟨g, 1, none⟩ (.slice A5 n5 c5)).setCell ⟨g, 2, none⟩ (.slice B5 m5 d5)) (g + 1) t (.bool s') (.slice A' n' c') (.slice B' m' d') := h3.far3 (by omega) _ _ _
  refine ⟨?_, k3.set3 _ _ _, (h4.far3 (by omega) _ _ _).far3 (by omega) _ _ _, (h5.store3 h2 _ _ _).store3 k3 _ _ _, (h6.store3 h2 _ _ _).store3 k3 _ _ _, below_store3 (below_store3 hW (Nat.le_refl _) _ _ _) (by omega) _ _ _⟩
  exact TB.far3 (h2.set3 _ _ _) (by omega) _ _ _
theorem keep6 {wc w' : World} {g2 g3 g4 : Nat} {t : TypeId} {x y z x' y' z' : Value} (h2 : TB wc g2 t x y z) (h3 : TB wc g3 t x' y' z') (hg : wc.grownBy w' (some g4)) (n2 : g2 ≠ g4) (n3 : g3 ≠ g4) :
    ((w'.cell? ⟨g2, 0, none⟩ = some x ∧ w'.cell? ⟨g2, 1, none⟩ = some y ∧ w'.cell? ⟨g2, 2, none⟩ = some z) ∧ (w'.cell? ⟨g3, 0, none⟩ = some x' ∧ w'.cell? ⟨g3, 1, none⟩ = some y' ∧ w'.cell? ⟨g3, 2, none⟩ = some z')) ∧ wc.grownBy w' (some g4) := by
  have k2 : TB w' g2 t x y z := h2.blk.grown hg (by simpa using n2)
  have k3 : TB w' g3 t x' y' z' := h3.blk.grown hg (by simpa using n3)
  exact ⟨⟨⟨k2.c0, k2.c1, k2.c2⟩, ⟨k3.c0, k3.c1, k3.c2⟩⟩, hg⟩
theorem only_store3 {a w : World} {g : Nat} (h : a.grownBy w (some g)) (x y z : Value) : a.grownBy (((w.setCell ⟨g, 0, none⟩ x).setCell ⟨g, 1, none⟩ y).setCell ⟨g, 2, none⟩ z) (some g) :=
  only_setCell (only_setCell (only_setCell h (.inl rfl) _) (.inl rfl) _) (.inl rfl) _
theorem grown_below {wc w' : World} (h : Below wc.heap.size wc w') (row : Option Nat) : wc.grownBy w' row := ⟨h.os, h.tape, h.output, h.size, fun k hk _ => h.block k hk⟩
theorem below_from_drew {wc w' : World} (h : Below wc.drew.heap.size wc.drew w') : Below wc.heap.size wc w' := bthen (Below.refl wc.heap.size wc).drew h (Nat.le_refl _)

set_option maxRecDepth 100000 in
set_option maxHeartbeats 8000000 in
theorem qmul_any {w : World} {s : Bool} {A B : Option Addr} {n c m d b : Nat} {x : Rat} (h : Ra w s A n c B m d b x) {s' : Bool} {A' B' : Option Addr} {n' c' m' d' b' : Nat} {y : Rat} (h' : Ra w s' A' n' c' B' m' d' b' y) (hb5 : b + b' ≤ 5000) :
    Calls Try.prog 23 #[.agg #[.bool s, .slice A n c, .slice B m d], .agg #[.bool s', .slice A' n' c', .slice B' m' d']] w (RetQ w (b + b') (x * y)) := by
  have HA := Lib.hid h; have HB := Lib.hid h'; clear h h'
  go_enter Try.func23, Try.ntmps23
  go_upto_region 1 with (fail)
  obtain ⟨X, hX⟩ : ∃ X : Array Value, X = #[.bool s, .slice A n c, .slice B m d] := ⟨_, rfl⟩
  obtain ⟨Y, hY⟩ : ∃ Y : Array Value, Y = #[.bool s', .slice A' n' c', .slice B' m' d'] := ⟨_, rfl⟩
  obtain ⟨Z, hZ⟩ : ∃ Z : Array Value, Z = #[.bool false, .slice none 0 0, .slice none 0 0] := ⟨_, rfl⟩
  have hW : Below w.heap.size w (((w.alloc (.cells X 29)).alloc (.cells Y 29)).alloc (.cells Z 29)) := ((al w _).alloc (by simp) _).alloc (by simp; omega) _
  have h2 : Blk (((w.alloc (.cells X 29)).alloc (.cells Y 29)).alloc (.cells Z 29)) w.heap.size 29 X := ((Blk.new w _ _).alloc _).alloc _
  have h3 : Blk (((w.alloc (.cells X 29)).alloc (.cells Y 29)).alloc (.cells Z 29)) (w.heap.size + 1) 29 Y := by
    have := (Blk.new (w.alloc (.cells X 29)) 29 Y).alloc (.cells Z 29)
    simpa using this
  have h4 : Blk (((w.alloc (.cells X 29)).alloc (.cells Y 29)).alloc (.cells Z 29)) (w.heap.size + 2) 29 Z := by
    have := (Blk.new ((w.alloc (.cells X 29)).alloc (.cells Y 29)) 29 Z)
    simpa using this
  rw [hX, hY, hZ] at hW h2 h3 h4
  clear hX hY hZ
  generalize ((w.alloc (.cells #[.bool s, .slice A n c, .slice B m d] 29)).alloc (.cells #[.bool s', .slice A' n' c', .slice B' m' d'] 29)).alloc (.cells #[.bool false, .slice none 0 0, .slice none 0 0] 29) = w0 at hW h2 h3 h4 ⊢
  clear X Y Z
  replace HA := Lib.hid (HA.out.new hW); replace HB := Lib.hid (HB.out.new hW)
  have HW := Lib.hid hW; clear hW
  have T2 : Hid (TB w0 w.heap.size 29 (.bool s) (.slice A n c) (.slice B m d)) := Lib.hid h2
  have T3 : Hid (TB w0 (w.heap.size + 1) 29 (.bool s') (.slice A' n' c') (.slice B' m' d')) := Lib.hid h3
  have T4 : Hid (TB w0 (w.heap.size + 2) 29 (.bool false) (.slice none 0 0) (.slice none 0 0)) := Lib.hid h4
  clear h2 h3 h4
  go_cut [2] (fun p2 wx => p2 = .pointer (some ⟨w.heap.size, 0, none⟩) ∧ ∃ s1 A1 n1 c1 B1 m1 d1 s2 A2 n2 c2 B2 m2 d2, Hid (TB wx w.heap.size 29 (.bool s1) (.slice A1 n1 c1) (.slice B1 m1 d1) ∧ TB wx (w.heap.size + 1) 29 (.bool s2) (.slice A2 n2 c2) (.slice B2 m2 d2) ∧ TB wx (w.heap.size + 2) 29 (.bool false) (.slice none 0 0) (.slice none 0 0) ∧ Rn wx s1 A1 n1 c1 B1 m1 d1 b x ∧ Rn wx s2 A2 n2 c2 B2 m2 d2 b' y ∧ Below w.heap.size w wx))
  case first =>
    have a0 := T2.out.c0; have a1 := T2.out.c1; have a2 := T2.out.c2
    have b0 := T3.out.c0; have b1 := T3.out.c1; have b2 := T3.out.c2
    go_region_law (first
      | (have HB5' := HB5; clear HB5'; go_simp; go_at_call 18; refine (qnorm_any HB5.out (by omega)).mono ?_; rintro e w6 ⟨s6, A6, n6, c6, B6, m6, d6, rfl, h6, hb⟩; have H6 := Lib.hid h6; replace H5 := Lib.hid (H5.out.new hb); replace U2 := Lib.hid (U2.out.new hb); replace U3 := Lib.hid (U3.out.new hb); replace U4 := Lib.hid (U4.out.new hb); replace HW5 := Lib.hid (bthen HW5.out hb HW5.out.size); clear h6 hb; have e0 := U3.out.c0; have e1 := U3.out.c1; have e2 := U3.out.c2; have g0 := U3.out.f0; have g1 := U3.out.f1; have g2 := U3.out.f2; have d0 := U2.out.c0; have d1 := U2.out.c1; have d2 := U2.out.c2; have f0 := U2.out.f0; have f1 := U2.out.f1; have f2 := U2.out.f2)
      | (go_simp; go_at_call 18; refine (qnorm_any (w := w0.drew) HA.out (by omega)).mono ?_; rintro e w5 ⟨s5, A5, n5, c5, B5, m5, d5, rfl, h5, hb⟩; have H5 := Lib.hid h5; have U2 := Lib.hid (T2.out.drew.new hb); have U3 := Lib.hid (T3.out.drew.new hb); have U4 := Lib.hid (T4.out.drew.new hb); have HW5 := Lib.hid (bthen HW.out.drew hb HW.out.drew.size); have HB5 := Lib.hid (HB.out.new (w := w0.drew) hb); clear h5 hb; have b0 := U3.out.c0; have b1 := U3.out.c1; have b2 := U3.out.c2))
    all_goals
      go_wp2_with fail
      go_meet
      exact ⟨rfl, s5, A5, n5, c5, B5, m5, d5, s6, A6, n6, c6, B6, m6, d6, Lib.hid (two_stored U2.out U3.out U4.out H5.out H6.out HW5.out rfl rfl rfl rfl rfl rfl)⟩
  case rest =>
    clear HA HB HW T2 T3 T4
    obtain ⟨rfl, s1, A1, n1, c1, B1, m1, d1, s2, A2, n2, c2, B2, m2, d2, HC⟩ := hcut
    obtain ⟨t2, t3, t4, r1, r2, hW⟩ := HC.out
    have l2 := t2.lt; have l3 := t3.lt; have l4 := t4.lt
    have T2 := Lib.hid t2; have T3 := Lib.hid t3; have T4 := Lib.hid t4; have R1 := Lib.hid r1; have R2 := Lib.hid r2; have HW := Lib.hid hW
    clear t2 t3 t4 r1 r2 hW HC
    have a0 := T2.out.c0; have a1 := T2.out.c1; have a2 := T2.out.c2
    have b0 := T3.out.c0; have b1 := T3.out.c1; have b2 := T3.out.c2
    have HQ := Lib.hid (show x * y = qv (s1 != s2) (x.num.natAbs * y.num.natAbs) (x.den * y.den) by rw [qv_mul x.den_nz y.den_nz, R1.out.1, R2.out.1, qv_self, qv_self])
    go_wp2_with fail
    go_region_held3 (fun w' => ((w'.cell? ⟨w.heap.size, 0, none⟩ = some (.bool s1) ∧ w'.cell? ⟨w.heap.size, 1, none⟩ = some (.slice A1 n1 c1) ∧ w'.cell? ⟨w.heap.size, 2, none⟩ = some (.slice B1 m1 d1)) ∧ (w'.cell? ⟨w.heap.size + 1, 0, none⟩ = some (.bool s2) ∧ w'.cell? ⟨w.heap.size + 1, 1, none⟩ = some (.slice A2 n2 c2) ∧ w'.cell? ⟨w.heap.size + 1, 2, none⟩ = some (.slice B2 m2 d2))) ∧ wc.grownBy w' (some (w.heap.size + 2)))
      ((refine keep6 T2.out T3.out ?_ (by omega) (by omega); first | exact World.grownBy.refl _ _ | exact only_drew (World.grownBy.refl _ _) | exact Hid.out ‹_› | exact only_store3 (Hid.out ‹_›) _ _ _))
      (first
        | (have Hg := H6; clear Hg; go_at_call 18; refine (qnorm_any (s := s1 != s2) (b := b + b') ⟨_, _, H5.out, H6.out, HQ.out⟩ (by omega)).mono ?_; rintro e w7 ⟨s7, A7, n7, c7, B7, m7, d7, rfl, h7, hb⟩; have H7 := Lib.hid h7; have HB7 := Lib.hid (bthen HB6.out hb HB6.out.size); have HG7 := Lib.hid (grown_below HB7.out (some (w.heap.size + 2))); clear h7 hb; have U4 := Lib.hid (T4.out.new HB7.out); have r0 := U4.out.c0; have r1 := U4.out.c1; have r2 := U4.out.c2; have f0 := U4.out.f0; have f1 := U4.out.f1; have f2 := U4.out.f2)
        | (have Hg := H5; clear Hg; go_at_call 48; refine (mul_n (R1.out.2.2.1.new HB5.out) (R2.out.2.2.1.new HB5.out) (by omega)).mono ?_; rintro e w6 ⟨A6, k6, c6, rfl, h6, -, hb⟩; have H6 := Lib.hid h6; replace H5 := Lib.hid (H5.out.new hb); have HB6 := Lib.hid (bthen HB5.out hb HB5.out.size); have HG6 := Lib.hid (grown_below HB6.out (some (w.heap.size + 2))); clear h6 hb)
        | (go_at_call 48; refine (mul_n (w := wc.drew) R1.out.2.1.1 R2.out.2.1.1 (by omega)).mono ?_; rintro e w5 ⟨A5, k5, c5, rfl, h5, -, hb⟩; have H5 := Lib.hid h5; have HB5 := Lib.hid (below_from_drew hb); have HG5 := Lib.hid (grown_below HB5.out (some (w.heap.size + 2))); clear h5 hb))
    go_wp2_with fail
    refine bodyPost_end (v := .agg #[.bool s7, .slice A7 n7 c7, .slice B7 m7 d7]) ?_ rfl ⟨_, _, _, _, _, _, _, rfl, H7.out.store3 U4.out _ _ _, below_store3 (bthen HW.out HB7.out HW.out.size) (by omega) _ _ _⟩
    exact results_cell_row Try.results23 _ _ _ _ _ (0, 0) _ rfl (U4.out.set3 _ _ _) Try.underlying29 rfl rfl
end Go.Proofs.Ytifnbpkcnkfanaa
