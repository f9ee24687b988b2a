/-
Rows of one Rat as values; a problem with another objective.
The walk of law28.SimplexScales. Printed by gen/slaw.py.
-/
import Derived.Test.YtamcibmjpmibdaaK17
import Derived.Test.YtamcibmjpmibdaaK15
namespace Go.Proofs.Ytamcibmjpmibdaa
open Go.RowKit
set_option linter.unusedVariables false
set_option linter.unusedSimpArgs false

section
variable {o : Oper} {a : Act} {w : World} {t : Tmp}
theorem gives_bs_rat {s : Bool} {A B : Option Addr} {k c m d : Nat} (ho : o.op = .buildSlice 28 1 #[(0, .tmp t)]) (h : tv a t = .agg #[.bool s, .slice A k c, .slice B m d]) : gives Try.prog o a.eval w (fun v w' => v = .slice (some ⟨w.heap.size, 0, none⟩) 1 1 ∧ Blk w' w.heap.size 41 #[.bool s, .slice A k c, .slice B m d] ∧ Below w.heap.size w w') := by
  have hh : a.tmps[t]?.getD undef = .agg #[.bool s, .slice A k c, .slice B m d] := by simpa [tv] using h
  have hr : (execOp a.eval o).run Try.prog w = .ok (.value (.slice (some ⟨w.heap.size, 0, none⟩) 1 1)) (w.alloc (.cells #[.bool s, .slice A k c, .slice B m d] 41)) := by
    unfold execOp
    rw [ho]
    go_simp
  unfold gives
  rw [hr]
  exact ⟨rfl, Blk.new _ _ _, al _ _⟩
/-- A row of one Rat, of any form. -/
def OneW (b : Nat) (x : Rat) (v : Value) (w : World) : Prop := ∃ A0, v = .slice A0 1 1 ∧ Rs w w.heap.size A0 1 (PW w b (fun _ => x))
/-- .. of normal form. -/
def OneN (b : Nat) (x : Rat) (v : Value) (w : World) : Prop := ∃ A0, v = .slice A0 1 1 ∧ Rs w w.heap.size A0 1 (PN w b (fun _ => x))
theorem OneW.new {b : Nat} {x : Rat} {v : Value} {w w' : World} (h : OneW b x v w) (hb : Below w.heap.size w w') : OneW b x v w' := by obtain ⟨A0, h1, h2⟩ := h; exact ⟨A0, h1, Rs.newW h2 hb⟩
theorem OneN.new {b : Nat} {x : Rat} {v : Value} {w w' : World} (h : OneN b x v w) (hb : Below w.heap.size w w') : OneN b x v w' := by obtain ⟨A0, h1, h2⟩ := h; exact ⟨A0, h1, Rs.newN h2 hb⟩
theorem one_rl {P : Nat → Value → Prop} {s : Bool} {A B : Option Addr} {k c m d : Nat} (h : P 0 (.agg #[.bool s, .slice A k c, .slice B m d])) : RL P 1 [.bool s, .slice A k c, .slice B m d] :=
  (RL.nil P).app h
theorem gives_one_w {b : Nat} {x : Rat} (ho : o.op = .buildSlice 28 1 #[(0, .tmp t)]) (h : Rw b x (tv a t) w) : gives Try.prog o a.eval w (fun v w' => OneW b x v w' ∧ Below w.heap.size w w') := by
  have h0 := h
  obtain ⟨s, A, k, c, B, m, d, e, -⟩ := h
  refine gives_mono (gives_bs_rat ho e) ?_
  rintro v w' ⟨rfl, h1, h2⟩
  rw [e] at h0
  exact ⟨⟨_, rfl, Rs.of_rb ⟨_, h1, one_rl (P := PW w' b (fun _ => x)) (h0.new h2)⟩⟩, h2⟩
theorem gives_one_n {b : Nat} {x : Rat} (ho : o.op = .buildSlice 28 1 #[(0, .tmp t)]) (h : Rv b x (tv a t) w) : gives Try.prog o a.eval w (fun v w' => OneN b x v w' ∧ Below w.heap.size w w') := by
  have h0 := h
  obtain ⟨s, A, k, c, B, m, d, e, -⟩ := h
  refine gives_mono (gives_bs_rat ho e) ?_
  rintro v w' ⟨rfl, h1, h2⟩
  rw [e] at h0
  exact ⟨⟨_, rfl, Rs.of_rb ⟨_, h1, one_rl (P := PN w' b (fun _ => x)) (h0.new h2)⟩⟩, h2⟩
end
section
variable {w : World} {b b' n m k : Nat} {AC AC' AA AB : Option Addr} {Ar : Nat → Option Addr} {ln cp : Nat → Nat} {A : Nat → Nat → Rat} {C C' B : Nat → Rat}
theorem PrW.obj (h : PrW w b n m k AC AA AB Ar ln cp A C B) (hc : Rs w w.heap.size AC' n (PW w b' C')) (hb : b ≤ b') : PrW w b' n m k AC' AA AB Ar ln cp A C' B :=
  ⟨hc, h.a, fun i hi => (h.row i hi).wider hb, h.bb.wider hb⟩
theorem PrW.cell {ad : Addr} (h : PrW w b n m k AC (some ad) AB Ar ln cp A C B) {i : Nat} (hi : i < m) : w.cell? (ad.add i) = some (.slice (Ar i) (ln i) (cp i)) := by
  obtain ⟨ad', e, _, hc⟩ := h.at_ hi
  cases e
  exact hc
end
theorem at_mod {an m : Nat} (h : an ≤ 255) (hm : 0 < m) : ∃ ia : Nat, (wrap64 (an : Int)).tmod (m : Int) = (ia : Int) ∧ ia < m := by
  refine ⟨an % m, ?_, Nat.mod_lt _ hm⟩
  rw [show wrap64 (an : Int) = (an : Int) from by unfold wrap64; omega, tmod_nat]
theorem fz_frac {fz : Nat} (h1 : 1 ≤ fz) (h2 : fz ≤ 7) : 0 < (((fz : Nat) : Int) : Rat) ∧ Frac 1 7 (((fz : Nat) : Int) : Rat) :=
  ⟨by rw [show (0 : Rat) = ((0 : Int) : Rat) from rfl]; exact Rat.intCast_lt_intCast.2 (by omega), fz, by omega, by simp⟩
theorem Bn.grown {b g : Nat} {x : Rat} {w w' : World} {row : Option Nat} (h : Bn b x g w) (hg : w.grownBy w' row) (hne : some g ≠ row) (k : KeepsN w w') : Bn b x g w' := by
  obtain ⟨s, A, n, c, B, m, d, h0, h1, ⟨h2, h3⟩, h4, h5⟩ := h
  exact ⟨s, A, n, c, B, m, d, Blk.grown h0 hg hne, h1, ⟨h2.keepN k, h3.keepN k⟩, h4.keepN k, h5.keepN k⟩
end Go.Proofs.Ytamcibmjpmibdaa
namespace Go.Proofs.Ytamcibmjpmibdaa
open Go.RowKit
set_option linter.unusedVariables false
set_option linter.unusedSimpArgs false

set_option maxRecDepth 100000 in
set_option maxHeartbeats 16000000 in
theorem scales_walk (n m k cC cA cB : Nat) (PC PA PB : Option Addr) (Pr : Nat → Option Addr) (ln cp : Nat → Nat) (NC NB : Nat → Int) (DC DB : Nat → Nat) (NA : Nat → Nat → Int) (DA : Nat → Nat → Nat) (kf at_ : Int) (w : World) (hP : PgL w n m k PC PA PB Pr ln cp NC NB DC DB NA DA) (hk1 : 0 ≤ kf ∧ kf ≤ 255) (hk2 : 0 ≤ at_ ∧ at_ ≤ 255)
    (A : Nat → Nat → Rat) (C B : Nat → Rat) (eC : C = fun i => smq (NC i) (DC i)) (eB : B = fun i => smq (NB i) (DB i)) (eA : A = fun i j => smq (NA i j) (DA i j)) :
    Calls Try.prog 7 #[.agg #[.slice PC n cC, .slice PA m cA, .slice PB k cB], .int .u8 kf, .int .u8 at_] w (fun e w' => e = .returned (.bool true) ∧ Below w.heap.size w w') := by
  have EC := Lib.hid eC; have EB := Lib.hid eB; have EA := Lib.hid eA; clear eC eB eA
  obtain ⟨kn, rfl⟩ : ∃ kn : Nat, kf = (kn : Int) := ⟨kf.toNat, by omega⟩
  obtain ⟨an, rfl⟩ : ∃ an : Nat, at_ = (an : Int) := ⟨at_.toNat, by omega⟩
  have HK := Lib.hid hk1; have HA2 := Lib.hid hk2; clear hk1 hk2
  have HPg := Lib.hid hP.p; have HLn := Lib.hid hP.l; clear hP
  go_enter Try.func7, Try.ntmps7
  go_upto_region 1 with (fail)
  have hbw := al w (.cells #[.slice PC n cC, .slice PA m cA, .slice PB k cB] 25)
  have T := Lib.hid (Blk.new w 25 #[.slice PC n cC, .slice PA m cA, .slice PB k cB])
  have HB := Lib.hid hbw
  replace HPg := Lib.hid (HPg.out.new hbw)
  clear hbw
  generalize w.alloc (.cells #[.slice PC n cC, .slice PA m cA, .slice PB k cB] 25) = w1 at *
  obtain ⟨g3, hg3⟩ : ∃ g3, g3 = w.heap.size := ⟨_, rfl⟩
  rw [← hg3] at T ⊢
  have HGg3 := Lib.hid (show w.heap.size ≤ g3 from by omega)
  clear hg3
  have c0 := Blk.at0 T.out (Below.refl _ _); have c1 := Blk.at1 T.out (Below.refl _ _); have c2 := Blk.at2 T.out (Below.refl _ _)
  go_wp2_with fail
  refine (great_any n m k cC cA cB PC PA PB w1).mono ?_
  rintro e w2 ⟨t, rfl, hb, ht⟩
  have HT := Lib.hid ht; clear ht c0 c1 c2
  replace HPg := Lib.hid (HPg.out.new hb)
  replace HB := Lib.hid (bthen HB.out hb HB.out.size)
  replace T := Lib.hid (T.out.keep hb)
  clear hb
  have c0 := Blk.at0 T.out (Below.refl _ _); have c1 := Blk.at1 T.out (Below.refl _ _); have c2 := Blk.at2 T.out (Below.refl _ _)
  by_cases htt : t = true
  · subst htt
    clear HT
    go_wp2_with fail
    refine (awake_any _).mono ?_
    rintro e w3 ⟨rfl, hb⟩
    go_wp2_with fail
    go_ret
    exact ⟨rfl, bthen HB.out hb HB.out.size⟩
  obtain rfl : t = false := by simpa using htt
  clear htt
  obtain ⟨hn5, hm5, hk6⟩ := HT.out.1 rfl
  clear HT
  go_wp2_with fail
  refine (of_any n m k cC cA cB PC PA PB Pr ln cp NC NB DC DB NA DA w2 HPg.out (by omega) (by omega) (by omega) HLn.out A C B EC.out EB.out EA.out smq_small).mono ?_
  rintro e w3 ⟨YC, YA, YB, QC, QA, QB, Yr, Qr, yp, qp, yc, ya, yb, qc, qa, qb, rfl, hpr, hrq, hb⟩
  clear c0 c1 c2
  replace HPg := Lib.hid (HPg.out.new hb)
  replace HB := Lib.hid (bthen HB.out hb HB.out.size)
  replace T := Lib.hid (T.out.keep hb)
  clear hb
  have HP := Lib.hid hpr; have HQ := Lib.hid hrq; clear hpr hrq
  go_upto_region 4 with (fail)
  have hbw := bthen (al w3 (.cells #[.slice YC n yc, .slice YA m ya, .slice YB k yb] 31)) (al _ (.cells #[.slice QC n qc, .slice QA m qa, .slice QB k qb] 35)) (by simp)
  have HY := Lib.hid ((Blk.new w3 31 #[.slice YC n yc, .slice YA m ya, .slice YB k yb]).keep (al _ (.cells #[.slice QC n qc, .slice QA m qa, .slice QB k qb] 35)))
  have HR := Lib.hid (Blk.new (w3.alloc (.cells #[.slice YC n yc, .slice YA m ya, .slice YB k yb] 31)) 35 #[.slice QC n qc, .slice QA m qa, .slice QB k qb])
  rw [show (w3.alloc (.cells #[.slice YC n yc, .slice YA m ya, .slice YB k yb] 31)).heap.size = w3.heap.size + 1 from by simp] at HR
  replace HPg := Lib.hid (HPg.out.new hbw)
  replace HB := Lib.hid (bthen HB.out hbw HB.out.size)
  replace T := Lib.hid (T.out.keep hbw)
  replace HP := Lib.hid (HP.out.new hbw)
  replace HQ := Lib.hid (HQ.out.new hbw)
  clear hbw
  generalize (w3.alloc (.cells #[.slice YC n yc, .slice YA m ya, .slice YB k yb] 31)).alloc (.cells #[.slice QC n qc, .slice QA m qa, .slice QB k qb] 35) = w4 at *
  obtain ⟨g7, hg7⟩ : ∃ g7, g7 = w3.heap.size := ⟨_, rfl⟩
  obtain ⟨g8, hg8⟩ : ∃ g8, g8 = w3.heap.size + 1 := ⟨_, rfl⟩
  rw [← hg8] at HR ⊢
  rw [← hg7] at HY ⊢
  have HGg7 := Lib.hid (show w3.heap.size ≤ g7 ∧ w3.heap.size ≤ g8 from by omega)
  clear hg7 hg8
  have q0 := Blk.at0 HR.out (Below.refl _ _); have q1 := Blk.at1 HR.out (Below.refl _ _); have q2 := Blk.at2 HR.out (Below.refl _ _)
  go_wp2_with fail
  refine (rvalid_any n m k qc qa qb QC QA QB Qr ln qp A C B w4 HQ.out (by omega)).mono ?_
  rintro e w5 ⟨t, rfl, hb, ht⟩
  clear q0 q1 q2
  have HT := Lib.hid ht; clear ht
  replace HPg := Lib.hid (HPg.out.new hb)
  replace HB := Lib.hid (bthen HB.out hb HB.out.size)
  replace T := Lib.hid (T.out.keep hb)
  replace HP := Lib.hid (HP.out.new hb)
  replace HQ := Lib.hid (HQ.out.new hb)
  replace HY := Lib.hid (HY.out.keep hb)
  replace HR := Lib.hid (HR.out.keep hb)
  clear hb
  by_cases htt : t = false
  · subst htt
    go_wp2_with fail
    refine (awake_any _).mono ?_
    rintro e w6 ⟨rfl, hb⟩
    go_wp2_with fail
    go_ret
    exact ⟨rfl, bthen HB.out hb HB.out.size⟩
  obtain rfl : t = true := by simpa using htt
  clear htt
  obtain ⟨hmk, hl⟩ := HT.out.1 rfl
  clear HT
  subst hmk
  have HL := Lib.hid hl; clear hl
  have HGv := Lib.hid HB.out.size
  have HP0 := Lib.hid (HP.out.flat HL.out)
  have HN79 := Lib.hid (show g7 < w5.heap.size from HY.out.lt)
  have HB5 := Lib.hid (Below.refl w5.heap.size w5)
  clear HP HQ HR T HL HPg HLn
  have HF := Lib.hid (frac_smq (n := n) (m := m) EC.out EB.out EA.out)
  have HsC := Lib.hid (show ∀ j, j < n → Frac 12 108 (C j) from fun j _ => by rw [EC.out]; exact smq_frac _ _)
  clear EC EB EA
  have y0 := Blk.at0 HY.out (Below.refl _ _); have y1 := Blk.at1 HY.out (Below.refl _ _); have y2 := Blk.at2 HY.out (Below.refl _ _)
  go_wp2_with fail
  refine (solve_any n m 2 yc ya yb YC YA YB Yr (fun _ => n) yp A C B w5 HP0.out (fun _ _ => rfl) (by omega) (by omega) (by omega) HF.out).mono ?_
  rintro e w6 ⟨AX, kX, cX, AY, kY, cY, AR, kR, cR, s, A0, k0, c0, B0, m0, d0, q, rfl, hs, hln, hX, hY, hR, hV, hb⟩
  replace HB := Lib.hid (bthen HB.out hb HB.out.size)
  replace HY := Lib.hid (HY.out.keep hb)
  replace HB5 := Lib.hid (bthen HB5.out hb HB5.out.size)
  clear hb
  have HS := Lib.hid hs; have HV := Lib.hid hV; clear hs hV
  clear hX hY hR hln
  go_upto_region 7 with (fail)
  have hbw := al w6 (.cells #[.int .i64 (q.out : Int), .slice AX kX cX, .slice AY kY cY, .slice AR kR cR, .bool s, .slice A0 k0 c0, .slice B0 m0 d0] 43)
  have HZ := Lib.hid (Blk.new w6 43 #[.int .i64 (q.out : Int), .slice AX kX cX, .slice AY kY cY, .slice AR kR cR, .bool s, .slice A0 k0 c0, .slice B0 m0 d0])
  replace HB := Lib.hid (bthen HB.out hbw HB.out.size)
  replace HY := Lib.hid (HY.out.keep hbw)
  replace HB5 := Lib.hid (bthen HB5.out hbw HB5.out.size)
  replace HV := Lib.hid (HV.out.new hbw)
  clear hbw
  generalize w6.alloc (.cells #[.int .i64 (q.out : Int), .slice AX kX cX, .slice AY kY cY, .slice AR kR cR, .bool s, .slice A0 k0 c0, .slice B0 m0 d0] 43) = w7 at *
  obtain ⟨g9, hg9⟩ : ∃ g9, g9 = w6.heap.size := ⟨_, rfl⟩
  rw [← hg9] at HZ ⊢
  have HGg9 := Lib.hid (show w6.heap.size ≤ g9 from by omega)
  clear hg9
  clear y0 y1 y2
  have y0 := Blk.at0 HY.out (Below.refl _ _); have y1 := Blk.at1 HY.out (Below.refl _ _); have y2 := Blk.at2 HY.out (Below.refl _ _)
  have HS57 := Lib.hid HB5.out.size
  go_upto_region 8 with (fail)
  clear y0 y1 y2
  have hbw := al w7 (.cells #[.slice YC n yc, .slice YA m ya, .slice YB m yb] 31)
  have HU := Lib.hid (Blk.new w7 31 #[.slice YC n yc, .slice YA m ya, .slice YB m yb])
  replace HB := Lib.hid (bthen HB.out hbw HB.out.size)
  replace HY := Lib.hid (HY.out.keep hbw)
  replace HB5 := Lib.hid (bthen HB5.out hbw HB5.out.size)
  replace HV := Lib.hid (HV.out.new hbw)
  replace HZ := Lib.hid (HZ.out.keep hbw)
  clear hbw
  generalize w7.alloc (.cells #[.slice YC n yc, .slice YA m ya, .slice YB m yb] 31) = w8 at *
  obtain ⟨g11, hg11⟩ : ∃ g11, g11 = w7.heap.size := ⟨_, rfl⟩
  rw [← hg11] at HU ⊢
  have HGg11 := Lib.hid (show w7.heap.size ≤ g11 from by omega)
  clear hg11
  have HN11 := Lib.hid (show g7 < g11 ∧ w5.heap.size ≤ g11 ∧ w.heap.size ≤ g11 by have := HN79.out; have := HGg11.out; have := HS57.out; have := HGv.out; omega)
  have hk7 : (kn % 7 : Nat) < 7 := Nat.mod_lt _ (by omega)
  obtain ⟨fz, hfz⟩ : ∃ fz : Nat, fz = kn % 7 + 1 := ⟨_, rfl⟩
  go_wp2_with fail
  refine (int_w (fz : Int) (by omega) (by omega) _ (by rw [hfz]; first | rfl | (go_simp; omega) | trace_state) _).mono ?_
  rintro e w9 ⟨v, rfl, hv, hb⟩
  obtain ⟨s1, A1, k1, c1, B1, m1, d1, rfl, hr1⟩ := hv
  have HR1 := Lib.hid (show Rv 2 ((fz : Int) : Rat) (.agg #[.bool s1, .slice A1 k1 c1, .slice B1 m1 d1]) w9 from ⟨_, _, _, _, _, _, _, rfl, hr1⟩)
  have HFz := Lib.hid (show 1 ≤ fz ∧ fz ≤ 7 by omega)
  clear hr1 hk7 hfz
  replace HB := Lib.hid (bthen HB.out hb HB.out.size)
  replace HY := Lib.hid (HY.out.keep hb)
  replace HB5 := Lib.hid (bthen HB5.out hb HB5.out.size)
  replace HV := Lib.hid (HV.out.new hb)
  replace HZ := Lib.hid (HZ.out.keep hb)
  replace HU := Lib.hid (HU.out.keep hb)
  clear hb
  have HU9 := Lib.hid HU.out.lt
  go_upto_region 9 with (fail)
  have hbw := al w9 (.cells #[.bool s1, .slice A1 k1 c1, .slice B1 m1 d1] 41)
  have HX := Lib.hid (Blk.new w9 41 #[.bool s1, .slice A1 k1 c1, .slice B1 m1 d1])
  replace HB := Lib.hid (bthen HB.out hbw HB.out.size)
  replace HY := Lib.hid (HY.out.keep hbw)
  replace HB5 := Lib.hid (bthen HB5.out hbw HB5.out.size)
  replace HV := Lib.hid (HV.out.new hbw)
  replace HZ := Lib.hid (HZ.out.keep hbw)
  replace HU := Lib.hid (HU.out.keep hbw)
  replace HR1 := Lib.hid (HR1.out.new hbw)
  clear hbw
  generalize w9.alloc (.cells #[.bool s1, .slice A1 k1 c1, .slice B1 m1 d1] 41) = w10 at *
  obtain ⟨g12, hg12⟩ : ∃ g12, g12 = w9.heap.size := ⟨_, rfl⟩
  rw [← hg12] at HX ⊢
  have HGg12 := Lib.hid (show w9.heap.size ≤ g12 from by omega)
  clear hg12
  obtain ⟨fq, hfq⟩ : ∃ fq : Rat, fq = ((fz : Int) : Rat) := ⟨_, rfl⟩
  replace HX := Lib.hid (show Bn 2 fq g12 w10 from by rw [hfq]; obtain ⟨a1, a2, a3, a4, a5, a6, a7, e, h⟩ := HR1.out; cases e; exact ⟨_, _, _, _, _, _, _, HX.out, h⟩)
  have HfP := Lib.hid (show 0 < fq ∧ Frac 1 7 fq from by rw [hfq]; exact fz_frac HFz.out.1 HFz.out.2)
  clear hfq HFz HR1
  have HN12 := Lib.hid (show g11 < g12 by have := HU9.out; have := HGg12.out; omega)
  have u0 := Blk.at0 HU.out (Below.refl _ _)
  have uf := HU.out.frozen 0
  have hne := Blk.ne_ HZ.out HU.out (by decide)
  have HNz := Lib.hid hne
  have hkn := KeepsN.blk HU.out (i := 0) (by show 0 < 3; omega) (by intro x; simp) (.slice none 0 0)
  clear hne
  go_upto_region 10 with (fail)
  clear u0 uf
  replace HY := Lib.hid (HY.out.far (p := ⟨g11, 0, none⟩) (by first | exact HNz.out | (have e9 : (Addr.mk g11 0 none).block = g11 := rfl; have := HN11.out; have := HN12.out; omega)) (.slice none 0 0))
  replace HZ := Lib.hid (HZ.out.far (p := ⟨g11, 0, none⟩) (by first | exact HNz.out | (have e9 : (Addr.mk g11 0 none).block = g11 := rfl; have := HN11.out; have := HN12.out; omega)) (.slice none 0 0))
  replace HX := Lib.hid (Bn.grown HX.out (only_setCell (World.grownBy.refl w10 (some g11)) (p := ⟨g11, 0, none⟩) (.inl rfl) (.slice none 0 0)) (fun e => by injection e with e; first | exact HNz.out | (have e9 : (Addr.mk g11 0 none).block = g11 := rfl; have := HN11.out; have := HN12.out; omega)) hkn)
  replace HV := Lib.hid (HV.out.keepN hkn)
  replace HB := Lib.hid (HB.out.setCell (p := ⟨g11, 0, none⟩) (by first | exact HNz.out | (have e9 : (Addr.mk g11 0 none).block = g11 := rfl; have := HN11.out; have := HN12.out; omega)) (.slice none 0 0))
  replace HB5 := Lib.hid (HB5.out.setCell (p := ⟨g11, 0, none⟩) (by first | exact HNz.out | (have e9 : (Addr.mk g11 0 none).block = g11 := rfl; have := HN11.out; have := HN12.out; omega)) (.slice none 0 0))
  replace HU := Lib.hid (show Blk _ g11 31 #[.slice none 0 0, .slice YA m ya, .slice YB m yb] from HU.out.set_ 0 (.slice none 0 0))
  clear hkn
  generalize w10.setCell ⟨g11, 0, none⟩ (.slice none 0 0) = w11 at *
  obtain ⟨bs, hbs⟩ : ∃ bs, bs = w11.heap.size := ⟨_, rfl⟩
  have HBs := Lib.hid (show w.heap.size ≤ bs ∧ w5.heap.size ≤ bs ∧ g12 < bs ∧ bs ≤ w11.heap.size by have := HB.out.size; have := HB5.out.size; have := Bx.lt (Bn.bx HX.out); omega)
  clear hbs
  go_wp2_with fail
  go_loopg [13] n (fun g iv wr => ∃ (j : Nat) (A1 : Option Addr) (c1 : Nat), iv = .int .i64 j ∧ j + g = n ∧ Hid (OR wr bs (.slice A1 j c1) j (PN wr 4 (fun i => C i * fq)) ∧ Blk wr g11 31 #[.slice A1 j c1, .slice YA m ya, .slice YB m yb] ∧ Blk wr g7 31 #[.slice YC n yc, .slice YA m ya, .slice YB m yb] ∧ Blk wr g9 43 #[.int .i64 (q.out : Int), .slice AX kX cX, .slice AY kY cY, .slice AR kR cR, .bool s, .slice A0 k0 c0, .slice B0 m0 d0] ∧ Bn 2 fq g12 wr ∧ Rw 140 q.v (.agg #[.bool s, .slice A0 k0 c0, .slice B0 m0 d0]) wr ∧ Below w.heap.size w wr ∧ Below w5.heap.size w5 wr ∧ bs ≤ wr.heap.size))
  case atStart => exact ⟨0, none, 0, rfl, by omega, Lib.hid ⟨OR.nil _ _ _, HU.out, HY.out, HZ.out, HX.out, HV.out, HB.out, HB5.out, HBs.out.2.2.2⟩⟩
  case round =>
    obtain ⟨j, A9, c9, rfl, hjn, HI⟩ := hrel
    clear HU HY HZ HX HV HB HB5
    have HO := Lib.hid HI.out.1
    have HU := Lib.hid HI.out.2.1
    have HY := Lib.hid HI.out.2.2.1
    have HZ := Lib.hid HI.out.2.2.2.1
    have HX := Lib.hid HI.out.2.2.2.2.1
    have HV := Lib.hid HI.out.2.2.2.2.2.1
    have HB := Lib.hid HI.out.2.2.2.2.2.2.1
    have HB5 := Lib.hid HI.out.2.2.2.2.2.2.2.1
    have HSz := Lib.hid HI.out.2.2.2.2.2.2.2.2
    clear HI
    by_cases hj : j < n
    · have j1 : ((j : Int) < (n : Int)) := by omega
      obtain ⟨ad, -, -, -, -, -, -, -, rfl, -⟩ := HP0.out.c.at_ hj
      have y0 := Blk.at0 HY.out (Below.refl _ _)
      go_upto_region 13 with (fail)
      clear y0
      refine wp_region_join (kss := [[], [(0, 48)], [], [(2, 50)], [], [(3, 51), (4, 52)], [(5, 53)], [], [(6, 54), (7, 55)], [(8, 56)]]) [(11, .pointer (some ⟨g11, 0, none⟩)), (7, .pointer (some ⟨g7, 0, none⟩)), (13, .int .i64 ((j : Int))), (12, .pointer (some ⟨g12, 0, none⟩))] [fun zz _ => zz = .pointer (some ⟨g11, 0, none⟩), fun zz _ => zz = .slice A9 j c9, fun zz _ => zz = .pointer (some ⟨g7, 0, none⟩), fun zz _ => zz = .slice (some ad) n yc, fun zz _ => zz = .int .i64 ((j : Int)), fun zz _ => zz = .pointer (some (Addr.add ad (j * 3))), Rw (2) (C j), Rv (2) (fq), Rv (2 + 2) ((C j) * fq), OneN (2 + 2) ((C j) * fq)] 10 [] (by kernel_rfl) (by kernel_rfl) ⟨rfl, rfl, rfl, rfl, trivial⟩ [false, false, false, false, false, false, false, false, false, false] ?_ ?_ ?_ ?_
      · exact fun i hi => absurd hi (by simp)
      · exact ⟨fun _ _ _ h _ => h, fun _ _ _ h _ => h, fun _ _ _ h _ => h, fun _ _ _ h _ => h, fun _ _ _ h _ => h, fun _ _ _ h _ => h, fun _ _ _ h hb => h.new hb, fun _ _ _ h hb => h.new hb, fun _ _ _ h hb => h.new hb, fun _ _ _ h hb => h.new hb, trivial⟩
      · refine ⟨?_, ?_, ?_, ?_, ?_, ?_, ?_, ?_, ?_, ?_, trivial⟩
        · exact fun aa ww hb he hd => ob_plain rfl (fld_prb rfl (by decide) he.1)
        · exact fun aa ww hb he hd => ob_plain rfl (load_c28 rfl hd.1 (Blk.at0 HU.out hb))
        · exact fun aa ww hb he hd => ob_plain rfl (fld_prb rfl (by decide) he.2.1)
        · exact fun aa ww hb he hd => ob_plain rfl (load_c28 rfl hd.1 (Blk.at0 HY.out hb))
        · exact fun aa ww hb he hd => ob_plain rfl (gives_move _ rfl ⟨he.2.2.1, Below.refl _ _⟩)
        · exact fun aa ww hb he hd => ob_plain rfl (idx_rs (by omega) rfl hd.1 hd.2.1)
        · exact fun aa ww hb he hd => ob_plain rfl (load_rw rfl hd.1 ((PrW.new HP0.out (bthen HB5.out hb HB5.out.size)).c) (by omega))
        · exact fun aa ww hb he hd => ob_plain rfl (load_bn rfl he.2.2.2.1 (Bn.new HX.out hb))
        · exact fun aa ww hb he hd => ob_plain rfl (gives_call2 _ _ _ _ rfl (by kernel_rfl) (mul_v (hd.1) (hd.2.1.rw) (by omega)))
        · exact fun aa ww hb he hd => ob_plain rfl (gives_one_n rfl hd.1)
      intro vs w12 hb hR _
      have r57 : OneN (2 + 2) ((C j) * fq) (vs 9) w12 := hR 9 (by decide)
      have e49 : vs 1 = .slice A9 j c9 := hR 1 (by decide)
      clear hR
      simp only [putsL, Nat.zero_add, Nat.reduceAdd, List.take_succ_cons, List.take_zero, Act.put, List.setIfInBounds_toArray, List.set_cons_zero, List.set_cons_succ]
      rw [e49]
      clear e49
      obtain ⟨A7, e57, hr1⟩ := r57
      rw [e57]
      clear e57
      have HO2 := HO.out.newN hb
      have hsz := hb.size
      replace HU := Lib.hid (HU.out.keep hb)
      replace HY := Lib.hid (HY.out.keep hb)
      replace HZ := Lib.hid (HZ.out.keep hb)
      replace HX := Lib.hid (HX.out.new hb)
      replace HV := Lib.hid (HV.out.new hb)
      replace HB := Lib.hid (bthen HB.out hb HB.out.size)
      replace HB5 := Lib.hid (bthen HB5.out hb HB5.out.size)
      clear hb
      show wpAny _ _ _ _ 3 _ _ _
      refine wpAny_next (i := 10) (by kernel_rfl) rfl rfl (wp_push_one _ _ rfl bs (.slice A9 j c9) j _ rfl HO2 w12.heap.size A7 1 _ rfl hr1 (by omega) (by have := HSz.out; omega) ?_)
      intro v' w13 ho hgr hor kp
      have hO := ho (PN w13 4 (fun i => C i * fq)) (fun l u hl hv => PN.keep hv kp) (fun u hv => PN.keep (f := fun _ => C j * fq) (j := 0) hv kp)
      obtain ⟨A10, c10, rfl⟩ := hO.form
      show wpAny _ _ _ _ _ _ (Act.put _ (some 58) _) _
      simp only [Act.put, List.setIfInBounds_toArray, List.set_cons_zero, List.set_cons_succ]
      obtain ⟨xs0, how, -⟩ := HO2
      have hgs := hgr.size
      replace HU := Lib.hid (Blk.appended HU.out how.own hgr (by decide))
      replace HY := Lib.hid (Blk.appended HY.out how.own hgr (by decide))
      replace HZ := Lib.hid (Blk.appended HZ.out how.own hgr (by decide))
      replace HX := Lib.hid (Bn.grown HX.out hgr (fun e => by have := own_base how.own _ e.symm; have := HBs.out; omega) kp)
      replace HV := Lib.hid (HV.out.keepN kp)
      replace HB := Lib.hid (Below.appended HB.out how.own hgr HB.out.size (by have := HBs.out; omega))
      replace HB5 := Lib.hid (Below.appended HB5.out how.own hgr HB5.out.size (by have := HBs.out; omega))
      have HO3 := Lib.hid hO
      replace HSz := Lib.hid (show bs ≤ w13.heap.size by have := HSz.out; omega)
      clear ho hO how hgr hor kp hr1 hsz hgs
      refine wpAny_next (i := 11) (by kernel_rfl) rfl rfl (wp_of_gives (fld_prb_w rfl (by decide) rfl) ?_)
      rintro _ w14 ⟨rfl, rfl⟩
      show wpAny _ _ _ _ _ _ (Act.put _ (some 59) _) _
      simp only [Act.put, List.setIfInBounds_toArray, List.set_cons_zero, List.set_cons_succ]
      refine wpAny_next (i := 12) (by kernel_rfl) rfl rfl (store_c28 rfl rfl rfl rfl (Blk.at0 HU.out (Below.refl _ _)) (HU.out.frozen 0) ?_)
      have hkn := KeepsN.blk HU.out (i := 0) (by show 0 < 3; omega) (by intro x; simp) (.slice A10 (j + 1) c10)
      replace HO3 := Lib.hid (HO3.out.blk HU.out (by decide) (only_setCell (World.grownBy.refl w14 (some g11)) (p := ⟨g11, 0, none⟩) (.inl rfl) (.slice A10 (j + 1) c10)) (Q := PN (w14.setCell ⟨g11, 0, none⟩ (.slice A10 (j + 1) c10)) 4 (fun i => C i * fq)) (fun _ _ _ hv => PN.keep hv hkn))
      replace HY := Lib.hid (HY.out.far (p := ⟨g11, 0, none⟩) (by first | exact HNz.out | (have e9 : (Addr.mk g11 0 none).block = g11 := rfl; have := HN11.out; have := HN12.out; omega)) (.slice A10 (j + 1) c10))
      replace HZ := Lib.hid (HZ.out.far (p := ⟨g11, 0, none⟩) (by first | exact HNz.out | (have e9 : (Addr.mk g11 0 none).block = g11 := rfl; have := HN11.out; have := HN12.out; omega)) (.slice A10 (j + 1) c10))
      replace HX := Lib.hid (Bn.grown HX.out (only_setCell (World.grownBy.refl w14 (some g11)) (p := ⟨g11, 0, none⟩) (.inl rfl) (.slice A10 (j + 1) c10)) (fun e => by injection e with e; first | exact HNz.out | (have e9 : (Addr.mk g11 0 none).block = g11 := rfl; have := HN11.out; have := HN12.out; omega)) hkn)
      replace HV := Lib.hid (HV.out.keepN hkn)
      replace HB := Lib.hid (HB.out.setCell (p := ⟨g11, 0, none⟩) (by first | exact HNz.out | (have e9 : (Addr.mk g11 0 none).block = g11 := rfl; have := HN11.out; have := HN12.out; omega)) (.slice A10 (j + 1) c10))
      replace HB5 := Lib.hid (HB5.out.setCell (p := ⟨g11, 0, none⟩) (by first | exact HNz.out | (have e9 : (Addr.mk g11 0 none).block = g11 := rfl; have := HN11.out; have := HN12.out; omega)) (.slice A10 (j + 1) c10))
      replace HU := Lib.hid (show Blk _ g11 31 #[.slice A10 (j + 1) c10, .slice YA m ya, .slice YB m yb] from HU.out.set_ 0 (.slice A10 (j + 1) c10))
      replace HSz := Lib.hid (show bs ≤ (w14.setCell ⟨g11, 0, none⟩ (.slice A10 (j + 1) c10)).heap.size by rw [size_setCell]; exact HSz.out)
      clear hkn
      refine wpAny_end (by kernel_rfl) (calm_normal ?_) _
      generalize w14.setCell ⟨g11, 0, none⟩ (.slice A10 (j + 1) c10) = w15 at *
      go_wp2_with fail
      go_roundg (gk - 1)
      case measure => omega
      case rel => exact ⟨j + 1, A10, c10, by go_num, by omega, Lib.hid ⟨HO3.out, HU.out, HY.out, HZ.out, HX.out, HV.out, HB.out, HB5.out, HSz.out⟩⟩
    · obtain rfl : n = j := by omega
      have HF4 := Lib.hid (frac_law HF.out.A HF.out.B (C := fun i => C i * fq) (fun j hj => (by have := (HsC.out j hj).mul HfP.out.2; exact this.more (by omega))))
      obtain ⟨wl, hwl⟩ : ∃ wl, wl = wr := ⟨_, rfl⟩
      subst hwl
      have HPy := Lib.hid ((PrW.new HP0.out HB5.out).obj HO.out.rs.toW (b' := 4) (by omega))
      have y0 := Blk.at0 HY.out (Below.refl _ _); have y1 := Blk.at1 HY.out (Below.refl _ _); have y2 := Blk.at2 HY.out (Below.refl _ _)
      by_cases hm : 0 < m
      rotate_left
      · obtain rfl : m = 0 := by omega
        go_upto_region 18 with (fail)
        clear y0 y1 y2
        have u0 := Blk.at0 HU.out (Below.refl _ _); have u1 := Blk.at1 HU.out (Below.refl _ _); have u2 := Blk.at2 HU.out (Below.refl _ _)
        go_wp2_with fail
        refine (solve_any n 0 4 c9 ya yb A9 YA YB Yr (fun _ => n) yp A (fun i => C i * fq) B wl HPy.out (fun _ _ => rfl) (by omega) (by omega) (by omega) HF4.out).mono ?_
        rintro e w21 ⟨AXq, kXq, cXq, AYq, kYq, cYq, ARq, kRq, cRq, sq, A0q, k0q, c0q, B0q, m0q, d0q, qq, rfl, hs, hln, hX, hY, hR, hV, hb⟩
        replace HU := Lib.hid (HU.out.keep hb)
        replace HY := Lib.hid (HY.out.keep hb)
        replace HZ := Lib.hid (HZ.out.keep hb)
        replace HX := Lib.hid (HX.out.new hb)
        replace HV := Lib.hid (HV.out.new hb)
        replace HB := Lib.hid (bthen HB.out hb HB.out.size)
        replace HB5 := Lib.hid (bthen HB5.out hb HB5.out.size)
        replace HO := Lib.hid (HO.out.newN hb)
        replace HPy := Lib.hid (HPy.out.new hb)
        clear hb
        have HSq := Lib.hid hs; have HVq := Lib.hid hV; clear hs hV
        clear hX hY hR hln
        go_upto_region 19 with (fail)
        have hbw := al w21 (.cells #[.int .i64 (qq.out : Int), .slice AXq kXq cXq, .slice AYq kYq cYq, .slice ARq kRq cRq, .bool sq, .slice A0q k0q c0q, .slice B0q m0q d0q] 43)
        have HW := Lib.hid (Blk.new w21 43 #[.int .i64 (qq.out : Int), .slice AXq kXq cXq, .slice AYq kYq cYq, .slice ARq kRq cRq, .bool sq, .slice A0q k0q c0q, .slice B0q m0q d0q])
        replace HU := Lib.hid (HU.out.keep hbw)
        replace HY := Lib.hid (HY.out.keep hbw)
        replace HZ := Lib.hid (HZ.out.keep hbw)
        replace HX := Lib.hid (HX.out.new hbw)
        replace HV := Lib.hid (HV.out.new hbw)
        replace HB := Lib.hid (bthen HB.out hbw HB.out.size)
        replace HB5 := Lib.hid (bthen HB5.out hbw HB5.out.size)
        replace HO := Lib.hid (HO.out.newN hbw)
        replace HPy := Lib.hid (HPy.out.new hbw)
        replace HVq := Lib.hid (HVq.out.new hbw)
        clear hbw
        generalize w21.alloc (.cells #[.int .i64 (qq.out : Int), .slice AXq kXq cXq, .slice AYq kYq cYq, .slice ARq kRq cRq, .bool sq, .slice A0q k0q c0q, .slice B0q m0q d0q] 43) = w22 at *
        obtain ⟨g15, hg15⟩ : ∃ g15, g15 = w21.heap.size := ⟨_, rfl⟩
        rw [← hg15] at HW ⊢
        have HGg15 := Lib.hid (show w21.heap.size ≤ g15 from by omega)
        clear hg15
        clear u0 u1 u2
        have hc := HS.out.cert.scales0 HfP.out.1 HSq.out.cert
        have HO1 := Lib.hid hc.1; have HV1 := Lib.hid hc.2; clear hc
        refine wp_region_each (kss := [[], [(0, 99)], [(1, 100)], [(2, 101)], [(2, 101), (3, 102)], [(2, 101), (4, 103)], [(5, 104)], [(6, 105)], [(6, 105), (7, 106)], [(6, 105)], [(6, 105), (9, 108)], [(6, 105), (8, 107), (10, 109)], [(6, 105), (11, 110)], [(12, 111)], [(13, 112)], [(13, 112), (14, 113)], [(13, 112)], [(13, 112), (16, 115)], [(13, 112)], [(13, 112), (17, 116), (18, 117)], [(13, 112), (15, 114), (19, 118)], [(13, 112), (20, 119)], [(13, 112), (21, 120)], [(22, 121)], [(23, 122)], [(23, 122), (24, 123)], [(25, 124)]]) [(10, .int .i64 0), (16, .int .i64 0), (9, .pointer (some ⟨g9, 0, none⟩)), (15, .pointer (some ⟨g15, 0, none⟩)), (12, .pointer (some ⟨g12, 0, none⟩))] [fun zz _ => zz = .int .i64 0, fun zz _ => zz = .bool true, fun zz _ => zz = .bool true, fun zz _ => zz = .int .i64 0, fun zz _ => zz = .bool true, fun zz _ => zz = .bool true, fun zz _ => zz = .bool true, fun zz _ => zz = .pointer (some ⟨g9, 0, none⟩), fun zz _ => zz = .int .i64 ((q.out : Int)), fun zz _ => zz = .pointer (some ⟨g15, 0, none⟩), fun zz _ => zz = .int .i64 ((qq.out : Int)), fun zz _ => zz = .bool true, fun zz _ => zz = .bool true, fun zz _ => zz = .bool true, fun zz _ => zz = .pointer (some ⟨g15, 4, none⟩), Rw (140) (qq.v), fun zz _ => zz = .pointer (some ⟨g9, 4, none⟩), Rw (140) (q.v), Rv (2) (fq), Rv (140 + 2) ((q.v) * fq), fun zz _ => zz = .int .i64 (rcq (qq.v) ((q.v) * fq)), fun zz _ => zz = .bool true, fun zz _ => zz = .bool true, fun zz _ => zz = .bool true, fun zz _ => zz = .bool true, fun zz _ => zz = .bool true, fun zz _ => zz = .bool true] (by kernel_rfl) (by kernel_rfl) ⟨rfl, rfl, rfl, rfl, rfl, trivial⟩ ?_ ?_ ?_
        · exact ⟨fun _ _ _ h _ => h, fun _ _ _ h _ => h, fun _ _ _ h _ => h, fun _ _ _ h _ => h, fun _ _ _ h _ => h, fun _ _ _ h _ => h, fun _ _ _ h _ => h, fun _ _ _ h _ => h, fun _ _ _ h _ => h, fun _ _ _ h _ => h, fun _ _ _ h _ => h, fun _ _ _ h _ => h, fun _ _ _ h _ => h, fun _ _ _ h _ => h, fun _ _ _ h _ => h, fun _ _ _ h hb => h.new hb, fun _ _ _ h _ => h, fun _ _ _ h hb => h.new hb, fun _ _ _ h hb => h.new hb, fun _ _ _ h hb => h.new hb, fun _ _ _ h _ => h, fun _ _ _ h _ => h, fun _ _ _ h _ => h, fun _ _ _ h _ => h, fun _ _ _ h _ => h, fun _ _ _ h _ => h, fun _ _ _ h _ => h, trivial⟩
        · refine ⟨?_, ?_, ?_, ?_, ?_, ?_, ?_, ?_, ?_, ?_, ?_, ?_, ?_, ?_, ?_, ?_, ?_, ?_, ?_, ?_, ?_, ?_, ?_, ?_, ?_, ?_, ?_, trivial⟩
          · exact fun aa ww hb he hd => ob_plain rfl (gives_move _ rfl ⟨he.1, Below.refl _ _⟩)
          · exact fun aa ww hb he hd => ob_plain rfl (gives_eq_int 0 0 .i64 _ _ _ _ rfl hd.1 rfl ⟨congrArg Value.bool (rfl), Below.refl _ _⟩)
          · exact fun aa ww hb he hd => ob_plain rfl (gives_move _ rfl ⟨hd.1, Below.refl _ _⟩)
          · exact fun aa ww hb he hd => ob_on 101 rfl (by kernel_rfl) hd.1 (gives_move _ rfl ⟨he.2.1, Below.refl _ _⟩)
          · exact fun aa ww hb he hd => ob_on 101 rfl (by kernel_rfl) hd.1 (gives_eq_int 0 0 .i64 _ _ _ _ rfl hd.2.1 rfl ⟨congrArg Value.bool (rfl), Below.refl _ _⟩)
          · exact fun aa ww hb he hd => ob_plain rfl (gives_pick true _ _ _ rfl hd.1 ⟨hd.2.1, Below.refl _ _⟩)
          · exact fun aa ww hb he hd => ob_plain rfl (gives_move _ rfl ⟨hd.1, Below.refl _ _⟩)
          · exact fun aa ww hb he hd => ob_on 105 rfl (by kernel_rfl) hd.1 (fld_sol rfl (by decide) he.2.2.1)
          · exact fun aa ww hb he hd => ob_on 105 rfl (by kernel_rfl) hd.1 (load_c3 rfl hd.2.1 (Blk.at0 HZ.out hb))
          · exact fun aa ww hb he hd => ob_on 105 rfl (by kernel_rfl) hd.1 (fld_sol rfl (by decide) he.2.2.2.1)
          · exact fun aa ww hb he hd => ob_on 105 rfl (by kernel_rfl) hd.1 (load_c3 rfl hd.2.1 (Blk.at0 HW.out hb))
          · exact fun aa ww hb he hd => ob_on 105 rfl (by kernel_rfl) hd.1 (gives_eq_int ((q.out : Int)) ((qq.out : Int)) .i64 _ _ _ _ rfl hd.2.1 hd.2.2.1 ⟨congrArg Value.bool (by rw [HO1.out]; simp), Below.refl _ _⟩)
          · exact fun aa ww hb he hd => ob_plain rfl (gives_pick true _ _ _ rfl hd.1 ⟨hd.2.1, Below.refl _ _⟩)
          · exact fun aa ww hb he hd => ob_plain rfl (gives_move _ rfl ⟨hd.1, Below.refl _ _⟩)
          · exact fun aa ww hb he hd => ob_on 112 rfl (by kernel_rfl) hd.1 (fld_sol rfl (by decide) he.2.2.2.1)
          · exact fun aa ww hb he hd => ob_on 112 rfl (by kernel_rfl) hd.1 (load_sv rfl hd.2.1 (Blk.keep HW.out hb) (Rw.new HVq.out hb))
          · exact fun aa ww hb he hd => ob_on 112 rfl (by kernel_rfl) hd.1 (fld_sol rfl (by decide) he.2.2.1)
          · exact fun aa ww hb he hd => ob_on 112 rfl (by kernel_rfl) hd.1 (load_sv rfl hd.2.1 (Blk.keep HZ.out hb) (Rw.new HV.out hb))
          · exact fun aa ww hb he hd => ob_on 112 rfl (by kernel_rfl) hd.1 (load_bn rfl he.2.2.2.2.1 (Bn.new HX.out hb))
          · exact fun aa ww hb he hd => ob_on 112 rfl (by kernel_rfl) hd.1 (gives_call2 _ _ _ _ rfl (by kernel_rfl) (mul_v (hd.2.1) (hd.2.2.1.rw) (by omega)))
          · exact fun aa ww hb he hd => ob_on 112 rfl (by kernel_rfl) hd.1 (gives_call2 _ _ _ _ rfl (by kernel_rfl) (cmp_v (hd.2.1) (hd.2.2.1.rw) (by omega)))
          · exact fun aa ww hb he hd => ob_on 112 rfl (by kernel_rfl) hd.1 (gives_eq_int (rcq (qq.v) ((q.v) * fq)) 0 .i64 _ _ _ _ rfl hd.2.1 rfl ⟨congrArg Value.bool (rcq_eqd HV1.out), Below.refl _ _⟩)
          · exact fun aa ww hb he hd => ob_plain rfl (gives_pick true _ _ _ rfl hd.1 ⟨hd.2.1, Below.refl _ _⟩)
          · exact fun aa ww hb he hd => ob_plain rfl (gives_move _ rfl ⟨hd.1, Below.refl _ _⟩)
          · exact fun aa ww hb he hd => ob_on 122 rfl (by kernel_rfl) hd.1 (gives_call0 _ _ rfl (by kernel_rfl) (rv_one (awake_any _)))
          · exact fun aa ww hb he hd => ob_plain rfl (gives_pick true _ _ _ rfl hd.1 ⟨hd.2.1, Below.refl _ _⟩)
          · exact fun aa ww hb he hd => ob_plain rfl (gives_assign _ rfl ⟨hd.1, Below.refl _ _⟩)
        intro vs w23 hb hR
        have e6 : vs 26 = .bool true := hR 26 (by decide)
        clear hR
        simp only [putsL, Nat.zero_add, Nat.reduceAdd, List.take_succ_cons, List.take_zero, Act.put, List.setIfInBounds_toArray, List.set_cons_zero, List.set_cons_succ]
        rw [e6]
        clear e6
        go_wp2_with fail
        go_ret
        exact ⟨rfl, bthen HB.out hb HB.out.size⟩
      · skip
        have m1 : ((m : Int) > 0) := by omega
        have m2 : ¬ ((m : Int) = 0) := by omega
        go_upto_region 16 with (fail)
        clear m1 m2 y0 y1 y2
        obtain ⟨ia, hia, hiam⟩ := at_mod (an := an) (by have := HA2.out; omega) hm
        rw [hia]
        clear hia
        obtain ⟨adA, rfl, -, -⟩ := HPy.out.at_ hiam
        obtain ⟨adB, -, -, -, -, -, -, -, rfl, -⟩ := HPy.out.bb.at_ hiam
        obtain ⟨bs2, hbs⟩ : ∃ bs2, bs2 = wl.heap.size := ⟨_, rfl⟩
        have HBs2 := Lib.hid hbs; clear hbs
        refine wp_region_join (kss := [[], [], [(1, 71)], [(0, 70), (2, 72)], [], [(4, 74)], [], [(5, 75), (6, 76)], [(7, 77)], [(8, 78)]]) [(7, .pointer (some ⟨g7, 0, none⟩)), (14, .int .i64 ((ia : Int)))] [fun v w' => ∃ g0 : Nat, v = .slice (some ⟨g0, 0, none⟩) 0 0 ∧ bs2 ≤ g0 ∧ Blk w' g0 28 #[], fun zz _ => zz = .pointer (some ⟨g7, 1, none⟩), fun zz _ => zz = .slice (some adA) m ya, fun v w' => ∃ (A0 : Option Addr) (c0 : Nat), v = .slice A0 m c0 ∧ OwnC w' bs2 28 1 (.slice A0 m c0) m ((List.range m).map fun i => Value.slice (Yr i) n (yp i)), fun zz _ => zz = .pointer (some ⟨g7, 1, none⟩), fun zz _ => zz = .slice (some adA) m ya, fun zz _ => zz = .int .i64 ((ia : Int)), fun zz _ => zz = .pointer (some (Addr.add adA ia)), fun zz _ => zz = .slice (Yr ia) n (yp ia), fun v w' => ∃ g0 : Nat, v = .slice (some ⟨g0, 0, none⟩) 1 1 ∧ Blk w' g0 28 #[.slice (Yr ia) n (yp ia)]] 10 [] (by kernel_rfl) (by kernel_rfl) ⟨rfl, rfl, trivial⟩ [false, false, false, false, false, false, false, false, false, false] ?_ ?_ ?_ ?_
        · exact fun i hi => absurd hi (by simp)
        · exact ⟨fun _ _ _ ⟨g0, h1, h2, h3⟩ hb => ⟨g0, h1, h2, h3.keep hb⟩, fun _ _ _ h _ => h, fun _ _ _ h _ => h, fun _ _ _ ⟨A0, c0, h1, h2⟩ hb => ⟨A0, c0, h1, h2.below hb⟩, fun _ _ _ h _ => h, fun _ _ _ h _ => h, fun _ _ _ h _ => h, fun _ _ _ h _ => h, fun _ _ _ h _ => h, fun _ _ _ ⟨g0, h1, h2⟩ hb => ⟨g0, h1, h2.keep hb⟩, trivial⟩
        · refine ⟨?_, ?_, ?_, ?_, ?_, ?_, ?_, ?_, ?_, ?_, trivial⟩
          · exact fun aa ww hb he hd => ob_plain rfl (gives_none rfl Try.underlying29 (by kernel_rfl) (by rw [HBs2.out]; exact hb.size))
          · exact fun aa ww hb he hd => ob_plain rfl (fld_prb rfl (by decide) he.1)
          · exact fun aa ww hb he hd => ob_plain rfl (load_c29 rfl hd.1 (Blk.at1 HY.out hb))
          · exact fun aa ww hb he hd => ob_plain rfl (by obtain ⟨g0, h1, h2, h3⟩ := hd.1; exact gives_copy_rows (s := .tmp 70) (x := .tmp 72) rfl bs2 g0 h1 h3 h2 _ (some adA) m ya Yr (fun _ => n) yp hd.2.1 (PrW.new HPy.out hb).a (by omega))
          · exact fun aa ww hb he hd => ob_plain rfl (fld_prb rfl (by decide) he.1)
          · exact fun aa ww hb he hd => ob_plain rfl (load_c29 rfl hd.1 (Blk.at1 HY.out hb))
          · exact fun aa ww hb he hd => ob_plain rfl (gives_move _ rfl ⟨he.2.1, Below.refl _ _⟩)
          · exact fun aa ww hb he hd => ob_plain rfl (idx_rws hiam rfl hd.1 hd.2.1)
          · exact fun aa ww hb he hd => ob_plain rfl (load_c28 rfl hd.1 (PrW.cell (PrW.new HPy.out hb) hiam))
          · exact fun aa ww hb he hd => ob_plain rfl (gives_mono (gives_bs_rows rfl hd.1) (fun v w' ⟨⟨g0, h3, h4⟩, h5⟩ => ⟨⟨g0, h3, h4⟩, h5⟩))
        intro vs w16 hb hR _
        have r73 := hR 3 (by decide)
        have r79 := hR 9 (by decide)
        clear hR
        simp only [putsL, Nat.zero_add, Nat.reduceAdd, List.take_succ_cons, List.take_zero, Act.put, List.setIfInBounds_toArray, List.set_cons_zero, List.set_cons_succ]
        obtain ⟨A8, c8, e73, o73⟩ := r73
        obtain ⟨g0, e79, hb0⟩ := r79
        rw [e73, e79]
        clear e73 e79
        have hbb := hb; clear hb
        show wpAny _ _ _ _ 3 _ _ _
        refine wpAny_next (i := 10) (by kernel_rfl) rfl rfl (wp_app_rows _ _ rfl bs2 (.slice A8 m c8) m _ rfl o73 g0 (Yr ia) n (yp ia) rfl hb0 (by omega) (by rw [HBs2.out]; exact hbb.size) ?_)
        intro v' w17 ho hgr hor kp
        obtain ⟨A19, c19, rfl⟩ := own_form ho.own
        show wpAny _ _ _ _ _ _ (Act.put _ (some 80) _) _
        simp only [Act.put, List.setIfInBounds_toArray, List.set_cons_zero, List.set_cons_succ]
        have HO9 := Lib.hid ho
        have hba : Below wl.heap.size wl w17 := Below.appended hbb o73.own hgr hbb.size (by rw [HBs2.out]; exact Nat.le_refl _)
        clear ho hgr hor kp hb0 o73 hbb HPy
        replace HU := Lib.hid (HU.out.keep hba)
        replace HY := Lib.hid (HY.out.keep hba)
        replace HZ := Lib.hid (HZ.out.keep hba)
        replace HX := Lib.hid (HX.out.new hba)
        replace HV := Lib.hid (HV.out.new hba)
        replace HB := Lib.hid (bthen HB.out hba HB.out.size)
        replace HB5 := Lib.hid (bthen HB5.out hba HB5.out.size)
        replace HO := Lib.hid (HO.out.newN hba)
        clear hba
        refine wpAny_next (i := 11) (by kernel_rfl) rfl rfl (wp_of_gives (fld_prb_w rfl (by decide) rfl) ?_)
        rintro _ w17 ⟨rfl, rfl⟩
        show wpAny _ _ _ _ _ _ (Act.put _ (some 81) _) _
        simp only [Act.put, List.setIfInBounds_toArray, List.set_cons_zero, List.set_cons_succ]
        refine wpAny_next (i := 12) (by kernel_rfl) rfl rfl (wp_store_c29 rfl rfl rfl rfl (Blk.at1 HU.out (Below.refl _ _)) (HU.out.frozen 1) ?_)
        have hkn := KeepsN.blk HU.out (i := 1) (by show 1 < 3; omega) (by intro x; simp) (.slice A19 (m + 1) c19)
        replace HO := Lib.hid (HO.out.blk HU.out (by decide) (only_setCell (World.grownBy.refl w17 (some g11)) (p := ⟨g11, 1, none⟩) (.inl rfl) (.slice A19 (m + 1) c19)) (Q := PN (w17.setCell ⟨g11, 1, none⟩ (.slice A19 (m + 1) c19)) 4 (fun i => C i * fq)) (fun _ _ _ hv => PN.keep hv hkn))
        replace HO9 := Lib.hid (HO9.out.blk HU.out (by decide) (only_setCell (World.grownBy.refl w17 (some g11)) (p := ⟨g11, 1, none⟩) (.inl rfl) (.slice A19 (m + 1) c19)))
        replace HY := Lib.hid (HY.out.far (p := ⟨g11, 1, none⟩) (by first | exact HNz.out | (have e9 : (Addr.mk g11 0 none).block = g11 := rfl; have e8 : (Addr.mk g11 1 none).block = g11 := rfl; have := HN11.out; have := HN12.out; omega)) (.slice A19 (m + 1) c19))
        replace HZ := Lib.hid (HZ.out.far (p := ⟨g11, 1, none⟩) (by first | exact HNz.out | (have e9 : (Addr.mk g11 0 none).block = g11 := rfl; have e8 : (Addr.mk g11 1 none).block = g11 := rfl; have := HN11.out; have := HN12.out; omega)) (.slice A19 (m + 1) c19))
        replace HX := Lib.hid (Bn.grown HX.out (only_setCell (World.grownBy.refl w17 (some g11)) (p := ⟨g11, 1, none⟩) (.inl rfl) (.slice A19 (m + 1) c19)) (fun e => by injection e with e; first | exact HNz.out | (have e9 : (Addr.mk g11 0 none).block = g11 := rfl; have e8 : (Addr.mk g11 1 none).block = g11 := rfl; have := HN11.out; have := HN12.out; omega)) hkn)
        replace HV := Lib.hid (HV.out.keepN hkn)
        replace HB := Lib.hid (HB.out.setCell (p := ⟨g11, 1, none⟩) (by first | exact HNz.out | (have e9 : (Addr.mk g11 0 none).block = g11 := rfl; have e8 : (Addr.mk g11 1 none).block = g11 := rfl; have := HN11.out; have := HN12.out; omega)) (.slice A19 (m + 1) c19))
        replace HB5 := Lib.hid (HB5.out.setCell (p := ⟨g11, 1, none⟩) (by first | exact HNz.out | (have e9 : (Addr.mk g11 0 none).block = g11 := rfl; have e8 : (Addr.mk g11 1 none).block = g11 := rfl; have := HN11.out; have := HN12.out; omega)) (.slice A19 (m + 1) c19))
        replace HU := Lib.hid (show Blk _ g11 31 #[.slice A9 n c9, .slice A19 (m + 1) c19, .slice (some adB) m yb] from HU.out.set_ 1 (.slice A19 (m + 1) c19))
        clear hkn
        refine wpAny_end (by kernel_rfl) (calm_normal ?_) _
        generalize w17.setCell ⟨g11, 1, none⟩ (.slice A19 (m + 1) c19) = w18 at *
        have HPy := Lib.hid ((PrW.new HP0.out HB5.out).obj HO.out.rs.toW (b' := 4) (by omega))
        obtain ⟨bs3, hbs⟩ : ∃ bs3, bs3 = w18.heap.size := ⟨_, rfl⟩
        have HBs3 := Lib.hid hbs; clear hbs
        go_upto_region 17 with (fail)
        refine wp_region_join (kss := [[], [], [(1, 83)], [(0, 82), (2, 84)], [], [(4, 86)], [], [(5, 87), (6, 88)], [(7, 89)], [(8, 90)]]) [(7, .pointer (some ⟨g7, 0, none⟩)), (14, .int .i64 ((ia : Int)))] [fun v w' => ∃ g0 : Nat, v = .slice (some ⟨g0, 0, none⟩) 0 0 ∧ bs3 ≤ g0 ∧ Blk w' g0 41 #[], fun zz _ => zz = .pointer (some ⟨g7, 2, none⟩), fun zz _ => zz = .slice (some adB) m yb, fun v w' => ∃ (A0 : Option Addr) (c0 : Nat), v = .slice A0 m c0 ∧ OR w' bs3 (.slice A0 m c0) m (PW w' 4 B), fun zz _ => zz = .pointer (some ⟨g7, 2, none⟩), fun zz _ => zz = .slice (some adB) m yb, fun zz _ => zz = .int .i64 ((ia : Int)), fun zz _ => zz = .pointer (some (Addr.add adB (ia * 3))), Rw (4) (B ia), OneW (4) (B ia)] 10 [] (by kernel_rfl) (by kernel_rfl) ⟨rfl, rfl, trivial⟩ [false, false, false, false, false, false, false, false, false, false] ?_ ?_ ?_ ?_
        · exact fun i hi => absurd hi (by simp)
        · exact ⟨fun _ _ _ ⟨g0, h1, h2, h3⟩ hb => ⟨g0, h1, h2, h3.keep hb⟩, fun _ _ _ h _ => h, fun _ _ _ h _ => h, fun _ _ _ ⟨A0, c0, h1, h2⟩ hb => ⟨A0, c0, h1, h2.below hb fun _ _ _ hv => PW.keep hv (KeepsN.below hb)⟩, fun _ _ _ h _ => h, fun _ _ _ h _ => h, fun _ _ _ h _ => h, fun _ _ _ h _ => h, fun _ _ _ h hb => h.new hb, fun _ _ _ h hb => h.new hb, trivial⟩
        · refine ⟨?_, ?_, ?_, ?_, ?_, ?_, ?_, ?_, ?_, ?_, trivial⟩
          · exact fun aa ww hb he hd => ob_plain rfl (gives_none rfl Try.underlying28 (by kernel_rfl) (by rw [HBs3.out]; exact hb.size))
          · exact fun aa ww hb he hd => ob_plain rfl (fld_prb rfl (by decide) he.1)
          · exact fun aa ww hb he hd => ob_plain rfl (load_c28 rfl hd.1 (Blk.at2 HY.out hb))
          · exact fun aa ww hb he hd => ob_plain rfl (by obtain ⟨g0, h1, h2, h3⟩ := hd.1; exact gives_copy_rat (s := .tmp 82) (x := .tmp 84) rfl bs3 g0 h1 h3 h2 _ (some adB) m yb 4 B hd.2.1 (PrW.new HPy.out hb).bb (by omega))
          · exact fun aa ww hb he hd => ob_plain rfl (fld_prb rfl (by decide) he.1)
          · exact fun aa ww hb he hd => ob_plain rfl (load_c28 rfl hd.1 (Blk.at2 HY.out hb))
          · exact fun aa ww hb he hd => ob_plain rfl (gives_move _ rfl ⟨he.2.1, Below.refl _ _⟩)
          · exact fun aa ww hb he hd => ob_plain rfl (idx_rs (by omega) rfl hd.1 hd.2.1)
          · exact fun aa ww hb he hd => ob_plain rfl (load_rw rfl hd.1 ((PrW.new HPy.out hb).bb) (by omega))
          · exact fun aa ww hb he hd => ob_plain rfl (gives_one_w rfl hd.1)
        intro vs w19 hb hR _
        have r91 : OneW (4) (B ia) (vs 9) w19 := hR 9 (by decide)
        have r85 := hR 3 (by decide)
        clear hR
        simp only [putsL, Nat.zero_add, Nat.reduceAdd, List.take_succ_cons, List.take_zero, Act.put, List.setIfInBounds_toArray, List.set_cons_zero, List.set_cons_succ]
        obtain ⟨A18, c18, e85, o85⟩ := r85
        obtain ⟨A17, e91, hr1⟩ := r91
        rw [e85, e91]
        clear e85 e91
        have hbb := hb; clear hb
        show wpAny _ _ _ _ 3 _ _ _
        refine wpAny_next (i := 10) (by kernel_rfl) rfl rfl (wp_push_one _ _ rfl bs3 (.slice A18 m c18) m _ rfl o85 w19.heap.size A17 1 _ rfl hr1 (by omega) (by rw [HBs3.out]; exact hbb.size) ?_)
        intro v' w20 ho hgr hor kp
        have hB9 := ho (PW w20 4 (put1 B m (B ia))) (fun j u hj hv => by show Rw 4 (put1 B m _ j) u w20; rw [put1_ne _ _ (by omega)]; exact PW.keep hv kp) (fun u hv => by show Rw 4 (put1 B m _ m) u w20; rw [put1_at]; exact PW.keep (f := fun _ => B ia) (j := 0) hv kp)
        obtain ⟨A20, c20, rfl⟩ := hB9.form
        show wpAny _ _ _ _ _ _ (Act.put _ (some 92) _) _
        simp only [Act.put, List.setIfInBounds_toArray, List.set_cons_zero, List.set_cons_succ]
        have hba : Below w18.heap.size w18 w20 := by obtain ⟨xs, h1, h2⟩ := o85; exact Below.appended hbb h1.own hgr hbb.size (by rw [HBs3.out]; exact Nat.le_refl _)
        have HB9 := Lib.hid hB9
        clear hB9 ho hgr hor kp hr1 o85 hbb HPy
        replace HU := Lib.hid (HU.out.keep hba)
        replace HY := Lib.hid (HY.out.keep hba)
        replace HZ := Lib.hid (HZ.out.keep hba)
        replace HX := Lib.hid (HX.out.new hba)
        replace HV := Lib.hid (HV.out.new hba)
        replace HB := Lib.hid (bthen HB.out hba HB.out.size)
        replace HB5 := Lib.hid (bthen HB5.out hba HB5.out.size)
        replace HO := Lib.hid (HO.out.newN hba)
        replace HO9 := Lib.hid (HO9.out.below hba)
        clear hba
        refine wpAny_next (i := 11) (by kernel_rfl) rfl rfl (wp_of_gives (fld_prb_w rfl (by decide) rfl) ?_)
        rintro _ w20 ⟨rfl, rfl⟩
        show wpAny _ _ _ _ _ _ (Act.put _ (some 93) _) _
        simp only [Act.put, List.setIfInBounds_toArray, List.set_cons_zero, List.set_cons_succ]
        refine wpAny_next (i := 12) (by kernel_rfl) rfl rfl (store_c28 rfl rfl rfl rfl (Blk.at2 HU.out (Below.refl _ _)) (HU.out.frozen 2) ?_)
        have hkn := KeepsN.blk HU.out (i := 2) (by show 2 < 3; omega) (by intro x; simp) (.slice A20 (m + 1) c20)
        replace HO := Lib.hid (HO.out.blk HU.out (by decide) (only_setCell (World.grownBy.refl w20 (some g11)) (p := ⟨g11, 2, none⟩) (.inl rfl) (.slice A20 (m + 1) c20)) (Q := PN (w20.setCell ⟨g11, 2, none⟩ (.slice A20 (m + 1) c20)) 4 (fun i => C i * fq)) (fun _ _ _ hv => PN.keep hv hkn))
        replace HO9 := Lib.hid (HO9.out.blk HU.out (by decide) (only_setCell (World.grownBy.refl w20 (some g11)) (p := ⟨g11, 2, none⟩) (.inl rfl) (.slice A20 (m + 1) c20)))
        replace HB9 := Lib.hid (HB9.out.blk HU.out (by decide) (only_setCell (World.grownBy.refl w20 (some g11)) (p := ⟨g11, 2, none⟩) (.inl rfl) (.slice A20 (m + 1) c20)) (Q := PW (w20.setCell ⟨g11, 2, none⟩ (.slice A20 (m + 1) c20)) 4 (put1 B m (B ia))) (fun _ _ _ hv => PW.keep hv hkn))
        replace HY := Lib.hid (HY.out.far (p := ⟨g11, 2, none⟩) (by first | exact HNz.out | (have e9 : (Addr.mk g11 0 none).block = g11 := rfl; have e8 : (Addr.mk g11 2 none).block = g11 := rfl; have := HN11.out; have := HN12.out; omega)) (.slice A20 (m + 1) c20))
        replace HZ := Lib.hid (HZ.out.far (p := ⟨g11, 2, none⟩) (by first | exact HNz.out | (have e9 : (Addr.mk g11 0 none).block = g11 := rfl; have e8 : (Addr.mk g11 2 none).block = g11 := rfl; have := HN11.out; have := HN12.out; omega)) (.slice A20 (m + 1) c20))
        replace HX := Lib.hid (Bn.grown HX.out (only_setCell (World.grownBy.refl w20 (some g11)) (p := ⟨g11, 2, none⟩) (.inl rfl) (.slice A20 (m + 1) c20)) (fun e => by injection e with e; first | exact HNz.out | (have e9 : (Addr.mk g11 0 none).block = g11 := rfl; have e8 : (Addr.mk g11 2 none).block = g11 := rfl; have := HN11.out; have := HN12.out; omega)) hkn)
        replace HV := Lib.hid (HV.out.keepN hkn)
        replace HB := Lib.hid (HB.out.setCell (p := ⟨g11, 2, none⟩) (by first | exact HNz.out | (have e9 : (Addr.mk g11 0 none).block = g11 := rfl; have e8 : (Addr.mk g11 2 none).block = g11 := rfl; have := HN11.out; have := HN12.out; omega)) (.slice A20 (m + 1) c20))
        replace HB5 := Lib.hid (HB5.out.setCell (p := ⟨g11, 2, none⟩) (by first | exact HNz.out | (have e9 : (Addr.mk g11 0 none).block = g11 := rfl; have e8 : (Addr.mk g11 2 none).block = g11 := rfl; have := HN11.out; have := HN12.out; omega)) (.slice A20 (m + 1) c20))
        replace HU := Lib.hid (show Blk _ g11 31 #[.slice A9 n c9, .slice A19 (m + 1) c19, .slice A20 (m + 1) c20] from HU.out.set_ 2 (.slice A20 (m + 1) c20))
        clear hkn
        refine wpAny_end (by kernel_rfl) (calm_normal ?_) _
        generalize w20.setCell ⟨g11, 2, none⟩ (.slice A20 (m + 1) c20) = w24 at *
        have HPu := Lib.hid (((PrW.new HP0.out HB5.out).obj HO.out.rs.toW (b' := 4) (by omega)).add HO9.out (PrW.row ((PrW.new HP0.out HB5.out).obj HO.out.rs.toW (b' := 4) (by omega)) ia hiam) HB9.out.rs)
        have HF2 := Lib.hid (frac_more HF4.out (F := A ia) (b := B ia) (fun j hj => HF4.out.A ia hiam j hj) (HF4.out.B ia hiam))
        clear HO9 HB9 HBs2 HBs3
        clear HO HB5
        have u0 := Blk.at0 HU.out (Below.refl _ _); have u1 := Blk.at1 HU.out (Below.refl _ _); have u2 := Blk.at2 HU.out (Below.refl _ _)
        go_wp2_with fail
        refine (solve_any n (m + 1) 4 c9 c19 c20 A9 A19 A20 (put1 Yr m (Yr ia)) (fun _ => n) (put1 yp m (yp ia)) (put1 A m (A ia)) (fun i => C i * fq) (put1 B m (B ia)) w24 HPu.out (fun _ _ => rfl) (by omega) (by omega) (by omega) HF2.out).mono ?_
        rintro e w21 ⟨AXq, kXq, cXq, AYq, kYq, cYq, ARq, kRq, cRq, sq, A0q, k0q, c0q, B0q, m0q, d0q, qq, rfl, hs, hln, hX, hY, hR, hV, hb⟩
        replace HU := Lib.hid (HU.out.keep hb)
        replace HY := Lib.hid (HY.out.keep hb)
        replace HZ := Lib.hid (HZ.out.keep hb)
        replace HX := Lib.hid (HX.out.new hb)
        replace HV := Lib.hid (HV.out.new hb)
        replace HB := Lib.hid (bthen HB.out hb HB.out.size)
        replace HPu := Lib.hid (HPu.out.new hb)
        clear hb
        have HSq := Lib.hid hs; have HVq := Lib.hid hV; clear hs hV
        clear hX hY hR hln
        go_upto_region 19 with (fail)
        have hbw := al w21 (.cells #[.int .i64 (qq.out : Int), .slice AXq kXq cXq, .slice AYq kYq cYq, .slice ARq kRq cRq, .bool sq, .slice A0q k0q c0q, .slice B0q m0q d0q] 43)
        have HW := Lib.hid (Blk.new w21 43 #[.int .i64 (qq.out : Int), .slice AXq kXq cXq, .slice AYq kYq cYq, .slice ARq kRq cRq, .bool sq, .slice A0q k0q c0q, .slice B0q m0q d0q])
        replace HU := Lib.hid (HU.out.keep hbw)
        replace HY := Lib.hid (HY.out.keep hbw)
        replace HZ := Lib.hid (HZ.out.keep hbw)
        replace HX := Lib.hid (HX.out.new hbw)
        replace HV := Lib.hid (HV.out.new hbw)
        replace HB := Lib.hid (bthen HB.out hbw HB.out.size)
        replace HPu := Lib.hid (HPu.out.new hbw)
        replace HVq := Lib.hid (HVq.out.new hbw)
        clear hbw
        generalize w21.alloc (.cells #[.int .i64 (qq.out : Int), .slice AXq kXq cXq, .slice AYq kYq cYq, .slice ARq kRq cRq, .bool sq, .slice A0q k0q c0q, .slice B0q m0q d0q] 43) = w22 at *
        obtain ⟨g15, hg15⟩ : ∃ g15, g15 = w21.heap.size := ⟨_, rfl⟩
        rw [← hg15] at HW ⊢
        have HGg15 := Lib.hid (show w21.heap.size ≤ g15 from by omega)
        clear hg15
        clear u0 u1 u2
        have hc := HS.out.cert.scales (A' := put1 A m (A ia)) (B' := put1 B m (B ia)) HfP.out.1 hiam (fun i hi => put1_ne _ _ (by omega)) (fun i hi => put1_ne _ _ (by omega)) (put1_at _ _ _) (put1_at _ _ _) HSq.out.cert
        have HO1 := Lib.hid hc.1; have HV1 := Lib.hid hc.2; clear hc
        refine wp_region_each (kss := [[], [(0, 99)], [(1, 100)], [(2, 101)], [(2, 101), (3, 102)], [(2, 101), (4, 103)], [(5, 104)], [(6, 105)], [(6, 105), (7, 106)], [(6, 105)], [(6, 105), (9, 108)], [(6, 105), (8, 107), (10, 109)], [(6, 105), (11, 110)], [(12, 111)], [(13, 112)], [(13, 112), (14, 113)], [(13, 112)], [(13, 112), (16, 115)], [(13, 112)], [(13, 112), (17, 116), (18, 117)], [(13, 112), (15, 114), (19, 118)], [(13, 112), (20, 119)], [(13, 112), (21, 120)], [(22, 121)], [(23, 122)], [(23, 122), (24, 123)], [(25, 124)]]) [(10, .int .i64 0), (16, .int .i64 0), (9, .pointer (some ⟨g9, 0, none⟩)), (15, .pointer (some ⟨g15, 0, none⟩)), (12, .pointer (some ⟨g12, 0, none⟩))] [fun zz _ => zz = .int .i64 0, fun zz _ => zz = .bool true, fun zz _ => zz = .bool true, fun zz _ => zz = .int .i64 0, fun zz _ => zz = .bool true, fun zz _ => zz = .bool true, fun zz _ => zz = .bool true, fun zz _ => zz = .pointer (some ⟨g9, 0, none⟩), fun zz _ => zz = .int .i64 ((q.out : Int)), fun zz _ => zz = .pointer (some ⟨g15, 0, none⟩), fun zz _ => zz = .int .i64 ((qq.out : Int)), fun zz _ => zz = .bool true, fun zz _ => zz = .bool true, fun zz _ => zz = .bool true, fun zz _ => zz = .pointer (some ⟨g15, 4, none⟩), Rw (140) (qq.v), fun zz _ => zz = .pointer (some ⟨g9, 4, none⟩), Rw (140) (q.v), Rv (2) (fq), Rv (140 + 2) ((q.v) * fq), fun zz _ => zz = .int .i64 (rcq (qq.v) ((q.v) * fq)), fun zz _ => zz = .bool true, fun zz _ => zz = .bool true, fun zz _ => zz = .bool true, fun zz _ => zz = .bool true, fun zz _ => zz = .bool true, fun zz _ => zz = .bool true] (by kernel_rfl) (by kernel_rfl) ⟨rfl, rfl, rfl, rfl, rfl, trivial⟩ ?_ ?_ ?_
        · exact ⟨fun _ _ _ h _ => h, fun _ _ _ h _ => h, fun _ _ _ h _ => h, fun _ _ _ h _ => h, fun _ _ _ h _ => h, fun _ _ _ h _ => h, fun _ _ _ h _ => h, fun _ _ _ h _ => h, fun _ _ _ h _ => h, fun _ _ _ h _ => h, fun _ _ _ h _ => h, fun _ _ _ h _ => h, fun _ _ _ h _ => h, fun _ _ _ h _ => h, fun _ _ _ h _ => h, fun _ _ _ h hb => h.new hb, fun _ _ _ h _ => h, fun _ _ _ h hb => h.new hb, fun _ _ _ h hb => h.new hb, fun _ _ _ h hb => h.new hb, fun _ _ _ h _ => h, fun _ _ _ h _ => h, fun _ _ _ h _ => h, fun _ _ _ h _ => h, fun _ _ _ h _ => h, fun _ _ _ h _ => h, fun _ _ _ h _ => h, trivial⟩
        · refine ⟨?_, ?_, ?_, ?_, ?_, ?_, ?_, ?_, ?_, ?_, ?_, ?_, ?_, ?_, ?_, ?_, ?_, ?_, ?_, ?_, ?_, ?_, ?_, ?_, ?_, ?_, ?_, trivial⟩
          · exact fun aa ww hb he hd => ob_plain rfl (gives_move _ rfl ⟨he.1, Below.refl _ _⟩)
          · exact fun aa ww hb he hd => ob_plain rfl (gives_eq_int 0 0 .i64 _ _ _ _ rfl hd.1 rfl ⟨congrArg Value.bool (rfl), Below.refl _ _⟩)
          · exact fun aa ww hb he hd => ob_plain rfl (gives_move _ rfl ⟨hd.1, Below.refl _ _⟩)
          · exact fun aa ww hb he hd => ob_on 101 rfl (by kernel_rfl) hd.1 (gives_move _ rfl ⟨he.2.1, Below.refl _ _⟩)
          · exact fun aa ww hb he hd => ob_on 101 rfl (by kernel_rfl) hd.1 (gives_eq_int 0 0 .i64 _ _ _ _ rfl hd.2.1 rfl ⟨congrArg Value.bool (rfl), Below.refl _ _⟩)
          · exact fun aa ww hb he hd => ob_plain rfl (gives_pick true _ _ _ rfl hd.1 ⟨hd.2.1, Below.refl _ _⟩)
          · exact fun aa ww hb he hd => ob_plain rfl (gives_move _ rfl ⟨hd.1, Below.refl _ _⟩)
          · exact fun aa ww hb he hd => ob_on 105 rfl (by kernel_rfl) hd.1 (fld_sol rfl (by decide) he.2.2.1)
          · exact fun aa ww hb he hd => ob_on 105 rfl (by kernel_rfl) hd.1 (load_c3 rfl hd.2.1 (Blk.at0 HZ.out hb))
          · exact fun aa ww hb he hd => ob_on 105 rfl (by kernel_rfl) hd.1 (fld_sol rfl (by decide) he.2.2.2.1)
          · exact fun aa ww hb he hd => ob_on 105 rfl (by kernel_rfl) hd.1 (load_c3 rfl hd.2.1 (Blk.at0 HW.out hb))
          · exact fun aa ww hb he hd => ob_on 105 rfl (by kernel_rfl) hd.1 (gives_eq_int ((q.out : Int)) ((qq.out : Int)) .i64 _ _ _ _ rfl hd.2.1 hd.2.2.1 ⟨congrArg Value.bool (by rw [HO1.out]; simp), Below.refl _ _⟩)
          · exact fun aa ww hb he hd => ob_plain rfl (gives_pick true _ _ _ rfl hd.1 ⟨hd.2.1, Below.refl _ _⟩)
          · exact fun aa ww hb he hd => ob_plain rfl (gives_move _ rfl ⟨hd.1, Below.refl _ _⟩)
          · exact fun aa ww hb he hd => ob_on 112 rfl (by kernel_rfl) hd.1 (fld_sol rfl (by decide) he.2.2.2.1)
          · exact fun aa ww hb he hd => ob_on 112 rfl (by kernel_rfl) hd.1 (load_sv rfl hd.2.1 (Blk.keep HW.out hb) (Rw.new HVq.out hb))
          · exact fun aa ww hb he hd => ob_on 112 rfl (by kernel_rfl) hd.1 (fld_sol rfl (by decide) he.2.2.1)
          · exact fun aa ww hb he hd => ob_on 112 rfl (by kernel_rfl) hd.1 (load_sv rfl hd.2.1 (Blk.keep HZ.out hb) (Rw.new HV.out hb))
          · exact fun aa ww hb he hd => ob_on 112 rfl (by kernel_rfl) hd.1 (load_bn rfl he.2.2.2.2.1 (Bn.new HX.out hb))
          · exact fun aa ww hb he hd => ob_on 112 rfl (by kernel_rfl) hd.1 (gives_call2 _ _ _ _ rfl (by kernel_rfl) (mul_v (hd.2.1) (hd.2.2.1.rw) (by omega)))
          · exact fun aa ww hb he hd => ob_on 112 rfl (by kernel_rfl) hd.1 (gives_call2 _ _ _ _ rfl (by kernel_rfl) (cmp_v (hd.2.1) (hd.2.2.1.rw) (by omega)))
          · exact fun aa ww hb he hd => ob_on 112 rfl (by kernel_rfl) hd.1 (gives_eq_int (rcq (qq.v) ((q.v) * fq)) 0 .i64 _ _ _ _ rfl hd.2.1 rfl ⟨congrArg Value.bool (rcq_eqd HV1.out), Below.refl _ _⟩)
          · exact fun aa ww hb he hd => ob_plain rfl (gives_pick true _ _ _ rfl hd.1 ⟨hd.2.1, Below.refl _ _⟩)
          · exact fun aa ww hb he hd => ob_plain rfl (gives_move _ rfl ⟨hd.1, Below.refl _ _⟩)
          · exact fun aa ww hb he hd => ob_on 122 rfl (by kernel_rfl) hd.1 (gives_call0 _ _ rfl (by kernel_rfl) (rv_one (awake_any _)))
          · exact fun aa ww hb he hd => ob_plain rfl (gives_pick true _ _ _ rfl hd.1 ⟨hd.2.1, Below.refl _ _⟩)
          · exact fun aa ww hb he hd => ob_plain rfl (gives_assign _ rfl ⟨hd.1, Below.refl _ _⟩)
        intro vs w23 hb hR
        have e6 : vs 26 = .bool true := hR 26 (by decide)
        clear hR
        simp only [putsL, Nat.zero_add, Nat.reduceAdd, List.take_succ_cons, List.take_zero, Act.put, List.setIfInBounds_toArray, List.set_cons_zero, List.set_cons_succ]
        rw [e6]
        clear e6
        go_wp2_with fail
        go_ret
        exact ⟨rfl, bthen HB.out hb HB.out.size⟩
end Go.Proofs.Ytamcibmjpmibdaa
