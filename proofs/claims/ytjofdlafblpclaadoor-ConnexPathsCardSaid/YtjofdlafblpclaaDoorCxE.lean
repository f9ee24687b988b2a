/-
  Contract of connex.extended.
-/
import Derived.Test.YtjofdlafblpclaaDoorCx
import Derived.Test.YtjofdlafblpclaaDoorScP
import Derived.Test.YtjofdlafblpclaaDoorOf
import Derived.Test.YtjofdlafblpclaaDoorRegU
import Derived.Deep.RegionLaw
import Derived.BigRegion
namespace Go.Proofs.YtjofdlafblpclaaDoor
open Go.RowKit
set_option linter.unusedSimpArgs false
set_option linter.unusedVariables false

theorem keepG4 {B : Nat} {w1 w' : World} {g : Nat} {t : TypeId} {x y : Value} (h : GB w1 g t x y) (hg : g < B) (hb : Below B w1 w') : (w'.cell? ⟨g, 0, none⟩ = some x ∧ w'.cell? ⟨g, 1, none⟩ = some y) ∧ Below B w1 w' := ⟨⟨(hb.cell hg).trans h.c0, (hb.cell hg).trans h.c1⟩, hb⟩
theorem step_app_u32c {ops : Array Oper} {o : Oper} {a : Act} {w : World} {K : Act → World → Prop} {Q : Exit → Act → World → Prop} {E : Prop} (hgd : o.guard = none) (s x : Operand) (ho : o.op = .call { callee := .builtin .append, args := #[s, x], argTypes := #[22, 22] })
    (base : Nat) (v : Value) (L : List Nat) (hs : a.eval s = v) (hown : w.ownsRow base 42 1 v L.length (U32 L)) (g y : Nat) (hx : a.eval x = .slice (some ⟨g, 0, none⟩) 1 1) (hb : Blk w g 42 #[.int .u32 (y : Int)])
    (hk : L.length ≤ 1000000) (hbase : base ≤ w.heap.size)
    (h : ∀ v' w', w'.ownsRow base 42 1 v' (L ++ [y]).length (U32 (L ++ [y])) → w.grownBy w' v.ownBlock → (v'.ownBlock = v.ownBlock ∨ v'.ownBlock = some w.heap.size) → K (a.put o.dst v') w') :
    if Region.wanted o (yielded ops a.tmps) = true then Oper.wp Tryd.prog o a w K Q else E := by
  obtain ⟨i, hi, hz, hs1, hby⟩ := info_parts info_u32
  have hr : Reads w w.heap.size 1 (some ⟨g, 0, none⟩) 1 [.int .u32 (y : Int)] := ⟨rfl, fun _ => ⟨_, rfl, hb.lt, fun j u hu => by
    have e : (Addr.add ⟨g, 0, none⟩ j) = ⟨g, j, none⟩ := by unfold Addr.add; split <;> simp_all
    rw [e, hb.cell]; simpa using hu⟩⟩
  refine step_append_any w hgd s x 22 ho base 42 i _ 1 4 Tryd.underlying22 hi hz hs1 hby rfl (by omega) v L.length (U32 L) hs hown w.heap.size _ 1 1 _ hx hr (by simp; rfl) (by simp only [maxLen]; omega) (by omega) hbase ?_
  intro v' w' h1 h2 h3
  exact h v' w' (by rw [List.length_append]; simpa [U32] using h1) h2 h3
theorem step_below {ops : Array Oper} {o : Oper} {a : Act} {w : World} {K : Act → World → Prop} {Q : Exit → Act → World → Prop} {E : Prop} (hgd : o.guard = none) (x : Operand) (ts : Array TypeId) (ho : o.op = .call { callee := .value (.func 33), args := #[x], argTypes := ts }) (f : Nat) (hf : f ≤ 32) (hx : a.eval x = .int .i64 (f : Int))
    (h : K (a.put o.dst (.int .u32 ((2 ^ f - 1 : Nat) : Int))) w) : if Region.wanted o (yielded ops a.tmps) = true then Oper.wp Tryd.prog o a w K Q else E := by
  have hw : Region.wanted o (yielded ops a.tmps) = true := by simp [Region.wanted, hgd]
  rw [if_pos hw]
  refine wp_of_gives (K := fun v W => v = .int .u32 ((2 ^ f - 1 : Nat) : Int) ∧ W = w) (gives_call1 33 x ts ho (by kernel_rfl) ?_) (by rintro v w' ⟨rfl, rfl⟩; exact h)
  rw [hx]
  exact (cxbelow_any f hf w).mono (by rintro e w' ⟨rfl, rfl⟩; exact ⟨_, rfl, rfl, rfl⟩)
def CxExtRet (n : Int) (L K : List Nat) (w : World) (e : Ending) (w' : World) : Prop := ∃ v u, e = .returned (.tuple #[.agg #[.int .i64 n, v], u]) ∧ w'.ownsRow w.heap.size 42 1 v L.length (U32 L) ∧ w'.ownsRow w.heap.size 3 1 u K.length (I64 (ints K)) ∧ Below w.heap.size w w'
def keptTo (es : List Nat) (k : Nat) : List Nat := (List.range k).filter fun i => contF es i == i
theorem keptTo_len (es : List Nat) (k : Nat) : (keptTo es k).length ≤ k := by
  have := List.length_filter_le (fun i => contF es i == i) (List.range k)
  rwa [List.length_range] at this
/-- What stands at the head of the loop. -/
def CxSt (w : World) (n : Nat) (A : Option Addr) (len c : Nat) (v u : Value) (E K : List Nat) (wr : World) : Prop :=
  GB wr w.heap.size 24 (.int .i64 n) (.slice A len c) ∧ GB wr (w.heap.size + 1) 24 (.int .i64 0) (.slice none 0 0) ∧ GB wr (w.heap.size + 2) 24 (.int .i64 n) v ∧
  wr.ownsRow (w.heap.size + 3) 42 1 v E.length (U32 E) ∧ wr.ownsRow (w.heap.size + 3) 3 1 u (ints K).length (I64 (ints K)) ∧ Below w.heap.size w wr ∧ w.heap.size + 3 ≤ wr.heap.size
section
variable {w : World} {n : Nat} {A : Option Addr} {len c : Nat} {v u : Value} {E K : List Nat} {wr : World}
theorem CxSt.new {w' : World} (h : CxSt w n A len c v u E K wr) (hb : Below wr.heap.size wr w') : CxSt w n A len c v u E K w' :=
  ⟨h.1.new hb, h.2.1.new hb, h.2.2.1.new hb, own_below h.2.2.2.1 hb, own_below h.2.2.2.2.1 hb, bthen h.2.2.2.2.2.1 hb h.2.2.2.2.2.1.size, Nat.le_trans h.2.2.2.2.2.2 hb.size⟩
theorem CxSt.alloc (h : CxSt w n A len c v u E K wr) (o : Obj) : CxSt w n A len c v u E K (wr.alloc o) := h.new (al wr o)
theorem CxSt.drewN (h : CxSt w n A len c v u E K wr) (k : Nat) : CxSt w n A len c v u E K (wr.drewN k) := h.new (below_drewN (Below.refl _ _) k)
theorem CxSt.appI {w' : World} {u' : Value} {K' : List Nat} (h : CxSt w n A len c v u E K wr) (h1 : w'.ownsRow (w.heap.size + 3) 3 1 u' (ints K').length (I64 (ints K'))) (hg : wr.grownBy w' u.ownBlock) : CxSt w n A len c v u' E K' w' :=
  ⟨h.1.appended h.2.2.2.2.1 hg (by decide), h.2.1.appended h.2.2.2.2.1 hg (by decide), h.2.2.1.appended h.2.2.2.2.1 hg (by decide), own_grown_own h.2.2.2.1 h.2.2.2.2.1 (by decide) hg, h1, Below.appended h.2.2.2.2.2.1 h.2.2.2.2.1 hg h.2.2.2.2.2.1.size (by omega), Nat.le_trans h.2.2.2.2.2.2 hg.size⟩
theorem CxSt.appU {w' : World} {v' : Value} {E' : List Nat} (h : CxSt w n A len c v u E K wr) (h1 : w'.ownsRow (w.heap.size + 3) 42 1 v' E'.length (U32 E')) (hg : wr.grownBy w' v.ownBlock) :
    (GB w' w.heap.size 24 (.int .i64 n) (.slice A len c) ∧ GB w' (w.heap.size + 1) 24 (.int .i64 0) (.slice none 0 0) ∧ GB w' (w.heap.size + 2) 24 (.int .i64 n) v) ∧ CxSt w n A len c v' u E' K (w'.setCell ⟨w.heap.size + 2, 1, none⟩ v') := by
  have a0 := h.1.appended h.2.2.2.1 hg (by decide)
  have a1 := h.2.1.appended h.2.2.2.1 hg (by decide)
  have a2 := h.2.2.1.appended h.2.2.2.1 hg (by decide)
  have a3 := own_grown_own h.2.2.2.2.1 h.2.2.2.1 (by decide) hg
  have a4 := Below.appended h.2.2.2.2.2.1 h.2.2.2.1 hg h.2.2.2.2.2.1.size (by omega)
  refine ⟨⟨a0, a1, a2⟩, GB.far a0 (by show w.heap.size ≠ w.heap.size + 2; omega) _, GB.far a1 (by show w.heap.size + 1 ≠ w.heap.size + 2; omega) _, a2.set1 _, own_far h1 a2.blk (by decide) 1 _, own_far a3 a2.blk (by decide) 1 _, a4.setCell (p := ⟨w.heap.size + 2, 1, none⟩) (by show w.heap.size ≤ w.heap.size + 2; omega) _, ?_⟩
  have := Nat.le_trans h.2.2.2.2.2.2 hg.size
  simpa [World.setCell] using this
end
theorem keptTo_succ (es : List Nat) (k : Nat) : keptTo es (k + 1) = keptTo es k ++ (if contF es k = k then [k] else []) := by
  unfold keptTo
  rw [List.range_succ, List.filter_append]
  by_cases h0 : contF es k = k
  · simp [h0]
  · simp [h0]
set_option maxRecDepth 100000 in
set_option maxHeartbeats 4000000 in
theorem cxext_any (n : Nat) (A : Option Addr) (es : List Nat) (len c f : Nat) (w : World) (hr : Es w w.heap.size A len es) (hl : len ≤ 70) (hf : f ≤ 32) :
    Calls Tryd.prog 27 #[.agg #[.int .i64 n, .slice A len c], .int .i64 f] w (CxExtRet n (keptE es ++ [2 ^ f - 1]) (keptI es) w) := by
  have hlen := hr.len
  subst hlen
  have HR := Lib.hid hr; clear hr
  have hg0 := ((GB.made w 24 (.int .i64 n) (.slice A es.length c)).alloc (.cells #[.int .i64 0, .slice none 0 0] 24)).alloc (.cells #[.int .i64 n, .slice none 0 0] 24)
  have hg1 : GB ((w.alloc (.cells #[.int .i64 n, .slice A es.length c] 24)).alloc (.cells #[.int .i64 0, .slice none 0 0] 24)) (w.heap.size + 1) 24 (.int .i64 0) (.slice none 0 0) := by
    simpa using GB.made (w.alloc (.cells #[.int .i64 n, .slice A es.length c] 24)) 24 (.int .i64 0) (.slice none 0 0)
  have hg2 : GB (((w.alloc (.cells #[.int .i64 n, .slice A es.length c] 24)).alloc (.cells #[.int .i64 0, .slice none 0 0] 24)).alloc (.cells #[.int .i64 n, .slice none 0 0] 24)) (w.heap.size + 2) 24 (.int .i64 n) (.slice none 0 0) := by
    simpa using GB.made ((w.alloc (.cells #[.int .i64 n, .slice A es.length c] 24)).alloc (.cells #[.int .i64 0, .slice none 0 0] 24)) 24 (.int .i64 n) (.slice none 0 0)
  have H0 := Lib.hid (show CxSt w n A es.length c (.slice none 0 0) (.slice none 0 0) [] [] (((w.alloc (.cells #[.int .i64 n, .slice A es.length c] 24)).alloc (.cells #[.int .i64 0, .slice none 0 0] 24)).alloc (.cells #[.int .i64 n, .slice none 0 0] 24)) from ⟨hg0, hg1.alloc _, hg2, own_nil _ _ _, own_nil _ _ _, bthen (bthen (al w _) (al _ _) (by simp)) (al _ _) (by simp; omega), by simp⟩)
  clear hg0 hg1 hg2
  go_enter Tryd.func27, Tryd.ntmps27
  go_wp2_with fail
  generalize (((w.alloc (.cells #[.int .i64 n, .slice A es.length c] 24)).alloc (.cells #[.int .i64 0, .slice none 0 0] 24)).alloc (.cells #[.int .i64 n, .slice none 0 0] 24)) = W0 at *
  go_loopw [7, 16] (fun u iv wr => ∃ (k : Nat) (v : Value), iv = .int .i64 k ∧ k ≤ es.length ∧ Hid (CxSt w n A es.length c v u ((keptTo es k).map (nth es)) (keptTo es k) wr)) (fun _ iv _ => es.length - (intOf iv).toNat)
  case atStart => exact ⟨0, _, rfl, Nat.zero_le _, H0⟩
  case round =>
    obtain ⟨k, v, rfl, hk, HI⟩ := hrel
    obtain ⟨A3, c3, hv⟩ := own_form HI.out.2.2.2.1
    subst hv
    have hKL := keptTo_len es k
    by_cases hkl : k < es.length
    · obtain ⟨ad, rfl, hb1, hcell⟩ := (HR.out.new HI.out.2.2.2.2.2.1).at_ hkl
      have hek := HR.out.lt hkl
      have g0 := HI.out.1.c0; have g1 := HI.out.1.c1; have gl := HI.out.1.lt
      go_wp2_with fail
      refine (container_any n (some ad) es es.length c k _ (HR.out.new HI.out.2.2.2.2.2.1) hkl).mono ?_
      rintro e w2 ⟨rfl, hb⟩
      have HS := Lib.hid (HI.out.new hb); clear hb g0 g1 gl
      have HTS := Lib.hid (keptTo_succ es k)
      generalize keptTo es k = K0 at *
      have HME := Lib.hid (show (K0 ++ [k]).map (nth es) = K0.map (nth es) ++ [nth es k] by simp)
      have hEL : (K0.map (nth es)).length ≤ k := by rw [List.length_map]; exact hKL
      obtain ⟨E0, hE0⟩ : ∃ E0, E0 = K0.map (nth es) := ⟨_, rfl⟩
      rw [← hE0] at HI HS HME hEL
      have HE0 := Lib.hid hE0; clear hE0
      by_cases h0 : contF es k = k
      · have t0 : ((contF es k : Int) == (k : Int)) = true := by simp [h0]
        have hT := HTS.out
        rw [if_pos h0] at hT
        have HT := Lib.hid hT; clear hT h0
        have hs2 := HS.out.2.2.2.2.2.2
        have k1 := HS.out.2.2.1.c1
        have hlk : (ints K0).length ≤ 1000000 := by rw [ints_length]; omega
        have hlu : E0.length ≤ 1000000 := by omega
        generalize (contF es k : Int) = cf at *
        go_wp2_with (at_builtin; first
          | (refine app_int rfl _ _ rfl (w.heap.size + 3) u7 (ints K0).length (ints K0) rfl (World.ownsRow.alloc HS.out.2.2.2.2.1 _) w2.heap.size (k : Int) rfl (Blk.new _ _ _) hlk (by simp; omega) ?_; intro v' w5 hown' hgr hor; have HM := Lib.hid ((HS.out.alloc _).appI (u' := v') (K' := K0 ++ [k]) (by rw [ints_snoc, List.length_append]; exact hown') hgr); have k1 := HM.out.2.2.1.c1; have kl := HM.out.2.2.1.lt; clear hown' hgr hor)
          | (refine app_u32 rfl _ _ rfl (w.heap.size + 3) (.slice A3 E0.length c3) E0.length E0 rfl (World.ownsRow.alloc HM.out.2.2.2.1 _) w5.heap.size (nth es k) rfl (Blk.new _ _ _) hlu (by have := HM.out.2.2.2.2.2.2; simp; omega) ?_; intro v'' w7 hown' hgr hor; obtain ⟨A7, c7, rfl⟩ := own_form hown'; have hU := (HM.out.alloc _).appU (E' := E0 ++ [nth es k]) (by rw [List.length_append]; exact hown') hgr; have k2 := hU.1.2.2.c1; have q1 := hU.1.2.2.f1; have l7 := hU.1.2.2.lt; have HU := Lib.hid hU.2; clear hown' hgr hor hU))
        refine ⟨⟨k + 1, .slice A7 (E0.length + 1) c7, by go_num, by omega, Lib.hid ?_⟩, by simp [intOf]; omega⟩
        rw [HT.out, HME.out]
        exact HU.out
      · have t0 : ((contF es k : Int) == (k : Int)) = false := by rw [beq_eq_false_iff_ne]; omega
        have hT := HTS.out
        rw [if_neg h0, List.append_nil] at hT
        have HT := Lib.hid hT; clear hT h0
        generalize (contF es k : Int) = cf at *
        go_wp2_with fail
        refine ⟨⟨k + 1, .slice A3 E0.length c3, by go_num, by omega, Lib.hid ?_⟩, by simp [intOf]; omega⟩
        rw [HT.out, ← HE0.out]
        exact HS.out
    · obtain rfl : k = es.length := by omega
      have k1 := HI.out.2.2.1.c1; have q1 := HI.out.2.2.1.f1; have gl := HI.out.2.2.1.lt
      have hlu : ((keptTo es es.length).map (nth es)).length ≤ 1000000 := by rw [List.length_map]; omega
      have hbs : w.heap.size + 3 ≤ wr.heap.size := HI.out.2.2.2.2.2.2
      have HKK := Lib.hid (show keptTo es es.length = keptI es from rfl)
      have HE0 := Lib.hid (show (keptTo es es.length).map (nth es) = keptE es from rfl)
      generalize keptTo es es.length = K0 at *
      generalize K0.map (nth es) = E0 at *
      go_upto_region 10 with (fail)
      go_cut [42] (fun v wx => ∃ A9 c9, v = .slice A9 (E0.length + 1) c9 ∧ Hid (CxSt w n A es.length c v u7 (E0 ++ [2 ^ f - 1]) K0 wx))
      case first =>
        go_region_law (first
          | (refine step_below rfl _ _ rfl f (by omega) rfl ?_)
          | ((refine step_app_u32c rfl _ _ rfl (w.heap.size + 3) (.slice A3 E0.length c3) E0 rfl (World.ownsRow.alloc (own_drewN HI.out.2.2.2.1 1) _) wr.heap.size (2 ^ f - 1) rfl (Blk.new _ _ _) hlu (by simp; try omega) ?_; intro v' w7 hown' hgr hor; obtain ⟨A9, c9, rfl⟩ := own_form hown'; have hU := ((HI.out.drewN 1).alloc _).appU (E' := E0 ++ [2 ^ f - 1]) hown' hgr; have k2 := hU.1.2.2.c1; have q1 := hU.1.2.2.f1; have l9 := hU.1.2.2.lt; have HU := Lib.hid hU.2; clear hown' hgr hor hU)))
        all_goals
          go_wp2_with fail
          go_meet
          have h := HU.out
          have hl9 : (E0 ++ [(2 ^ f - 1 : Nat)] : List Nat).length = E0.length + 1 := by simp
          rw [hl9] at h
          exact ⟨A9, c9, rfl, Lib.hid h⟩
      case rest =>
        obtain ⟨A9, c9, rfl, HZ⟩ := hcut
        clear k1 q1 gl
        have g0 := HZ.out.2.2.1.c0; have g1 := HZ.out.2.2.1.c1; have gl := HZ.out.2.2.1.lt
        have d0 := HZ.out.2.1.c0; have d1 := HZ.out.2.1.c1; have f0 := HZ.out.2.1.f0; have f1 := HZ.out.2.1.f1; have l4 := HZ.out.2.1.lt
        go_wp2_with fail
        refine bodyPost_ret (v := .tuple #[.agg #[.int .i64 n, .slice A9 (E0.length + 1) c9], u7]) ?_ rfl ⟨.slice A9 (E0.length + 1) c9, u7, rfl, ?_, ?_, two_below HZ.out.2.2.2.2.2.1 (by omega) _ _⟩
        · exact results_step Tryd.results27 _ _ _ _ _ (0, 0) _ rfl ((HZ.out.2.1.set0 (.int .i64 n)).set1 (.slice A9 (E0.length + 1) c9)).blk Tryd.underlying24 rfl (graph_size _ _)
        · rw [← HE0.out]
          exact own_lower (own_far (own_far HZ.out.2.2.2.1 HZ.out.2.1.blk (by decide) 0 _) (HZ.out.2.1.set0 _).blk (by decide) 1 _) (by omega)
        · rw [← HKK.out]
          have h := HZ.out.2.2.2.2.1
          rw [ints_length] at h
          exact own_lower (own_far (own_far h HZ.out.2.1.blk (by decide) 0 _) (HZ.out.2.1.set0 _).blk (by decide) 1 _) (by omega)
end Go.Proofs.YtjofdlafblpclaaDoor
