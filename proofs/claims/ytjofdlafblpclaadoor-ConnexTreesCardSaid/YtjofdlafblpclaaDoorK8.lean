/-
Contract of connex.extended.
Operations of regions, met one by one: more kinds (tuples, lengths, bits, fields of boxed graphs).
Operations of regions: an element of a slice, and what is at an address.
slices.Backward at rows of uint32, connex.walk.
-/
import Derived.Test.YtjofdlafblpclaaDoorK5
import Derived.Test.YtjofdlafblpclaaDoorK4
import Derived.Test.YtjofdlafblpclaaDoorK6
import Derived.Test.YtjofdlafblpclaaDoorK7
import Derived.Deep.RegionLaw
import Derived.BigRegion
import Derived.Test.YtjofdlafblpclaaDoorK2
import Derived.IntWalk
namespace Go.Proofs.YtjofdlafblpclaaDoor
open Go.RowKit
set_option linter.unusedSimpArgs false
set_option linter.unusedVariables false

theorem keepG4 {B : Nat} {w1 w' : World} {g : Nat} {t : TypeId} {x y : Value} (h : GB w1 g t x y) (hg : g < B) (hb : Below B w1 w') : (w'.cell? ⟨g, 0, none⟩ = some x ∧ w'.cell? ⟨g, 1, none⟩ = some y) ∧ Below B w1 w' := ⟨⟨(hb.cell hg).trans h.c0, (hb.cell hg).trans h.c1⟩, hb⟩
theorem step_app_u32c {ops : Array Oper} {o : Oper} {a : Act} {w : World} {K : Act → World → Prop} {Q : Exit → Act → World → Prop} {E : Prop} (hgd : o.guard = none) (s x : Operand) (ho : o.op = .call { callee := .builtin .append, args := #[s, x], argTypes := #[22, 22] })
    (base : Nat) (v : Value) (L : List Nat) (hs : a.eval s = v) (hown : w.ownsRow base 42 1 v L.length (U32 L)) (g y : Nat) (hx : a.eval x = .slice (some ⟨g, 0, none⟩) 1 1) (hb : Blk w g 42 #[.int .u32 (y : Int)])
    (hk : L.length ≤ 1000000) (hbase : base ≤ w.heap.size)
    (h : ∀ v' w', w'.ownsRow base 42 1 v' (L ++ [y]).length (U32 (L ++ [y])) → w.grownBy w' v.ownBlock → (v'.ownBlock = v.ownBlock ∨ v'.ownBlock = some w.heap.size) → K (a.put o.dst v') w') :
    if Region.wanted o (yielded ops a.tmps) = true then Oper.wp Tryd.prog o a w K Q else E := by
  obtain ⟨i, hi, hz, hs1, hby⟩ := info_parts info_u32
  have hr : Reads w w.heap.size 1 (some ⟨g, 0, none⟩) 1 [.int .u32 (y : Int)] := ⟨rfl, fun _ => ⟨_, rfl, hb.lt, fun j u hu => by
    have e : (Addr.add ⟨g, 0, none⟩ j) = ⟨g, j, none⟩ := by unfold Addr.add; split <;> simp_all
    rw [e, hb.cell]; simpa using hu⟩⟩
  refine step_append_any w hgd s x 22 ho base 42 i _ 1 4 Tryd.underlying22 hi hz hs1 hby rfl (by omega) v L.length (U32 L) hs hown w.heap.size _ 1 1 _ hx hr (by simp; rfl) (by simp only [maxLen]; omega) (by omega) hbase ?_
  intro v' w' h1 h2 h3
  exact h v' w' (by rw [List.length_append]; simpa [U32] using h1) h2 h3
theorem step_below {ops : Array Oper} {o : Oper} {a : Act} {w : World} {K : Act → World → Prop} {Q : Exit → Act → World → Prop} {E : Prop} (hgd : o.guard = none) (x : Operand) (ts : Array TypeId) (ho : o.op = .call { callee := .value (.func 33), args := #[x], argTypes := ts }) (f : Nat) (hf : f ≤ 32) (hx : a.eval x = .int .i64 (f : Int))
    (h : K (a.put o.dst (.int .u32 ((2 ^ f - 1 : Nat) : Int))) w) : if Region.wanted o (yielded ops a.tmps) = true then Oper.wp Tryd.prog o a w K Q else E := by
  have hw : Region.wanted o (yielded ops a.tmps) = true := by simp [Region.wanted, hgd]
  rw [if_pos hw]
  refine wp_of_gives (K := fun v W => v = .int .u32 ((2 ^ f - 1 : Nat) : Int) ∧ W = w) (gives_call1 33 x ts ho (by kernel_rfl) ?_) (by rintro v w' ⟨rfl, rfl⟩; exact h)
  rw [hx]
  exact (cxbelow_any f hf w).mono (by rintro e w' ⟨rfl, rfl⟩; exact ⟨_, rfl, rfl, rfl⟩)
def CxExtRet (n : Int) (L K : List Nat) (w : World) (e : Ending) (w' : World) : Prop := ∃ v u, e = .returned (.tuple #[.agg #[.int .i64 n, v], u]) ∧ w'.ownsRow w.heap.size 42 1 v L.length (U32 L) ∧ w'.ownsRow w.heap.size 3 1 u K.length (I64 (ints K)) ∧ Below w.heap.size w w'
def keptTo (es : List Nat) (k : Nat) : List Nat := (List.range k).filter fun i => contF es i == i
theorem keptTo_len (es : List Nat) (k : Nat) : (keptTo es k).length ≤ k := by
  have := List.length_filter_le (fun i => contF es i == i) (List.range k)
  rwa [List.length_range] at this
/-- What stands at the head of the loop. -/
def CxSt (w : World) (n : Nat) (A : Option Addr) (len c : Nat) (v u : Value) (E K : List Nat) (wr : World) : Prop :=
  GB wr w.heap.size 24 (.int .i64 n) (.slice A len c) ∧ GB wr (w.heap.size + 1) 24 (.int .i64 0) (.slice none 0 0) ∧ GB wr (w.heap.size + 2) 24 (.int .i64 n) v ∧
  wr.ownsRow (w.heap.size + 3) 42 1 v E.length (U32 E) ∧ wr.ownsRow (w.heap.size + 3) 3 1 u (ints K).length (I64 (ints K)) ∧ Below w.heap.size w wr ∧ w.heap.size + 3 ≤ wr.heap.size
section
variable {w : World} {n : Nat} {A : Option Addr} {len c : Nat} {v u : Value} {E K : List Nat} {wr : World}
theorem CxSt.new {w' : World} (h : CxSt w n A len c v u E K wr) (hb : Below wr.heap.size wr w') : CxSt w n A len c v u E K w' :=
  ⟨h.1.new hb, h.2.1.new hb, h.2.2.1.new hb, own_below h.2.2.2.1 hb, own_below h.2.2.2.2.1 hb, bthen h.2.2.2.2.2.1 hb h.2.2.2.2.2.1.size, Nat.le_trans h.2.2.2.2.2.2 hb.size⟩
theorem CxSt.alloc (h : CxSt w n A len c v u E K wr) (o : Obj) : CxSt w n A len c v u E K (wr.alloc o) := h.new (al wr o)
theorem CxSt.drewN (h : CxSt w n A len c v u E K wr) (k : Nat) : CxSt w n A len c v u E K (wr.drewN k) := h.new (below_drewN (Below.refl _ _) k)
theorem CxSt.appI {w' : World} {u' : Value} {K' : List Nat} (h : CxSt w n A len c v u E K wr) (h1 : w'.ownsRow (w.heap.size + 3) 3 1 u' (ints K').length (I64 (ints K'))) (hg : wr.grownBy w' u.ownBlock) : CxSt w n A len c v u' E K' w' :=
  ⟨h.1.appended h.2.2.2.2.1 hg (by decide), h.2.1.appended h.2.2.2.2.1 hg (by decide), h.2.2.1.appended h.2.2.2.2.1 hg (by decide), own_grown_own h.2.2.2.1 h.2.2.2.2.1 (by decide) hg, h1, Below.appended h.2.2.2.2.2.1 h.2.2.2.2.1 hg h.2.2.2.2.2.1.size (by omega), Nat.le_trans h.2.2.2.2.2.2 hg.size⟩
theorem CxSt.appU {w' : World} {v' : Value} {E' : List Nat} (h : CxSt w n A len c v u E K wr) (h1 : w'.ownsRow (w.heap.size + 3) 42 1 v' E'.length (U32 E')) (hg : wr.grownBy w' v.ownBlock) :
    (GB w' w.heap.size 24 (.int .i64 n) (.slice A len c) ∧ GB w' (w.heap.size + 1) 24 (.int .i64 0) (.slice none 0 0) ∧ GB w' (w.heap.size + 2) 24 (.int .i64 n) v) ∧ CxSt w n A len c v' u E' K (w'.setCell ⟨w.heap.size + 2, 1, none⟩ v') := by
  have a0 := h.1.appended h.2.2.2.1 hg (by decide)
  have a1 := h.2.1.appended h.2.2.2.1 hg (by decide)
  have a2 := h.2.2.1.appended h.2.2.2.1 hg (by decide)
  have a3 := own_grown_own h.2.2.2.2.1 h.2.2.2.1 (by decide) hg
  have a4 := Below.appended h.2.2.2.2.2.1 h.2.2.2.1 hg h.2.2.2.2.2.1.size (by omega)
  refine ⟨⟨a0, a1, a2⟩, GB.far a0 (by show w.heap.size ≠ w.heap.size + 2; omega) _, GB.far a1 (by show w.heap.size + 1 ≠ w.heap.size + 2; omega) _, a2.set1 _, own_far h1 a2.blk (by decide) 1 _, own_far a3 a2.blk (by decide) 1 _, a4.setCell (p := ⟨w.heap.size + 2, 1, none⟩) (by show w.heap.size ≤ w.heap.size + 2; omega) _, ?_⟩
  have := Nat.le_trans h.2.2.2.2.2.2 hg.size
  simpa [World.setCell] using this
end
theorem keptTo_succ (es : List Nat) (k : Nat) : keptTo es (k + 1) = keptTo es k ++ (if contF es k = k then [k] else []) := by
  unfold keptTo
  rw [List.range_succ, List.filter_append]
  by_cases h0 : contF es k = k
  · simp [h0]
  · simp [h0]
set_option maxRecDepth 100000 in
set_option maxHeartbeats 4000000 in
theorem cxext_any (n : Nat) (A : Option Addr) (es : List Nat) (len c f : Nat) (w : World) (hr : Es w w.heap.size A len es) (hl : len ≤ 70) (hf : f ≤ 32) :
    Calls Tryd.prog 27 #[.agg #[.int .i64 n, .slice A len c], .int .i64 f] w (CxExtRet n (keptE es ++ [2 ^ f - 1]) (keptI es) w) := by
  have hlen := hr.len
  subst hlen
  have HR := Lib.hid hr; clear hr
  have hg0 := ((GB.made w 24 (.int .i64 n) (.slice A es.length c)).alloc (.cells #[.int .i64 0, .slice none 0 0] 24)).alloc (.cells #[.int .i64 n, .slice none 0 0] 24)
  have hg1 : GB ((w.alloc (.cells #[.int .i64 n, .slice A es.length c] 24)).alloc (.cells #[.int .i64 0, .slice none 0 0] 24)) (w.heap.size + 1) 24 (.int .i64 0) (.slice none 0 0) := by
    simpa using GB.made (w.alloc (.cells #[.int .i64 n, .slice A es.length c] 24)) 24 (.int .i64 0) (.slice none 0 0)
  have hg2 : GB (((w.alloc (.cells #[.int .i64 n, .slice A es.length c] 24)).alloc (.cells #[.int .i64 0, .slice none 0 0] 24)).alloc (.cells #[.int .i64 n, .slice none 0 0] 24)) (w.heap.size + 2) 24 (.int .i64 n) (.slice none 0 0) := by
    simpa using GB.made ((w.alloc (.cells #[.int .i64 n, .slice A es.length c] 24)).alloc (.cells #[.int .i64 0, .slice none 0 0] 24)) 24 (.int .i64 n) (.slice none 0 0)
  have H0 := Lib.hid (show CxSt w n A es.length c (.slice none 0 0) (.slice none 0 0) [] [] (((w.alloc (.cells #[.int .i64 n, .slice A es.length c] 24)).alloc (.cells #[.int .i64 0, .slice none 0 0] 24)).alloc (.cells #[.int .i64 n, .slice none 0 0] 24)) from ⟨hg0, hg1.alloc _, hg2, own_nil _ _ _, own_nil _ _ _, bthen (bthen (al w _) (al _ _) (by simp)) (al _ _) (by simp; omega), by simp⟩)
  clear hg0 hg1 hg2
  go_enter Tryd.func27, Tryd.ntmps27
  go_wp2_with fail
  generalize (((w.alloc (.cells #[.int .i64 n, .slice A es.length c] 24)).alloc (.cells #[.int .i64 0, .slice none 0 0] 24)).alloc (.cells #[.int .i64 n, .slice none 0 0] 24)) = W0 at *
  go_loopw [7, 16] (fun u iv wr => ∃ (k : Nat) (v : Value), iv = .int .i64 k ∧ k ≤ es.length ∧ Hid (CxSt w n A es.length c v u ((keptTo es k).map (nth es)) (keptTo es k) wr)) (fun _ iv _ => es.length - (intOf iv).toNat)
  case atStart => exact ⟨0, _, rfl, Nat.zero_le _, H0⟩
  case round =>
    obtain ⟨k, v, rfl, hk, HI⟩ := hrel
    obtain ⟨A3, c3, hv⟩ := own_form HI.out.2.2.2.1
    subst hv
    have hKL := keptTo_len es k
    by_cases hkl : k < es.length
    · obtain ⟨ad, rfl, hb1, hcell⟩ := (HR.out.new HI.out.2.2.2.2.2.1).at_ hkl
      have hek := HR.out.lt hkl
      have g0 := HI.out.1.c0; have g1 := HI.out.1.c1; have gl := HI.out.1.lt
      go_wp2_with fail
      refine (container_any n (some ad) es es.length c k _ (HR.out.new HI.out.2.2.2.2.2.1) hkl).mono ?_
      rintro e w2 ⟨rfl, hb⟩
      have HS := Lib.hid (HI.out.new hb); clear hb g0 g1 gl
      have HTS := Lib.hid (keptTo_succ es k)
      generalize keptTo es k = K0 at *
      have HME := Lib.hid (show (K0 ++ [k]).map (nth es) = K0.map (nth es) ++ [nth es k] by simp)
      have hEL : (K0.map (nth es)).length ≤ k := by rw [List.length_map]; exact hKL
      obtain ⟨E0, hE0⟩ : ∃ E0, E0 = K0.map (nth es) := ⟨_, rfl⟩
      rw [← hE0] at HI HS HME hEL
      have HE0 := Lib.hid hE0; clear hE0
      by_cases h0 : contF es k = k
      · have t0 : ((contF es k : Int) == (k : Int)) = true := by simp [h0]
        have hT := HTS.out
        rw [if_pos h0] at hT
        have HT := Lib.hid hT; clear hT h0
        have hs2 := HS.out.2.2.2.2.2.2
        have k1 := HS.out.2.2.1.c1
        have hlk : (ints K0).length ≤ 1000000 := by rw [ints_length]; omega
        have hlu : E0.length ≤ 1000000 := by omega
        generalize (contF es k : Int) = cf at *
        go_wp2_with (at_builtin; first
          | (refine app_int rfl _ _ rfl (w.heap.size + 3) u7 (ints K0).length (ints K0) rfl (World.ownsRow.alloc HS.out.2.2.2.2.1 _) w2.heap.size (k : Int) rfl (Blk.new _ _ _) hlk (by simp; omega) ?_; intro v' w5 hown' hgr hor; have HM := Lib.hid ((HS.out.alloc _).appI (u' := v') (K' := K0 ++ [k]) (by rw [ints_snoc, List.length_append]; exact hown') hgr); have k1 := HM.out.2.2.1.c1; have kl := HM.out.2.2.1.lt; clear hown' hgr hor)
          | (refine app_u32 rfl _ _ rfl (w.heap.size + 3) (.slice A3 E0.length c3) E0.length E0 rfl (World.ownsRow.alloc HM.out.2.2.2.1 _) w5.heap.size (nth es k) rfl (Blk.new _ _ _) hlu (by have := HM.out.2.2.2.2.2.2; simp; omega) ?_; intro v'' w7 hown' hgr hor; obtain ⟨A7, c7, rfl⟩ := own_form hown'; have hU := (HM.out.alloc _).appU (E' := E0 ++ [nth es k]) (by rw [List.length_append]; exact hown') hgr; have k2 := hU.1.2.2.c1; have q1 := hU.1.2.2.f1; have l7 := hU.1.2.2.lt; have HU := Lib.hid hU.2; clear hown' hgr hor hU))
        refine ⟨⟨k + 1, .slice A7 (E0.length + 1) c7, by go_num, by omega, Lib.hid ?_⟩, by simp [intOf]; omega⟩
        rw [HT.out, HME.out]
        exact HU.out
      · have t0 : ((contF es k : Int) == (k : Int)) = false := by rw [beq_eq_false_iff_ne]; omega
        have hT := HTS.out
        rw [if_neg h0, List.append_nil] at hT
        have HT := Lib.hid hT; clear hT h0
        generalize (contF es k : Int) = cf at *
        go_wp2_with fail
        refine ⟨⟨k + 1, .slice A3 E0.length c3, by go_num, by omega, Lib.hid ?_⟩, by simp [intOf]; omega⟩
        rw [HT.out, ← HE0.out]
        exact HS.out
    · obtain rfl : k = es.length := by omega
      have k1 := HI.out.2.2.1.c1; have q1 := HI.out.2.2.1.f1; have gl := HI.out.2.2.1.lt
      have hlu : ((keptTo es es.length).map (nth es)).length ≤ 1000000 := by rw [List.length_map]; omega
      have hbs : w.heap.size + 3 ≤ wr.heap.size := HI.out.2.2.2.2.2.2
      have HKK := Lib.hid (show keptTo es es.length = keptI es from rfl)
      have HE0 := Lib.hid (show (keptTo es es.length).map (nth es) = keptE es from rfl)
      generalize keptTo es es.length = K0 at *
      generalize K0.map (nth es) = E0 at *
      go_upto_region 10 with (fail)
      go_cut [42] (fun v wx => ∃ A9 c9, v = .slice A9 (E0.length + 1) c9 ∧ Hid (CxSt w n A es.length c v u7 (E0 ++ [2 ^ f - 1]) K0 wx))
      case first =>
        go_region_law (first
          | (refine step_below rfl _ _ rfl f (by omega) rfl ?_)
          | ((refine step_app_u32c rfl _ _ rfl (w.heap.size + 3) (.slice A3 E0.length c3) E0 rfl (World.ownsRow.alloc (own_drewN HI.out.2.2.2.1 1) _) wr.heap.size (2 ^ f - 1) rfl (Blk.new _ _ _) hlu (by simp; try omega) ?_; intro v' w7 hown' hgr hor; obtain ⟨A9, c9, rfl⟩ := own_form hown'; have hU := ((HI.out.drewN 1).alloc _).appU (E' := E0 ++ [2 ^ f - 1]) hown' hgr; have k2 := hU.1.2.2.c1; have q1 := hU.1.2.2.f1; have l9 := hU.1.2.2.lt; have HU := Lib.hid hU.2; clear hown' hgr hor hU)))
        all_goals
          go_wp2_with fail
          go_meet
          have h := HU.out
          have hl9 : (E0 ++ [(2 ^ f - 1 : Nat)] : List Nat).length = E0.length + 1 := by simp
          rw [hl9] at h
          exact ⟨A9, c9, rfl, Lib.hid h⟩
      case rest =>
        obtain ⟨A9, c9, rfl, HZ⟩ := hcut
        clear k1 q1 gl
        have g0 := HZ.out.2.2.1.c0; have g1 := HZ.out.2.2.1.c1; have gl := HZ.out.2.2.1.lt
        have d0 := HZ.out.2.1.c0; have d1 := HZ.out.2.1.c1; have f0 := HZ.out.2.1.f0; have f1 := HZ.out.2.1.f1; have l4 := HZ.out.2.1.lt
        go_wp2_with fail
        refine bodyPost_ret (v := .tuple #[.agg #[.int .i64 n, .slice A9 (E0.length + 1) c9], u7]) ?_ rfl ⟨.slice A9 (E0.length + 1) c9, u7, rfl, ?_, ?_, two_below HZ.out.2.2.2.2.2.1 (by omega) _ _⟩
        · exact results_step Tryd.results27 _ _ _ _ _ (0, 0) _ rfl ((HZ.out.2.1.set0 (.int .i64 n)).set1 (.slice A9 (E0.length + 1) c9)).blk Tryd.underlying24 rfl (graph_size _ _)
        · rw [← HE0.out]
          exact own_lower (own_far (own_far HZ.out.2.2.2.1 HZ.out.2.1.blk (by decide) 0 _) (HZ.out.2.1.set0 _).blk (by decide) 1 _) (by omega)
        · rw [← HKK.out]
          have h := HZ.out.2.2.2.2.1
          rw [ints_length] at h
          exact own_lower (own_far (own_far h HZ.out.2.1.blk (by decide) 0 _) (HZ.out.2.1.set0 _).blk (by decide) 1 _) (by omega)
end Go.Proofs.YtjofdlafblpclaaDoor
namespace Go.Proofs.YtjofdlafblpclaaDoor
open Go.RowKit

theorem gives_mono {P : Program} {o : Oper} {ρ : Operand → Value} {w : World} {K K' : Value → World → Prop} (h : gives P o ρ w K) (hk : ∀ v w', K v w' → K' v w') : gives P o ρ w K' := by
  unfold gives at *
  generalize (execOp ρ o).run P w = r at *
  cases r with
  | ok x w' =>
    cases x with
    | value v => exact hk _ _ h
    | skip => exact hk _ _ h
    | enter f args => exact h.mono fun e w'' ⟨v, h1, h2⟩ => ⟨v, h1, hk _ _ h2⟩
    | _ => exact h
  | halt x w' => exact h
section
variable {P : Program} {ops : Array Oper} {o : Oper} {a : Act} {w : World}
theorem wpAny_next {Q : Exit → Act → World → Prop} {i fuel : Nat} {listed : Array Bool} (hr : Region.ready .any ops listed = [i]) (ho : ops[i]? = some o) (hg : o.guard = none) (h : o.wp P a w (fun a' w' => wpAny P .any ops Q fuel (listed.setIfInBounds i true) a' w') Q) : wpAny P .any ops Q (fuel + 1) listed a w := by
  refine ⟨fun h0 => absurd (hr.symm.trans h0) (by simp), fun j hj => ?_⟩
  rw [hr] at hj
  simp at hj
  subst hj
  unfold wpOp
  simp only [ho]
  rw [if_pos (by simp [Region.wanted, hg])]
  exact .inl h
theorem wpAny_end {Q : Exit → Act → World → Prop} {listed : Array Bool} (hr : Region.ready .any ops listed = []) (h : Q .normal a w) : ∀ fuel, wpAny P .any ops Q fuel listed a w
  | 0 => ⟨hr, h⟩
  | _ + 1 => ⟨fun _ => h, fun j hj => by rw [hr] at hj; cases hj⟩
end
theorem ob_undef {ops : Array Oper} {o : Oper} {a : Act} {G E : Prop} {g : Nat} {want : Bool} (t : Tmp) (hg : o.guard = some (g, want)) (ht : dstOf ops g = some t) (hv : tv a t = undef) (h : E) : if Region.wanted o (yielded ops a.tmps) = true then G else E := by
  have hy : yielded ops a.tmps g ≠ some want := by
    unfold yielded
    simp only [dstOf] at ht
    rw [ht]
    simp only [tv, Array.getD_eq_getD_getElem?] at hv
    cases h : a.tmps[t]? with
    | none => simp [h]
    | some x => rw [h] at hv; simp at hv; subst hv; simp [h, undef]
  rw [if_neg (by simp [Region.wanted, hg, hy])]; exact h
theorem wpOps_next {P : Program} {ops : Array Oper} {o : Oper} {a : Act} {w : World} {Q : Exit → Act → World → Prop} {i : Nat} {r : List Nat} (ho : ops[i]? = some o) (hg : o.guard = none) (h : o.wp P a w (wpOps P ops Q r) Q) : wpOps P ops Q (i :: r) a w := by
  unfold wpOps
  simp only [ho]
  rw [if_pos (by simp [Region.wanted, hg])]
  exact .inl h
theorem wp_assign {o : Oper} {a : Act} {w : World} {K : Act → World → Prop} {Q : Exit → Act → World → Prop} (t : Tmp) (x : Operand) (ho : o.op = .assign x) (hd : o.dst = some t) (v : Value) (hv : a.eval x = v) (h : K (a.put (some t) v) w) : o.wp Tryd.prog a w K Q := by
  rw [← hd, ← hv] at h
  unfold Oper.wp execOp
  rw [ho]
  exact h
section
variable {o : Oper} {a : Act} {w : World} {t : Tmp}
theorem ext_c {i : Nat} {vs : Array Value} {x : Value} (ho : o.op = .extract (.tmp t) i) (h : tv a t = .tuple vs) (hx : vs[i]? = some x) : gives Tryd.prog o a.eval w (fun v w' => v = x ∧ Below w.heap.size w w') := by
  refine gives_val x ?_ ⟨rfl, Below.refl _ _⟩
  unfold execOp
  rw [ho]
  simp only [eval_tmp, h]
  simp [Instr.extract, hx]
theorem len_c {A : Option Addr} {n c : Nat} {T e : TypeId} (hu : Tryd.prog.underlying T = some (.slice e)) (ho : o.op = .call { callee := .builtin .len, args := #[.tmp t], argTypes := #[T] }) (h : tv a t = .slice A n c) : gives Tryd.prog o a.eval w (fun v w' => v = .int .i64 (n : Int) ∧ Below w.heap.size w w') := by
  refine gives_val (.int .i64 (n : Int)) ?_ ⟨rfl, Below.refl _ _⟩
  unfold execOp
  rw [ho]
  simp [eval_tmp, h, resolve, invoke, builtin, Builtin.len_, run_underlying hu, goInt]
theorem shr_u32 {u : Tmp} {x k : Nat} {T T2 : TypeId} (hk : k < 32) (ho : o.op = .binOp .shr T (.tmp t) (.tmp u) T2) (h : tv a t = .int .u32 (x : Int)) (h2 : tv a u = .int .i64 (k : Int)) : gives Tryd.prog o a.eval w (fun v w' => v = .int .u32 ((x : Int) / 2 ^ k) ∧ Below w.heap.size w w') := by
  refine gives_val (.int .u32 ((x : Int) / 2 ^ k)) ?_ ⟨rfl, Below.refl _ _⟩
  have i1 : (0 : Int) ≤ (k : Int) := by omega
  have i2 : (k : Int) < 32 := by omega
  unfold execOp
  rw [ho]
  simp only [eval_tmp, h, h2]
  go_simp
theorem bit_u32 {x k : Nat} {T T2 : TypeId} (hx : x < 2 ^ 32) (ho : o.op = .binOp .and T (.tmp t) (.const (.int .u32 1)) T2) (h : tv a t = .int .u32 ((x : Int) / 2 ^ k)) : gives Tryd.prog o a.eval w (fun v w' => v = .int .u32 ((if x.testBit k then 1 else 0 : Nat) : Int) ∧ Below w.heap.size w w') := by
  refine gives_val (.int .u32 ((if x.testBit k then 1 else 0 : Nat) : Int)) ?_ ⟨rfl, Below.refl _ _⟩
  have e := bits_and_one x k hx
  unfold execOp
  rw [ho]
  simp only [eval_tmp, eval_const, h]
  go_simp
theorem load_gr {g : Nat} {x y : Value} {T : TypeId} (hT : T = 24) (ho : o.op = .load T (.tmp t)) (ht : tv a t = .pointer (some ⟨g, 0, none⟩)) (h : GB w g 24 x y) : gives Tryd.prog o a.eval w (fun v w' => v = .agg #[x, y] ∧ Below w.heap.size w w') := by
  subst hT
  exact gives_load_blk 24 (.tmp t) ho g 24 _ _ ht (GB.blk h) Tryd.underlying24 rfl (by kernel_rfl) ⟨rfl, Below.refl _ _⟩
theorem fld_0 {g : Nat} (ho : o.op = .fieldAddr 24 (.tmp t) 0) (hx : tv a t = .pointer (some ⟨g, 0, none⟩)) : gives Tryd.prog o a.eval w (fun v w' => v = .pointer (some ⟨g, 0, none⟩) ∧ Below w.heap.size w w') := by
  refine gives_val (.pointer (some ⟨g, 0, none⟩)) ?_ ⟨rfl, Below.refl _ _⟩
  unfold execOp; rw [ho]; simp only [eval_tmp, hx]; go_simp
theorem fld_1 {g : Nat} (ho : o.op = .fieldAddr 24 (.tmp t) 1) (hx : tv a t = .pointer (some ⟨g, 0, none⟩)) : gives Tryd.prog o a.eval w (fun v w' => v = .pointer (some ⟨g, 1, none⟩) ∧ Below w.heap.size w w') := by
  refine gives_val (.pointer (some ⟨g, 1, none⟩)) ?_ ⟨rfl, Below.refl _ _⟩
  unfold execOp; rw [ho]; simp only [eval_tmp, hx]; go_simp
theorem load_n {p : Addr} {z : Int} (ho : o.op = .load 3 (.tmp t)) (hx : tv a t = .pointer (some p)) (hc : w.cell? p = some (.int .i64 z)) : gives Tryd.prog o a.eval w (fun u w' => u = .int .i64 z ∧ Below w.heap.size w w') := by
  refine gives_val (.int .i64 z) ?_ ⟨rfl, Below.refl _ _⟩
  unfold execOp; rw [ho]; simp only [eval_tmp, hx]; go_simp
theorem load_es {p : Addr} {u : Value} (ho : o.op = .load 22 (.tmp t)) (hx : tv a t = .pointer (some p)) (hc : w.cell? p = some u) : gives Tryd.prog o a.eval w (fun v w' => v = u ∧ Below w.heap.size w w') := by
  refine gives_val u ?_ ⟨rfl, Below.refl _ _⟩
  unfold execOp; rw [ho]; simp only [eval_tmp, hx]; go_simp
theorem ne_u32 {u : Tmp} {i j : Int} {T T2 : TypeId} (ho : o.op = .binOp .neq T (.tmp t) (.tmp u) T2) (hx : tv a t = .int .u32 i) (hy : tv a u = .int .u32 j) : gives Tryd.prog o a.eval w (fun v w' => v = .bool (i != j) ∧ Below w.heap.size w w') :=
  gives_ne_int i j .u32 _ _ _ _ ho hx hy ⟨rfl, Below.refl _ _⟩
end
end Go.Proofs.YtjofdlafblpclaaDoor
namespace Go.Proofs.YtjofdlafblpclaaDoor
open Go.RowKit
section
variable {o : Oper} {a : Act} {w : World} {t u : Tmp}
theorem idx_es {ad : Addr} {n c k : Nat} (hk : k < n) (ho : o.op = .indexAddr 22 (.tmp t) (.tmp u)) (h : tv a t = .slice (some ad) n c) (h2 : tv a u = .int .i64 (k : Int)) : gives Tryd.prog o a.eval w (fun v w' => v = .pointer (some (ad.add k)) ∧ Below w.heap.size w w') := by
  refine gives_val (.pointer (some (ad.add k))) ?_ ⟨rfl, Below.refl _ _⟩
  have i1 : (0 : Int) ≤ (k : Int) := by omega
  have i2 : (k : Int) < (n : Int) := by omega
  unfold execOp; rw [ho]; simp only [eval_tmp, h, h2]; go_simp
theorem idx_bs {ad : Addr} {n c k : Nat} (hk : k < n) (ho : o.op = .indexAddr 74 (.tmp t) (.tmp u)) (h : tv a t = .slice (some ad) n c) (h2 : tv a u = .int .i64 (k : Int)) : gives Tryd.prog o a.eval w (fun v w' => v = .pointer (some (ad.add k)) ∧ Below w.heap.size w w') := by
  refine gives_val (.pointer (some (ad.add k))) ?_ ⟨rfl, Below.refl _ _⟩
  have i1 : (0 : Int) ≤ (k : Int) := by omega
  have i2 : (k : Int) < (n : Int) := by omega
  unfold execOp; rw [ho]; simp only [eval_tmp, h, h2]; go_simp
theorem load_u {p : Addr} {v : Value} (ho : o.op = .load 42 (.tmp t)) (hx : tv a t = .pointer (some p)) (hc : w.cell? p = some v) : gives Tryd.prog o a.eval w (fun z w' => z = v ∧ Below w.heap.size w w') := by
  refine gives_val v ?_ ⟨rfl, Below.refl _ _⟩
  unfold execOp; rw [ho]; simp only [eval_tmp, hx]; go_simp
theorem load_b {p : Addr} {v : Value} (ho : o.op = .load 4 (.tmp t)) (hx : tv a t = .pointer (some p)) (hc : w.cell? p = some v) : gives Tryd.prog o a.eval w (fun z w' => z = v ∧ Below w.heap.size w w') := by
  refine gives_val v ?_ ⟨rfl, Below.refl _ _⟩
  unfold execOp; rw [ho]; simp only [eval_tmp, hx]; go_simp
theorem idx_xs {ad : Addr} {n c k : Nat} {y : Operand} (hk : k < n) (ho : o.op = .indexAddr 33 (.tmp t) y) (h : tv a t = .slice (some ad) n c) (h2 : a.eval y = .int .i64 (k : Int)) : gives Tryd.prog o a.eval w (fun v w' => v = .pointer (some (ad.add k)) ∧ Below w.heap.size w w') := by
  refine gives_val (.pointer (some (ad.add k))) ?_ ⟨rfl, Below.refl _ _⟩
  have i1 : (0 : Int) ≤ (k : Int) := by omega
  have i2 : (k : Int) < (n : Int) := by omega
  unfold execOp; rw [ho]; simp only [eval_tmp, h, h2]; go_simp
end
end Go.Proofs.YtjofdlafblpclaaDoor
namespace Go.Proofs.YtjofdlafblpclaaDoor
open Go.RowKit Go.Shelf
set_option linter.unusedSimpArgs false
set_option linter.unusedVariables false
attribute [local go_sem] Oper.semAt_some

set_option maxRecDepth 100000 in
set_option maxHeartbeats 2000000 in
theorem back1_in (F : Fence) (n : Nat) (hF : F.fn 56) (hro : F.round = none) (hn : 1 ≤ n) (l Bs b off len cap : Nat) (zs : List Nat) (hreach : len * 4 ≤ 140737488351232) (J : Nat → World → Prop) (Kp : World → World → Prop)
    (hK1 : ∀ A B, Kp A B → A.cell? ⟨Bs, 0, none⟩ = some (.slice (some ⟨b, off, none⟩) len cap) → B.cell? ⟨Bs, 0, none⟩ = some (.slice (some ⟨b, off, none⟩) len cap))
    (hK2 : ∀ A B j u, Kp A B → A.cell? ⟨b, off + j, none⟩ = some u → B.cell? ⟨b, off + j, none⟩ = some u)
    (hY : ∀ k W, J k W → k < len → YieldAt F (n - 1) Tryd.prog l #[.int .i64 ((len - 1 - k : Nat) : Int), .int .u32 (nth zs (len - 1 - k) : Nat)] W fun e W' =>
      e = .returned (.bool true) ∧ J (k + 1) W' ∧ Kp W W')
    (W : World) (hBs : W.cell? ⟨Bs, 0, none⟩ = some (.slice (some ⟨b, off, none⟩) len cap)) (hc : ∀ j, j < len → W.cell? ⟨b, off + j, none⟩ = some (.int .u32 (nth zs j : Nat))) (h0 : J 0 W) :
    CallsIn F n Tryd.prog 56 #[.func (.yield l) #[] #[], .pointer (some ⟨Bs, 0, none⟩)] W fun e W' => (∃ v, e = .returned v) ∧ J len W' := by
  refine callsIn_of_wp Tryd.func56 rfl hF ?_ hro
  simp only [Tryd.ntmps56, List.size_toArray, List.length_cons, List.length_nil, Nat.reduceAdd, Nat.reduceSub, Array.replicate_succ, Array.replicate_zero, List.push_toArray, List.append_toArray, List.nil_append, List.cons_append]
  gi_wp2
  gi_loopw [3] (fun i wr => ∃ m : Nat, m ≤ len ∧ i = .int .i64 ((m : Int) - 1) ∧ J (len - m) wr ∧ wr.cell? ⟨Bs, 0, none⟩ = some (.slice (some ⟨b, off, none⟩) len cap) ∧ ∀ j, j < len → wr.cell? ⟨b, off + j, none⟩ = some (.int .u32 (nth zs j : Nat)))
    (fun i _ => (intOf i + 1).toNat)
  case atStart => exact ⟨len, Nat.le_refl _, rfl, by rw [Nat.sub_self]; exact h0, hBs, hc⟩
  case round =>
    obtain ⟨m, hm, rfl, hJs, hbx, hcs⟩ := hrel
    cases m with
    | zero =>
      gi_wp2
      go_end0
      exact ⟨⟨_, rfl⟩, hJs⟩
    | succ m =>
      have ei : (((m + 1 : Nat) : Int) - 1) = (m : Int) := by omega
      rw [ei]
      have hlt : m < len := by omega
      have hcx := hcs m hlt
      obtain ⟨fn, tmps, assign, body, hy, hR⟩ := hY _ wr hJs (by omega)
      rw [show len - 1 - (len - (m + 1)) = m by omega] at hy
      rw [show len - (m + 1) + 1 = len - m by omega] at hR
      gi_wp2
      refine hR.mono ?_
      rintro e W3 ⟨rfl, hJ3, hk3⟩
      gi_wp2
      go_roundw
      case rel => exact ⟨m, by omega, rfl, hJ3, hK1 _ _ hk3 hbx, fun j hj => hK2 _ _ j _ hk3 (hcs j hj)⟩
      case measure => simp [intOf]
theorem back_ix (n : Nat) (hn : 1 ≤ n) (Bs b off len cap : Nat) (zs : List Nat) (hreach : len * 4 ≤ 140737488351232) (Kp : World → World → Prop) (w : World)
    (hK1 : ∀ A B, Kp A B → A.cell? ⟨Bs, 0, none⟩ = some (.slice (some ⟨b, off, none⟩) len cap) → B.cell? ⟨Bs, 0, none⟩ = some (.slice (some ⟨b, off, none⟩) len cap))
    (hK2 : ∀ A B j u, Kp A B → A.cell? ⟨b, off + j, none⟩ = some u → B.cell? ⟨b, off + j, none⟩ = some u)
    (hb : b < w.heap.size) (hB : Bs < w.heap.size) (hBs : w.cell? ⟨Bs, 0, none⟩ = some (.slice (some ⟨b, off, none⟩) len cap)) (hc : ∀ j, j < len → w.cell? ⟨b, off + j, none⟩ = some (.int .u32 (nth zs j : Nat))) :
    SeqIx Fence.wide n Tryd.prog 56 #[.pointer (some ⟨Bs, 0, none⟩)] (fun k => #[.int .i64 ((len - 1 - k : Nat) : Int), .int .u32 (nth zs (len - 1 - k) : Nat)]) Kp len w := fun l J W hW hY h0 =>
  back1_in Fence.wide n trivial rfl hn l Bs b off len cap zs hreach J Kp hK1 hK2 hY W ((hW.cell (p := ⟨Bs, 0, none⟩) hB).trans hBs) (fun j hj => (hW.cell (p := ⟨b, off + j, none⟩) hb).trans (hc j hj)) h0

/-- **slices.Backward**: the slice is boxed; the function value captures the box. -/
theorem back_any (a : Option Addr) (len cap : Nat) (w : World) :
    Calls Tryd.prog 51 #[.slice a len cap] w fun e w' => e = .returned (.func (.func 56) #[] #[.pointer (some ⟨w.heap.size, 0, none⟩)]) ∧ w' = w.alloc (.cells #[.slice a len cap] 22) := by
  go_enter Tryd.func51, Tryd.ntmps51
  go_wp2_with fail
  go_ret
  exact ⟨rfl, rfl⟩

/-- The stages: the vertices at which a path may be if k steps are left. -/
def stg (R : List Nat) (inn last : Nat) : Nat → Nat
  | 0 => last
  | k + 1 => orTo R (stg R inn last k) 32 &&& inn
def stL (R : List Nat) (inn last k : Nat) : List Nat := (List.range k).map (stg R inn last)
theorem stL_len (R : List Nat) (inn last k : Nat) : (stL R inn last k).length = k := by simp [stL]
theorem stL_succ (R : List Nat) (inn last k : Nat) : stL R inn last (k + 1) = stL R inn last k ++ [stg R inn last k] := by simp [stL, List.range_succ]
theorem stL_nth (R : List Nat) (inn last : Nat) {k j : Nat} (h : j < k) : nth (stL R inn last k) j = stg R inn last j := by simp [stL, nth, h]
/-- The least bit. -/
def lowb (x : Nat) : Nat := ((List.range 32).find? fun j => x.testBit j).getD 32
theorem lowb_spec {x : Nat} (hx : x < 4294967296) (h0 : x ≠ 0) : lowb x < 32 ∧ x.testBit (lowb x) = true ∧ ∀ j, j < lowb x → x.testBit j = false := by
  obtain ⟨i, hi⟩ : ∃ i, x.testBit i = true := Nat.exists_testBit_of_ne_zero h0
  have hi32 : i < 32 := by
    rcases Nat.lt_or_ge i 32 with h | h
    · exact h
    · rw [Nat.testBit_lt_two_pow (Nat.lt_of_lt_of_le (show x < 2 ^ 32 by omega) (Nat.pow_le_pow_right (by decide) h))] at hi; cases hi
  unfold lowb
  cases hf : (List.range 32).find? fun j => x.testBit j with
  | none =>
    have := List.find?_eq_none.1 hf i (by simpa using hi32)
    exact absurd hi this
  | some t =>
    rw [List.find?_range_eq_some] at hf
    obtain ⟨h1, h2, h3⟩ := hf
    exact ⟨by simpa using h2, h1, fun j hj => by simpa using h3 j hj⟩
/-- The path's vertices. -/
def wkC (S : Nat → Nat) (R : List Nat) (len f : Nat) : Nat → Nat
  | 0 => f
  | k + 1 => lowb (S (len - 1 - k) &&& nth R (wkC S R len f k))
def wkL (S : Nat → Nat) (R : List Nat) (len f k : Nat) : List Nat := (List.range (k + 1)).map (wkC S R len f)
theorem wkL_len (S : Nat → Nat) (R : List Nat) (len f k : Nat) : (wkL S R len f k).length = k + 1 := by simp [wkL]
theorem wkL_succ (S : Nat → Nat) (R : List Nat) (len f k : Nat) : wkL S R len f (k + 1) = wkL S R len f k ++ [wkC S R len f (k + 1)] := by simp [wkL, List.range_succ (n := k + 1)]
theorem wkL_last (S : Nat → Nat) (R : List Nat) (len f k : Nat) : nth (wkL S R len f k) k = wkC S R len f k := by simp [wkL, nth]
theorem own_one (w : World) (e : TypeId) (x : Value) (hx : x.oneCell' = true) : (w.alloc (.cells #[x] e)).ownsRow w.heap.size e 1 (.slice (some ⟨w.heap.size, 0, none⟩) 1 1) 1 [x] :=
  ⟨rfl, .inr ⟨w.heap.size, 1, #[x], rfl, Nat.le_refl _, heap_alloc_new w _, by simp, by simp [maxLen], rfl, rfl⟩⟩

theorem back_ix2 (n : Nat) (hn : 1 ≤ n) (Bs b off len cap : Nat) (zs : List Nat) (ia : Nat → Int) (va : Nat → Nat) (hia : ∀ k, ia k = ((len - 1 - k : Nat) : Int)) (hva : ∀ k, va k = nth zs (len - 1 - k)) (hreach : len * 4 ≤ 140737488351232) (Kp : World → World → Prop) (w : World)
    (hK1 : ∀ A B, Kp A B → A.cell? ⟨Bs, 0, none⟩ = some (.slice (some ⟨b, off, none⟩) len cap) → B.cell? ⟨Bs, 0, none⟩ = some (.slice (some ⟨b, off, none⟩) len cap))
    (hK2 : ∀ A B j u, Kp A B → A.cell? ⟨b, off + j, none⟩ = some u → B.cell? ⟨b, off + j, none⟩ = some u)
    (hb : b < w.heap.size) (hB : Bs < w.heap.size) (hBs : w.cell? ⟨Bs, 0, none⟩ = some (.slice (some ⟨b, off, none⟩) len cap)) (hc : ∀ j, j < len → w.cell? ⟨b, off + j, none⟩ = some (.int .u32 (nth zs j : Nat))) :
    SeqIx Fence.wide n Tryd.prog 56 #[.pointer (some ⟨Bs, 0, none⟩)] (fun k => #[.int .i64 (ia k), .int .u32 (va k : Nat)]) Kp len w := by
  have h := back_ix n hn Bs b off len cap zs hreach Kp w hK1 hK2 hb hB hBs hc
  have e : (fun k => #[Value.int .i64 (ia k), .int .u32 (va k : Nat)]) = fun k => #[Value.int .i64 ((len - 1 - k : Nat) : Int), .int .u32 (nth zs (len - 1 - k) : Nat)] := funext fun k => by rw [hia, hva]
  rw [e]
  exact h
/-- What a round keeps: what lay below P, and the box Q. -/
def KpW (P Q : Nat) (W W' : World) : Prop := Below P W W' ∧ ∀ x, W.cell? ⟨Q, 0, none⟩ = some x → W'.cell? ⟨Q, 0, none⟩ = some x
theorem KpW.trans {P Q : Nat} {A B C : World} (h : KpW P Q A B) (k : KpW P Q B C) : KpW P Q A C := ⟨h.1.trans k.1, fun x hx => k.2 x (h.2 x hx)⟩
theorem KpW.put {P Q : Nat} {w : World} (hn : P ≤ w.heap.size) (W : World) (l : Nat) (o o' : Obj) (hl : w.heap.size ≤ l) (h : W.heap[l]? = some o) (hc : o.isCells = false) (hw : o.isWalk = false) : KpW P Q W (W.putObj l o') :=
  ⟨belowK_b hn W l o o' hl h hc hw, fun x hx => cell_kept hx (grownBy_putObj' W l o') (fun r e => by cases e; exact ⟨o, h, hc⟩)⟩
theorem wkC_lt {S : Nat → Nat} {R : List Nat} {len f : Nat} (hS : ∀ k, S k < 4294967296) (hf : f < 32) (hok : ∀ k, k < len → S (len - 1 - k) &&& nth R (wkC S R len f k) ≠ 0) : ∀ k, k ≤ len → wkC S R len f k < 32
  | 0, _ => hf
  | k + 1, h => (lowb_spec (Nat.lt_of_le_of_lt Nat.and_le_left (hS _)) (hok k (by omega))).1
theorem wkL_bd {S : Nat → Nat} {R : List Nat} {len f k : Nat} (h : ∀ j, j ≤ k → wkC S R len f j < 32) : ∀ x ∈ ints (wkL S R len f k), -9223372036854775808 ≤ x ∧ x ≤ 9223372036854775807 := by
  intro x hx
  simp only [ints, wkL, List.mem_map, List.mem_range] at hx
  obtain ⟨y, ⟨j, hj, rfl⟩, rfl⟩ := hx
  have := h j (by omega)
  omega
theorem stg_lt {R : List Nat} {inn last : Nat} (hb : ∀ x ∈ R, x < 4294967296) (hl : last < 4294967296) : ∀ k, stg R inn last k < 4294967296
  | 0 => hl
  | k + 1 => Nat.lt_of_le_of_lt Nat.and_le_left (orTo_lt9 hb _ 32)
theorem step_around {ops : Array Oper} {o : Oper} {a : Act} {w : World} {K : Act → World → Prop} {Q : Exit → Act → World → Prop} {E : Prop} (hgd : o.guard = none) (x y : Operand) (ts : Array TypeId) (ho : o.op = .call { callee := .value (.func 50), args := #[x, y], argTypes := ts })
    (R : List Nat) (s : Nat) (hR : R.length = 32) (hb : ∀ x ∈ R, x < 4294967296) (hs : s < 4294967296) (hx : a.eval x = .agg (urow R)) (hy : a.eval y = .int .u32 (s : Int))
    (h : ∀ w', Below w.heap.size w w' → K (a.put o.dst (.int .u32 ((orTo R s 32 : Nat) : Int))) w') : if Region.wanted o (yielded ops a.tmps) = true then Oper.wp Tryd.prog o a w K Q else E := by
  have hw : Region.wanted o (yielded ops a.tmps) = true := by simp [Region.wanted, hgd]
  rw [if_pos hw]
  refine wp_of_gives (K := fun v W => v = .int .u32 ((orTo R s 32 : Nat) : Int) ∧ Below w.heap.size w W) (gives_call2 50 x y ts ho (by kernel_rfl) ?_) (by rintro v w' ⟨rfl, hw'⟩; exact h w' hw')
  rw [hx, hy]
  exact (around_any 0 R s w hR hb hs).mono (by rintro e w' ⟨rfl, hw'⟩; exact ⟨_, rfl, rfl, hw'⟩)
section
variable {o : Oper} {a : Act} {w : World} {t u : Tmp}
theorem load_row9 {g : Nat} {L : List Nat} {T : TypeId} (hT : T = 58) (hl : L.length = 32) (ho : o.op = .load T (.tmp t)) (ht : tv a t = .pointer (some ⟨g, 0, none⟩)) (h : Blk w g 58 (urow L)) : gives Tryd.prog o a.eval w (fun v w' => v = .agg (urow L) ∧ Below w.heap.size w w') := by
  subst hT
  exact gives_load_blk 58 (.tmp t) ho g 58 _ _ ht h Tryd.underlying58 rfl (arr_size L hl) ⟨rfl, Below.refl _ _⟩
theorem pred_c {T T2 : TypeId} {k : Nat} (hk : k < 1000000) (ho : o.op = .binOp .sub T (.tmp t) (.const (.int .i64 1)) T2) (h : tv a t = .int .i64 ((k + 1 : Nat) : Int)) : gives Tryd.prog o a.eval w (fun v w' => v = .int .i64 (k : Int) ∧ Below w.heap.size w w') := by
  refine gives_val (.int .i64 (k : Int)) ?_ ⟨rfl, Below.refl _ _⟩
  unfold execOp
  rw [ho]
  simp only [eval_tmp, eval_const, h]
  have e : IntKind.i64.wrap (k : Int) = k := IntWalk.i64_in _ (by omega)
  go_simp
theorem bs_u {K : Act → World → Prop} {Q : Exit → Act → World → Prop} {y : Int} (ho : o.op = .buildSlice 22 1 #[(0, .tmp t)]) (h : tv a t = .int .u32 y) (hK : K (a.put o.dst (.slice (some ⟨w.heap.size, 0, none⟩) 1 1)) (w.alloc (.cells #[.int .u32 y] 42))) : o.wp Tryd.prog a w K Q := by
  unfold Oper.wp execOp
  rw [ho]
  have hh : a.tmps[t]?.getD undef = .int .u32 y := by simpa [tv] using h
  go_simp
  exact hK
theorem app_wp {K : Act → World → Prop} {Q : Exit → Act → World → Prop} (hgd : o.guard = none) (s x : Operand) (ho : o.op = .call { callee := .builtin .append, args := #[s, x], argTypes := #[22, 22] })
    (base : Nat) (v : Value) (L : List Nat) (hs : a.eval s = v) (hown : w.ownsRow base 42 1 v L.length (U32 L)) (g y : Nat) (hx : a.eval x = .slice (some ⟨g, 0, none⟩) 1 1) (hb : Blk w g 42 #[.int .u32 (y : Int)])
    (hk : L.length ≤ 1000000) (hbase : base ≤ w.heap.size)
    (h : ∀ v' w', w'.ownsRow base 42 1 v' (L ++ [y]).length (U32 (L ++ [y])) → w.grownBy w' v.ownBlock → (v'.ownBlock = v.ownBlock ∨ v'.ownBlock = some w.heap.size) → K (a.put o.dst v') w') : Oper.wp Tryd.prog o a w K Q := by
  have h9 := step_app_u32c (ops := #[]) (Q := Q) (E := True) hgd s x ho base v L hs hown g y hx hb hk hbase h
  rwa [if_pos (by simp [Region.wanted, hgd])] at h9
theorem and_c {T T2 : TypeId} {x y : Nat} (hx : x < 4294967296) (hy : y < 4294967296) (ho : o.op = .binOp .and T (.tmp t) (.tmp u) T2) (h : tv a t = .int .u32 (x : Int)) (h2 : tv a u = .int .u32 (y : Int)) : gives Tryd.prog o a.eval w (fun v w' => v = .int .u32 ((x &&& y : Nat) : Int) ∧ Below w.heap.size w w') := by
  refine gives_val (.int .u32 ((x &&& y : Nat) : Int)) ?_ ⟨rfl, Below.refl _ _⟩
  have e := bits_and x y hx hy
  unfold execOp
  rw [ho]
  simp only [eval_tmp, h, h2]
  go_simp
end
/-- What stands at the head of the first loop. -/
def WkSt (w : World) (R : List Nat) (inn last k : Nat) (v : Value) (wr : World) : Prop :=
  Blk wr w.heap.size 58 (urow R) ∧ wr.ownsRow (w.heap.size + 1) 42 1 v (stL R inn last (k + 1)).length (U32 (stL R inn last (k + 1))) ∧ Below w.heap.size w wr ∧ w.heap.size + 1 ≤ wr.heap.size
section
variable {w : World} {R : List Nat} {inn last k : Nat} {v : Value} {wr : World}
theorem WkSt.new {w' : World} (h : WkSt w R inn last k v wr) (hb : Below wr.heap.size wr w') : WkSt w R inn last k v w' :=
  ⟨Blk.below h.1 hb h.1.lt, own_below h.2.1 hb, bthen h.2.2.1 hb h.2.2.1.size, Nat.le_trans h.2.2.2 hb.size⟩
theorem WkSt.app {w' : World} {v' : Value} (h : WkSt w R inn last k v wr) (h1 : w'.ownsRow (w.heap.size + 1) 42 1 v' (stL R inn last (k + 1) ++ [stg R inn last (k + 1)]).length (U32 (stL R inn last (k + 1) ++ [stg R inn last (k + 1)]))) (hg : wr.grownBy w' v.ownBlock) : WkSt w R inn last (k + 1) v' w' :=
  ⟨h.1.appended h.2.1 hg (by decide), by rw [stL_succ R inn last (k + 1)]; exact h1, Below.appended h.2.2.1 h.2.1 hg h.2.2.1.size (by omega), Nat.le_trans h.2.2.2 hg.size⟩
end
set_option maxRecDepth 100000 in
set_option maxHeartbeats 4000000 in
theorem walk_any (R : List Nat) (inn f last len : Nat) (w : World) (hG : GTab w) (hR : R.length = 32) (hb : ∀ x ∈ R, x < 4294967296) (hi : inn < 4294967296) (hl : last < 4294967296) (hf : f < 32) (h1 : 1 ≤ len) (h2 : len ≤ 64)
    (hok : ∀ k, k < len → stg R inn last (len - 1 - k) &&& nth R (wkC (stg R inn last) R len f k) ≠ 0) :
    Calls Tryd.prog 35 #[.agg (urow R), .int .u32 inn, .int .i64 f, .int .u32 last, .int .i64 len] w fun e w' => ∃ v, e = .returned v ∧ w'.ownsRow w.heap.size 3 1 v (len + 1) (I64 (ints (wkL (stg R inn last) R len f len))) ∧ Below w.heap.size w w' := by
  have HWL := Lib.hid (fun k hk => wkC_lt (S := stg R inn last) (R := R) (len := len) (f := f) (fun k => stg_lt hb hl k) hf hok k hk)
  have HOK := Lib.hid hok; clear hok
  have HRB := Lib.hid hb; clear hb
  have HST := Lib.hid (fun k => stg_lt (R := R) (inn := inn) (k := k) HRB.out hl)
  have H0 := Lib.hid (show WkSt w R inn last 0 (.slice (some ⟨w.heap.size + 1, 0, none⟩) 1 1) ((w.alloc (.cells (urow R) 58)).alloc (.cells #[.int .u32 (last : Int)] 42)) from
    ⟨(Blk.new w _ _).alloc _, by
      have h := own_one (w.alloc (.cells (urow R) 58)) 42 (.int .u32 (last : Int)) rfl
      rw [World.size_alloc] at h
      exact h, bthen (al w _) (al _ _) (by simp), by simp⟩)
  refine callsIn_wide.1 (callsIn_of_wp_marks (n := 5) Tryd.func35 rfl trivial ?_ rfl)
  simp only [Tryd.ntmps35, List.size_toArray, List.length_cons, List.length_nil, Nat.reduceAdd, Nat.reduceSub, Array.replicate_succ, Array.replicate_zero, List.push_toArray, List.append_toArray, List.nil_append, List.cons_append]
  refine wpIn_wide.2 ?_
  go_wp2_with fail
  generalize ((w.alloc (.cells (urow R) 58)).alloc (.cells #[.int .u32 (last : Int)] 42)) = W0 at *
  go_loopw [11, 20] (fun v iv wr => ∃ (k : Nat), iv = .int .i64 k ∧ k ≤ len - 1 ∧ Hid (WkSt w R inn last k v wr)) (fun _ iv _ => len - (intOf iv).toNat)
  case atStart => exact ⟨0, rfl, Nat.zero_le _, H0⟩
  case round =>
    obtain ⟨k, rfl, hk, HI⟩ := hrel
    obtain ⟨A3, c3, hv, hes⟩ := Es.of_own HI.out.2.1 (fun e he => by
      simp only [stL, List.mem_map] at he; obtain ⟨j, _, rfl⟩ := he; exact HST.out j)
    rw [stL_len] at hv hes
    subst hv
    by_cases hkl : k < len - 1
    · obtain ⟨ad, rfl, hb1, hcell⟩ := hes.at_ (k := k) (by omega)
      rw [stL_nth R inn last (by omega)] at hcell
      have hsk := HST.out k
      have hsn := HST.out (k + 1)
      have HB := Lib.hid HI.out.1
      have hrl := HI.out.1.lt
      have han : bits .and .u32 ((orTo R (stg R inn last k) 32 : Nat) : Int) (inn : Int) = ((stg R inn last (k + 1) : Nat) : Int) := bits_and _ _ (orTo_lt9 HRB.out _ 32) hi
      go_wp2_with fail
      refine wp_region_join (kss := [[], [], [], [], [(3, 25)], [(4, 26)], [(2, 24), (5, 27)], [(6, 28)], [(1, 23), (7, 29)], [], [(8, 30), (9, 31)]]) [(11, .slice (some ad) (k + 1) c3), (5, .pointer (some ⟨w.heap.size, 0, none⟩)), (1, .int .u32 (inn : Int))] [fun zz _ => zz = .slice (some ad) (k + 1) c3, fun zz _ => zz = .agg (urow R), fun zz _ => zz = .slice (some ad) (k + 1) c3, fun zz _ => zz = .slice (some ad) (k + 1) c3, fun zz _ => zz = .int .i64 ((k + 1 : Nat) : Int), fun zz _ => zz = .int .i64 (k : Int), fun zz _ => zz = .pointer (some (ad.add k)), fun zz _ => zz = .int .u32 ((stg R inn last k : Nat) : Int), fun zz _ => zz = .int .u32 ((orTo R (stg R inn last k) 32 : Nat) : Int), fun zz _ => zz = .int .u32 (inn : Int), fun zz _ => zz = .int .u32 ((stg R inn last (k + 1) : Nat) : Int)] 11 [0] (by kernel_rfl) (by kernel_rfl) ⟨rfl, rfl, rfl, trivial⟩ [false, false, false, false, false, false, false, false, false, false, false] ?_ ?_ ?_ ?_
      · intro i hi
        obtain rfl := List.mem_singleton.1 hi
        refine ⟨rfl, fun o ks ho hk aa ww hb he hd => ?_⟩
        cases ho
        cases hk
        exact ⟨by simp [Region.wanted], _, fun _ _ => rfl, he.1⟩
      · exact ⟨fun _ _ _ h _ => h, fun _ _ _ h _ => h, fun _ _ _ h _ => h, fun _ _ _ h _ => h, fun _ _ _ h _ => h, fun _ _ _ h _ => h, fun _ _ _ h _ => h, fun _ _ _ h _ => h, fun _ _ _ h _ => h, fun _ _ _ h _ => h, fun _ _ _ h _ => h, trivial⟩
      · refine ⟨?_, ?_, ?_, ?_, ?_, ?_, ?_, ?_, ?_, ?_, ?_, trivial⟩
        · exact fun aa ww hb he hd => ob_plain rfl (gives_move _ rfl ⟨he.1, Below.refl _ _⟩)
        · exact fun aa ww hb he hd => ob_plain rfl (load_row9 rfl hR rfl he.2.1 (HB.out.below hb hrl))
        · exact fun aa ww hb he hd => ob_plain rfl (gives_move _ rfl ⟨he.1, Below.refl _ _⟩)
        · exact fun aa ww hb he hd => ob_plain rfl (gives_move _ rfl ⟨he.1, Below.refl _ _⟩)
        · exact fun aa ww hb he hd => ob_plain rfl (len_c Tryd.underlying22 rfl hd.1)
        · exact fun aa ww hb he hd => ob_plain rfl (pred_c (by omega) rfl hd.1)
        · exact fun aa ww hb he hd => ob_plain rfl (idx_es (Nat.lt_succ_self k) rfl hd.1 hd.2.1)
        · exact fun aa ww hb he hd => ob_plain rfl (load_u rfl hd.1 ((hb.cell (p := ad.add k) (by rw [block_of_add]; exact hb1)).trans hcell))
        · exact fun aa ww hb he hd => ob_plain rfl (gives_call2 _ _ _ _ rfl (by kernel_rfl) (by
            rw [show aa.eval (.tmp 23) = .agg (urow R) from hd.1, show aa.eval (.tmp 29) = .int .u32 ((stg R inn last k : Nat) : Int) from hd.2.1]
            exact (around_any 0 R _ ww hR HRB.out hsk).mono (by rintro e w' ⟨rfl, hw'⟩; exact ⟨_, rfl, rfl, hw'⟩)))
        · exact fun aa ww hb he hd => ob_plain rfl (gives_move _ rfl ⟨he.2.2.1, Below.refl _ _⟩)
        · exact fun aa ww hb he hd => ob_plain rfl (and_c (orTo_lt9 HRB.out _ 32) hi rfl hd.1 hd.2.1)
      intro vs w5 hb hR5 hN
      have e0 : vs 0 = .slice (some ad) (k + 1) c3 := hR5 0 (by omega)
      have e10 : vs 10 = .int .u32 ((stg R inn last (k + 1) : Nat) : Int) := hR5 10 (by omega)
      clear hN hR5
      simp only [putsL, Nat.zero_add, Nat.reduceAdd, List.take_succ_cons, List.take_zero, Act.put, List.setIfInBounds_toArray, List.set_cons_zero, List.set_cons_succ]
      rw [e0, e10]
      clear e0 e10
      have H5 := Lib.hid (HI.out.new hb); clear hb
      show wpAny _ _ _ _ 3 _ _ _
      refine wpAny_next (i := 11) (by kernel_rfl) rfl rfl (bs_u rfl rfl ?_)
      simp only [Act.put, List.setIfInBounds_toArray, List.set_cons_zero, List.set_cons_succ]
      refine wpAny_next (i := 12) (by kernel_rfl) rfl rfl (app_wp rfl _ _ rfl (w.heap.size + 1) (.slice (some ad) (k + 1) c3) (stL R inn last (k + 1)) rfl (by rw [stL_len]; have := World.ownsRow.alloc H5.out.2.1 (.cells #[.int .u32 ((stg R inn last (k + 1) : Nat) : Int)] 42); rwa [stL_len] at this) w5.heap.size (stg R inn last (k + 1)) rfl (Blk.new _ _ _) (by rw [stL_len]; omega) (by have := H5.out.2.2.2; simp; omega) ?_)
      intro v' w7 hown' hgr hor
      have HU := Lib.hid ((H5.out.new (al w5 _)).app hown' hgr); clear hown' hgr hor
      simp only [Act.put, List.setIfInBounds_toArray, List.set_cons_zero, List.set_cons_succ]
      refine wpAny_next (i := 13) (by kernel_rfl) rfl rfl (wp_assign 11 (.tmp 34) rfl rfl v' rfl ?_)
      refine wpAny_end (by kernel_rfl) (calm_normal ?_) _
      simp only [Act.put, List.setIfInBounds_toArray, List.set_cons_zero, List.set_cons_succ]
      go_wp2_with fail
      exact ⟨⟨k + 1, by go_num, by omega, HU⟩, by simp [intOf]; omega⟩
    · obtain rfl : len = k + 1 := by omega
      have HO := Lib.hid (show wr.ownsRow (w.heap.size + 1) 42 1 (.slice A3 (k + 1) c3) (k + 1) (U32 (stL R inn last (k + 1))) from by have h := HI.out.2.1; rwa [stL_len] at h)
      obtain ⟨g, cap, he⟩ := ownsRow_succ HO.out
      cases he
      go_wp2_with fail
      refine (back_any _ _ _ _).mono ?_
      rintro e w9 ⟨rfl, rfl⟩
      go_wp2_with fail
      obtain ⟨va, hva⟩ : ∃ va : Nat → Nat, ∀ j, va j = stg R inn last (k + 1 - 1 - j) := ⟨_, fun _ => rfl⟩
      obtain ⟨ia, hia⟩ : ∃ ia : Nat → Int, ∀ j, ia j = ((k + 1 - 1 - j : Nat) : Int) := ⟨_, fun _ => rfl⟩
      obtain ⟨P, hP⟩ : ∃ P, P = wr.heap.size := ⟨_, rfl⟩
      have hwP : w.heap.size < P := by rw [hP]; exact HI.out.1.lt
      have hgP : g < P := by rw [hP]; exact (hes.at_ (k := 0) (by omega)).elim fun ad h => by obtain ⟨h1, h2, _⟩ := h; cases h1; exact h2
      have hcs : ∀ j, j < k + 1 → wr.cell? ⟨g, 0 + j, none⟩ = some (.int .u32 (nth (stL R inn last (k + 1)) j : Nat)) := fun j hj => by
        obtain ⟨ad, h1, h2, h3⟩ := hes.at_ hj
        cases h1
        have ea : (Addr.add ⟨g, 0, none⟩ j) = ⟨g, 0 + j, none⟩ := by unfold Addr.add; split <;> simp_all
        rw [← h3, ea]
      have hB0 : Below P wr (((wr.alloc (.cells #[.int .i64 (f : Int)] 3)).alloc (.cells #[.slice (some ⟨wr.heap.size, 0, none⟩) 1 1] 33)).alloc (.cells #[.slice (some ⟨g, 0, none⟩) (k + 1) c3] 22)) := by
        rw [hP]; exact bthen (bthen (al wr _) (al _ _) (by simp)) (al _ _) (by simp; omega)
      have hb1 : Boxed (((wr.alloc (.cells #[.int .i64 (f : Int)] 3)).alloc (.cells #[.slice (some ⟨wr.heap.size, 0, none⟩) 1 1] 33)).alloc (.cells #[.slice (some ⟨g, 0, none⟩) (k + 1) c3] 22)) (P + 1) 33 (.slice (some ⟨P, 0, none⟩) 1 1) := by
        have h := (Boxed.new (wr.alloc (.cells #[.int .i64 (f : Int)] 3)) 33 (.slice (some ⟨wr.heap.size, 0, none⟩) 1 1)).alloc (.cells #[.slice (some ⟨g, 0, none⟩) (k + 1) c3] 22)
        rw [World.size_alloc, ← hP] at h; rw [hP] at h ⊢; exact h
      have hb2 : Boxed (((wr.alloc (.cells #[.int .i64 (f : Int)] 3)).alloc (.cells #[.slice (some ⟨wr.heap.size, 0, none⟩) 1 1] 33)).alloc (.cells #[.slice (some ⟨g, 0, none⟩) (k + 1) c3] 22)) (P + 1 + 1) 22 (.slice (some ⟨g, 0, none⟩) (k + 1) c3) := by
        have h := Boxed.new ((wr.alloc (.cells #[.int .i64 (f : Int)] 3)).alloc (.cells #[.slice (some ⟨wr.heap.size, 0, none⟩) 1 1] 33)) 22 (.slice (some ⟨g, 0, none⟩) (k + 1) c3)
        rw [World.size_alloc, World.size_alloc] at h; rw [hP]; exact h
      have hr0 : World.ownsRow (((wr.alloc (.cells #[.int .i64 (f : Int)] 3)).alloc (.cells #[.slice (some ⟨wr.heap.size, 0, none⟩) 1 1] 33)).alloc (.cells #[.slice (some ⟨g, 0, none⟩) (k + 1) c3] 22)) P 3 1 (.slice (some ⟨P, 0, none⟩) 1 1) 1 [.int .i64 (f : Int)] := by
        rw [hP]; exact own_below (own_below (own_one wr 3 (.int .i64 (f : Int)) rfl) (al _ _)) (al _ _)
      have hsz : (((wr.alloc (.cells #[.int .i64 (f : Int)] 3)).alloc (.cells #[.slice (some ⟨wr.heap.size, 0, none⟩) 1 1] 33)).alloc (.cells #[.slice (some ⟨g, 0, none⟩) (k + 1) c3] 22)).heap.size = P + 1 + 1 + 1 := by rw [hP]; simp
      rw [← hP] at hB0 hb1 hb2 hr0 hsz ⊢
      generalize (((wr.alloc (.cells #[.int .i64 (f : Int)] 3)).alloc (.cells #[.slice (some ⟨P, 0, none⟩) 1 1] 33)).alloc (.cells #[.slice (some ⟨g, 0, none⟩) (k + 1) c3] 22)) = w5 at *
      have HB0 := Lib.hid hB0; have HB1 := Lib.hid hb1; have HB2 := Lib.hid hb2; have HR0 := Lib.hid hr0; have HCS := Lib.hid hcs; clear hb1 hb2 hr0 hcs
      have hl1 : P ≤ w5.heap.size := by omega
      have hl2 : P + 1 + 1 < w5.heap.size := by omega
      have hl3 : g < w5.heap.size := by omega
      have HP := Lib.hid hP; have HVA := Lib.hid hva; have HIA := Lib.hid hia; have HSZ := Lib.hid hsz
      have HGW := Lib.hid (hG.new HI.out.2.2.1)
      clear hP hva hia hsz hB0
      obtain ⟨i0, hi0, hz0, hz1, hz2⟩ := info_parts info_int
      refine (wpIn_wide (n := 5)).1 ?_
      refine wpIn_rangeFunc_ix rfl (by decide) (gf := 56) (lb := #[.pointer (some ⟨P + 1 + 1, 0, none⟩)]) rfl trivial (enters_of Tryd.func56 (by kernel_rfl) rfl)
        (back_ix2 4 (by decide) (P + 1 + 1) g 0 (k + 1) c3 (stL R inn last (k + 1)) ia va HIA.out (fun j => by rw [HVA.out, stL_nth R inn last (by omega)]) (by omega) (KpW P (P + 1 + 1)) w5 (fun A B h hx => h.2 _ hx) (fun A B j u h hx => (h.1.cell (p := ⟨g, 0 + j, none⟩) hgP).trans hx) hl3 hl2 HB2.out.cell (fun j hj => (HB0.out.cell (p := ⟨g, 0 + j, none⟩) hgP).trans (HCS.out j hj)))
        KpW.trans (KpW.put hl1) (Below.refl _ _) (fun _ => rfl)
        (fun j W => (∃ v, Boxed W (P + 1) 33 v ∧ W.ownsRow P 3 1 v (j + 1) (I64 (ints (wkL (stg R inn last) R (k + 1) f j))) ∧ True) ∧ (Below P wr W ∧ Boxed W (P + 1 + 1) 22 (.slice (some ⟨g, 0, none⟩) (k + 1) c3)))
        (OwnFrom.and (Own.from (holdsRow_own P (P + 1) 33 3 1 (fun j => j + 1) (fun j => I64 (ints (wkL (stg R inn last) R (k + 1) f j))) (fun _ _ => True)) _) (OwnFrom.and (ownFrom_below (Nat.le_of_eq HP.out) hl1) (Own.from (boxed_own (P + 1 + 1) 22 (fun _ => .slice (some ⟨g, 0, none⟩) (k + 1) c3)) _)))
        ⟨⟨_, HB1.out, HR0.out, trivial⟩, HB0.out, HB2.out⟩
        (fun j => { tmps := #[.agg (urow R), .int .u32 (inn : Int), .int .i64 (f : Int), .int .u32 (last : Int), .int .i64 ((k : Int) + 1), .pointer (some ⟨w.heap.size, 0, none⟩), undef, undef, undef, undef, .slice none 0 0, .slice (some ⟨g, 0, none⟩) (k + 1) c3, .pointer (some ⟨P + 1, 0, none⟩), undef, .int .u32 (va j : Nat), undef, .int .u32 (last : Int), .slice (some ⟨w.heap.size + 1, 0, none⟩) 1 1, .int .i64 ((k : Int) + 1), .int .i64 (k : Int), .int .i64 (k : Int), .bool false, u22, u23, u24, u25, u26, u27, u28, u29, u30, u31, u32, u33, u34, u35, .int .i64 (f : Int), .slice (some ⟨P, 0, none⟩) 1 1, .slice (some ⟨g, 0, none⟩) (k + 1) c3, .func (.func 56) #[] #[.pointer (some ⟨P + 1 + 1, 0, none⟩)], .int .i64 (ia j), .int .u32 (va j : Nat), undef, undef, undef, undef, undef, undef, undef, undef, undef, undef, undef, undef, undef, undef, undef, undef], defers := [] }) ?assign ?body ?done
      case assign =>
        intro l j W K hK
        gi_wp2
        exact hK
      case body =>
        rintro l j W ⟨⟨v, hv, hrow, _⟩, hB, hQ⟩ hlt
        have HWC := Lib.hid (HWL.out j (by omega))
        obtain ⟨g2, cap2, he2⟩ := ownsRow_succ hrow
        subst he2
        obtain ⟨A4, c4, he4, hxs⟩ := Xs.of_own (L := ints (wkL (stg R inn last) R (k + 1) f j)) hrow (wkL_bd (fun i hi => HWL.out i (by omega)))
        cases he4
        obtain ⟨ad, ha1, ha2, hcur⟩ := hxs.at_ (k := j) (by omega)
        cases ha1
        rw [inth_ints (by rw [wkL_len]; omega), wkL_last] at hcur
        have ea : (Addr.add ⟨g2, 0, none⟩ j) = ⟨g2, j, none⟩ := by unfold Addr.add; split <;> simp_all
        rw [ea] at hcur
        clear ea
        have HKEEP := Lib.hid (wkL_succ (stg R inn last) R (k + 1) f j)
        have HNZ := Lib.hid (HOK.out j hlt)
        have hvj : va j < 4294967296 := by rw [HVA.out]; exact HST.out _
        have HNX := Lib.hid (show wkC (stg R inn last) R (k + 1) f (j + 1) = lowb (va j &&& nth R (wkC (stg R inn last) R (k + 1) f j)) by rw [HVA.out]; rfl)
        rw [← HVA.out j] at HNZ
        generalize wkC (stg R inn last) R (k + 1) f j = cu at *
        have hcl := HWC.out
        have hRc : W.cell? ⟨w.heap.size, cu, none⟩ = some (.int .u32 (nth R cu : Int)) := by
          rw [hB.cell (p := ⟨w.heap.size, cu, none⟩) hwP, HI.out.1.cell, urow_get (by omega)]
        have hnr : nth R cu < 4294967296 := HRB.out _ (nth_mem (by omega))
        have han : bits .and .u32 ((va j : Nat) : Int) (nth R cu : Int) = ((va j &&& nth R cu : Nat) : Int) := bits_and _ _ hvj hnr
        have hy : va j &&& nth R cu < 4294967296 := Nat.lt_of_le_of_lt Nat.and_le_left hvj
        obtain ⟨y, hyy⟩ : ∃ y, y = va j &&& nth R cu := ⟨_, rfl⟩
        rw [← hyy] at hy han HNZ HNX
        have HY := Lib.hid hyy; clear hyy
        obtain ⟨z1, z2, z3⟩ := lowb_spec hy HNZ.out
        have HZ3 := Lib.hid z3; have HZ2 := Lib.hid z2; clear z3 z2
        have HGT := Lib.hid (HGW.out.below hB (by omega))
        have hc := hv.cell
        have hwl := hv.lt
        have i1 : (0 : Int) ≤ (cu : Int) := by omega
        have i2 : (cu : Int) < 32 := by omega
        generalize lowb y = t at *
        gi_wp2_with (first
          | (refine ⟨trivial, ?_⟩; gi_at_call 52; refine (CallsIn.inRound l (callsIn_wide.2 (tz_any y t W HGT.out hy z1 HZ2.out HZ3.out))).mono ?_; rintro e w2 ⟨rfl, rfl⟩)
          | (gi_at_builtin; refine wpListIn_append_own _ rfl _ _ 33 rfl P 3 i0 (.int .i64 0) 1 8 Tryd.underlying33 hi0 hz0 hz1 hz2 rfl (by decide) _ _ _ rfl (hrow.alloc _) ⟨W.heap.size, 0, none⟩ 1 1 [.int .i64 (t : Int)] rfl rfl (cell_one_new _ _ _) (by simp [Value.oneCell']) (by simp only [maxLen]; omega) (by omega) (by simp; omega) ?_; intro v' w1 hown' hgrow _; obtain ⟨g', cap', rfl⟩ := ownsRow_succ hown'; obtain ⟨hv1, hv2, hr2, hk2, hb2⟩ := hv.appended (by decide) hrow (by omega) (by omega) hown' hgrow; have hc1 := hv1.cell; have hf1 := hv1.frozen; have hq1 := ((hQ.alloc _).kept hgrow (hQ.not_row (by decide) hrow)).other (B' := P + 1) (by omega) (.slice (some ⟨g', 0, none⟩) (j + 1 + 1) cap')))
        exact ⟨hk2.from _, ⟨hb2, fun x hx => by rw [hQ.cell] at hx; cases hx; exact hq1.cell⟩, ⟨⟨_, hv2, by
          rw [HKEEP.out, ints_snoc, HNX.out]
          simpa [I64] using hr2, trivial⟩, hB.trans hb2, hq1⟩⟩
      case done =>
        rintro D W hD ⟨⟨v, hv, hrow, _⟩, hB, _⟩ hK
        have hc := hv.cell
        go_wp2_with fail
        refine ⟨by simp, .inl ⟨_, _, rfl, run_takeDeferred hK, ?_⟩⟩
        exact ⟨_, results_tmp rfl _ _ _, v, rfl, own_lower (ownsRow_putObj hrow _ hK rfl) (by omega), (HI.out.2.2.1.trans (hB.mono (by omega))).trans (belowK_b (w := w5) (by omega) W D _ _ hD hK rfl rfl)⟩

end Go.Proofs.YtjofdlafblpclaaDoor
