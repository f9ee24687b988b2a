/-
  The walk of the law TrioFills.
-/
import Derived.Test.YtdagdamliggfmaaFill
import Derived.Test.YtdagdamliggfmaaAwake
import Derived.Deep.RegionLaw
namespace Go.Proofs.Ytdagdamliggfmaa
open Go.RowKit

theorem own_lower {w : World} {base base' : Nat} {e : TypeId} {size n : Nat} {v : Value} {xs : List Value} (h : w.ownsRow base e size v n xs) (hb : base' ≤ base) : w.ownsRow base' e size v n xs := by
  refine ⟨h.1, ?_⟩
  rcases h.2 with h0 | ⟨g', cap, cur, rfl, h1, h2⟩
  · exact .inl h0
  · exact .inr ⟨g', cap, cur, rfl, Nat.le_trans hb h1, h2⟩
/-- A row keeps what it holds where only another row, of another element type, has grown. -/
theorem own_grown_own {w w' : World} {base base' : Nat} {e e' : TypeId} {size size' n n' : Nat} {v v' : Value} {xs xs' : List Value} (h : w.ownsRow base e size v n xs) (h' : w.ownsRow base' e' size' v' n' xs') (hne : e ≠ e') (hg : w.grownBy w' v'.ownBlock) : w'.ownsRow base e size v n xs := by
  refine ⟨h.1, ?_⟩
  rcases h.2 with h0 | ⟨g, cap, cur, rfl, h1, h2, h3⟩
  · exact .inl h0
  · refine .inr ⟨g, cap, cur, rfl, h1, ?_, h3⟩
    refine (hg.block g (Blk.lt' h2) ?_).trans h2
    rcases h'.2 with ⟨rfl, _⟩ | ⟨g', cap', cur', rfl, _, h2', _⟩
    · simp [Value.ownBlock]
    · simp only [Value.ownBlock]
      intro he
      injection he with he
      subst he
      rw [h2] at h2'
      injection h2' with h2'
      injection h2' with _ ht
      exact hne ht

set_option maxHeartbeats 1000000 in
theorem fills_far (n f : Int) (A : Option Addr) (es : List Nat) (len c : Nat) (w : World) (hr : Es w w.heap.size A len es) (h : fewB n es = false ∨ n = 0) :
    Calls Try.prog 5 #[.agg #[.int .i64 n, .slice A len c], .int .u8 f] w fun e w' => e = .returned (.bool true) ∧ Below w.heap.size w w' := by
  have HR := Lib.hid hr; clear hr
  have HW := Lib.hid (al w (.cells #[.int .i64 n, .slice A len c] 24))
  have HG := Lib.hid (GB.made w 24 (.int .i64 n) (.slice A len c))
  cases hf : fewB n es with
  | false =>
    have HF := Lib.hid hf; clear hf h
    go_enter Try.func5, Try.ntmps5
    go_wp2_with fail
    refine (few_any n A es len c _ (HR.out.new HW.out)).mono ?_
    rintro e w1 ⟨rfl, hb⟩
    rw [HF.out]
    have HB := Lib.hid (bthen HW.out hb (by simp)); clear hb
    go_wp2_with fail
    refine (awake_any _).mono ?_
    rintro e w2 ⟨rfl, hb⟩
    have HB2 := Lib.hid (bthen HB.out hb HB.out.size); clear hb
    go_wp2_with fail
    go_ret
    exact ⟨rfl, HB2.out⟩
  | true =>
    have hn : n = 0 := by rw [hf] at h; simpa using h
    have hn0 : (n == 0) = true := by rw [hn]; rfl
    have HF := Lib.hid hf; clear hf h hn
    go_enter Try.func5, Try.ntmps5
    go_wp2_with fail
    refine (few_any n A es len c _ (HR.out.new HW.out)).mono ?_
    rintro e w1 ⟨rfl, hb⟩
    rw [HF.out]
    have HB := Lib.hid (bthen HW.out hb (by simp))
    have g0 := (HG.out.new hb).c0
    clear hb
    go_wp2_with fail
    refine (awake_any _).mono ?_
    rintro e w2 ⟨rfl, hb⟩
    have HB2 := Lib.hid (bthen HB.out hb HB.out.size); clear hb
    go_wp2_with fail
    go_ret
    exact ⟨rfl, HB2.out⟩

theorem checkCode_mk {n : Nat} {es : List Nat} (h1 : n ≤ 32) (h2 : es.length ≤ 64) (h3 : ∀ e ∈ es, e < 2 ^ n) : checkCode n es = 0 := by
  rw [checkCode, if_neg (by omega), if_neg (by omega), if_pos]
  rw [List.all_eq_true]
  intro e he
  simpa using h3 e he
theorem fillE_take {l : List (Nat × Nat × Nat)} {j : Nat} (h : j < l.length) : fillE (l.take (j + 1)) = fillE (l.take j) ++ [2 ^ (tnth l j).1 ||| 2 ^ (tnth l j).2.1] := by
  rw [List.take_succ_eq_append_getElem h, fillE, List.map_append, ← tnth_eq h]; rfl
/-- What stands at the head of the law's loop. -/
def FillSt (w : World) (n : Nat) (gx : Nat) (v : Value) (es : List Nat) (wr : World) : Prop :=
  GB wr gx 24 (.int .i64 n) v ∧ wr.ownsRow (w.heap.size + 1) 35 1 v es.length (U32 es) ∧ Below w.heap.size w wr ∧ w.heap.size + 1 ≤ gx ∧ w.heap.size + 1 ≤ wr.heap.size

theorem keepG {w1 w' : World} {g : Nat} {t : TypeId} {x y : Value} (h : GB w1 g t x y) (hb : Below w1.heap.size w1 w') : (w'.cell? ⟨g, 0, none⟩ = some x ∧ w'.cell? ⟨g, 1, none⟩ = some y) ∧ Below w1.heap.size w1 w' := ⟨⟨(h.new hb).c0, (h.new hb).c1⟩, hb⟩

set_option maxRecDepth 100000 in
set_option maxHeartbeats 4000000 in
theorem fills_main (n f : Nat) (A : Option Addr) (es : List Nat) (len c : Nat) (w : World) (hr : Es w w.heap.size A len es) (hf : fewB n es = true) (hn : 0 < n) (hf2 : f ≤ 255) :
    Calls Try.prog 5 #[.agg #[.int .i64 n, .slice A len c], .int .u8 f] w fun e w' => e = .returned (.bool true) ∧ Below w.heap.size w w' := by
  obtain ⟨_, hn6, hl8, hcc⟩ := of_decide_eq_true hf
  obtain ⟨_, _, _, hbd⟩ := checkCode_zero hcc
  have hlen := hr.len
  have hlen8 : len ≤ 8 := by omega
  have HLEN := Lib.hid hlen; clear hlen
  have HBD := Lib.hid hbd; clear hbd hcc
  have HR := Lib.hid hr; clear hr
  have HF := Lib.hid hf; clear hf
  have hn0 : ((n : Int) == 0) = false := by simp; omega
  have HW := Lib.hid (al w (.cells #[.int .i64 n, .slice A len c] 24))
  have HG := Lib.hid (GB.made w 24 (.int .i64 n) (.slice A len c))
  go_enter Try.func5, Try.ntmps5
  go_wp2_with fail
  refine (few_any n A es len c _ (HR.out.new HW.out)).mono ?_
  rintro e w1 ⟨rfl, hb⟩
  rw [HF.out]
  have HB := Lib.hid (bthen HW.out hb (by simp))
  have HG1 := Lib.hid (HG.out.new hb); clear hb
  have g0 := HG1.out.c0; have g1 := HG1.out.c1
  have glt := HG1.out.lt
  go_wp2_with fail
  clear hn0
  go_cut [6] (fun p6 wx => ∃ gx A' c', p6 = .pointer (some ⟨gx, 0, none⟩) ∧ Hid (FillSt w n gx (.slice A' len c') es wx ∧ GB wx w.heap.size 24 (.int .i64 n) (.slice A len c)))
  case first =>
    go_region_held3 (fun w' => (w'.cell? ⟨w.heap.size, 0, none⟩ = some (.int .i64 n) ∧ w'.cell? ⟨w.heap.size, 1, none⟩ = some (.slice A len c)) ∧ Below w1.heap.size w1 w')
      ((refine keepG HG1.out ?_; first | exact (Below.refl _ _).drew | exact Hid.out ‹_› | exact Below.alloc (And.right ‹_ ∧ Below w1.heap.size w1 _›) (Below.size (And.right ‹_ ∧ Below w1.heap.size w1 _›)) _ | exact Below.alloc HB2.out HB2.out.size _ | exact Below.setCell (p := ⟨w1.heap.size, 1, none⟩) (Below.setCell (p := ⟨w1.heap.size, 0, none⟩) HB2.out (Nat.le_refl _) _) (Nat.le_refl _) _))
      (first
        | (go_at_call 23; refine (clone_u32 A es len c _ (HR.out.new (bthen HB.out (And.right ‹_ ∧ Below w1.heap.size w1 _›) HB.out.size)) (by omega)).mono ?_; rintro e w2 ⟨A', c', rfl, hown, hb⟩; have hx : GB w2 w1.heap.size 24 (.int .i64 0) (.slice none 0 0) := GB.new (GB.made w1.drew _ _ _) hb; have x0 := hx.c0; have x1 := hx.c1; have f0 := hx.f0; have f1 := hx.f1; have HX := Lib.hid hx; clear hx; have HB2 := Lib.hid (bthen (And.right ‹_ ∧ Below w1.heap.size w1 _›) hb (Below.size (And.right ‹_ ∧ Below w1.heap.size w1 _›))); have HO2 := Lib.hid hown; have hz2 := HB2.out.size; clear hb hown)
        | (go_at_call 23; refine (clone_u32 A es len c _ (HR.out.new (bthen HB.out (And.right ‹_ ∧ Below w1.heap.size w1 _›) HB.out.size)) (by omega)).mono ?_; rintro e w2 ⟨A', c', rfl, hown, hb⟩; have HB2 := Lib.hid (bthen (And.right ‹_ ∧ Below w1.heap.size w1 _›) hb (Below.size (And.right ‹_ ∧ Below w1.heap.size w1 _›))); have HO2 := Lib.hid hown; have hz2 := HB2.out.size; clear hb hown))
    · go_wp2_with fail
      go_meet
      refine ⟨w2.heap.size, A', c', rfl, Lib.hid ⟨⟨GB.made _ _ _ _, ?_, ?_, by omega, by simp; omega⟩, ?_⟩⟩
      · have h := own_lower (base' := w.heap.size + 1) HO2.out glt
        rw [HLEN.out] at h ⊢
        exact h.alloc _
      · exact (bthen HB.out HB2.out HB.out.size).alloc (by omega) _
      · exact (HG1.out.new HB2.out).alloc _
    · go_wp2_with fail
      go_meet
      refine ⟨w1.heap.size, A', c', rfl, Lib.hid ⟨⟨(HX.out.set0 _).set1 _, ?_, ?_, glt, by simp [World.setCell]; omega⟩, ?_⟩⟩
      · have h := own_lower (base' := w.heap.size + 1) HO2.out (by simp; omega)
        rw [HLEN.out] at h ⊢
        exact own_far (own_far h HX.out.blk (by decide) 0 _) (HX.out.set0 _).blk (by decide) 1 _
      · exact ((bthen HB.out HB2.out HB.out.size).setCell (p := ⟨w1.heap.size, 0, none⟩) (by show w.heap.size ≤ w1.heap.size; omega) _).setCell (p := ⟨w1.heap.size, 1, none⟩) (by show w.heap.size ≤ w1.heap.size; omega) _
      · exact ((HG1.out.new HB2.out).far (p := ⟨w1.heap.size, 0, none⟩) (by show w.heap.size ≠ w1.heap.size; omega) _).far (p := ⟨w1.heap.size, 1, none⟩) (by show w.heap.size ≠ w1.heap.size; omega) _
  case rest =>
    obtain ⟨gx, A', c', rfl, HC⟩ := hcut
    have g0 := HC.out.2.c0
    have hnn : n * n ≤ 36 := Nat.mul_le_mul (show n ≤ 6 by omega) (show n ≤ 6 by omega)
    have hni : (0 : Int) ≤ (n : Int) * (n : Int) := by exact_mod_cast Nat.zero_le (n * n)
    have hnj : (n : Int) * (n : Int) ≤ 36 := by exact_mod_cast hnn
    clear HG1 HB HG HW
    go_wp2_with fail
    clear g0
    obtain ⟨m, hm⟩ : ∃ m, m = f % (n + 1) := ⟨_, rfl⟩
    have hmn : m ≤ n := by have := Nat.mod_lt f (show 0 < n + 1 by omega); omega
    rw [show ((f : Int) % ((n : Int) + 1)) = (m : Int) by rw [hm]; push_cast; rfl, show ((n : Int) * (n : Int)) = ((n * n : Nat) : Int) by push_cast; rfl]
    clear hm hni hnj
    have HNN := Lib.hid (fun fs => cnt_lt fs hn)
    generalize hq : n * n = q at *
    have HQ := Lib.hid hq; clear hq
    go_loopw [7, 9, 11, 38, 49, 75] (fun _ _ _ i _ _ wr => ∃ (k : Nat) (fs : List Nat) (A' : Option Addr) (c' : Nat), i = .int .i64 k ∧ Hid (FillSt w n gx (.slice A' fs.length c') fs wr ∧ k ≤ cnt fs n ∧ fs.length ≤ 64 ∧ ∀ e ∈ fs, e < 2 ^ n)) (fun _ _ _ i _ _ _ => q - (intOf i).toNat)
    case atStart =>
      refine ⟨0, es, A', c', rfl, Lib.hid ⟨?_, Nat.zero_le _, by omega, by simpa using HBD.out⟩⟩
      have h := HC.out.1
      rw [HLEN.out] at h
      exact h
    case round =>
      obtain ⟨k, fs, A2, c2, rfl, HI⟩ := hrel
      clear HC HR HBD HLEN HF
      have hk : k < q := by have h1 := HI.out.2.1; have h2 := HNN.out fs; omega
      have h64 := HI.out.2.2.1
      have hall : ∀ e ∈ fs, e < 4294967296 := fun e he => Nat.lt_of_lt_of_le (HI.out.2.2.2 e he) (Nat.le_trans (two_pow_le (show n ≤ 32 by omega)) (by decide))
      have hcc := checkCode_mk (show n ≤ 32 by omega) h64 HI.out.2.2.2
      have hvl : validB n fs m = true := decide_eq_true ⟨hcc, by omega, by omega⟩
      have HES := Lib.hid (show Es wr wr.heap.size A2 fs.length fs from ⟨Reads.of_own HI.out.1.2.1, ⟨rfl, by omega⟩, hall⟩)
      obtain ⟨L, hL⟩ : ∃ L, L = rtrios fs m := ⟨_, rfl⟩
      have HAL := Lib.hid (show allTrios n fs m = L by simp [allTrios, hvl, hL, trios_eq hall (show m ≤ 32 by omega)])
      have hLl : L.length ≤ 32768 := by rw [hL]; exact rtrios_length fs (by omega)
      have HLR := Lib.hid hL; clear hL hcc hvl hall
      have g0 := HI.out.1.1.c0; have g1 := HI.out.1.1.c1
      have glx := HI.out.1.1.lt
      go_wp2_with fail
      refine (all_own n m A2 fs fs.length c2 _ HES.out).mono ?_
      rintro e w3 ⟨A1, c1, rfl, hown, hb⟩
      rw [HAL.out] at hown ⊢
      have HST := Lib.hid (show FillSt w n gx (.slice A2 fs.length c2) fs w3 from ⟨HI.out.1.1.new hb, own_below HI.out.1.2.1 hb, bthen HI.out.1.2.2.1 hb HI.out.1.2.2.1.size, HI.out.1.2.2.2.1, Nat.le_trans HI.out.1.2.2.2.2 hb.size⟩)
      have HOW := Lib.hid (own_lower (base' := w.heap.size + 1) hown (Nat.le_trans HI.out.1.2.2.2.2 (Nat.le_succ _)))
      clear hb hown g0 g1
      rcases Nat.eq_zero_or_pos L.length with h0 | h0
      · have ht : ((L.length : Int) == 0) = true := by rw [h0]; rfl
        clear h0
        go_wp2_with fail
        refine (awake_any _).mono ?_
        rintro e w4 ⟨rfl, hb⟩
        have HB4 := Lib.hid (bthen HST.out.2.2.1 hb HST.out.2.2.1.size); clear hb
        go_wp2_with fail
        go_ret
        exact ⟨rfl, HB4.out⟩
      · have ht : ((L.length : Int) == 0) = false := by rw [beq_eq_false_iff_ne]; omega
        go_wp2_with fail
        clear ht
        obtain ⟨wo, rfl⟩ : ∃ wo : World, wo = w3 := ⟨_, rfl⟩
        go_loopw [9, 49] (fun _ i wr => ∃ (j : Nat) (hs : List Nat) (A3 : Option Addr) (c3 : Nat), j ≤ L.length ∧ i = .int .i64 j ∧ Hid (FillSt w n gx (.slice A3 hs.length c3) hs wr ∧ hs = fs ++ fillE (L.take j) ∧ wr.ownsRow (w.heap.size + 1) 40 3 (.slice A1 L.length c1) L.length (I3 L))) (fun _ i _ => L.length - (intOf i).toNat)
        case atStart => exact ⟨0, fs, A2, c2, Nat.zero_le _, rfl, Lib.hid ⟨HST.out, by simp [fillE], HOW.out⟩⟩
        case round =>
          obtain ⟨j, hs, A3, c3, hj, rfl, HJ⟩ := hrel
          by_cases hjl : j < L.length
          · have hTs : Ts wr wr.heap.size A1 L.length L := ⟨Reads.of_own HJ.out.2.2, rfl, by omega⟩
            obtain ⟨ad, rfl, hb1, a0, a1, a2⟩ := hTs.at_ hjl
            obtain ⟨⟨ta, tb, tc⟩, htj⟩ : ∃ t, t = tnth L j := ⟨_, rfl⟩
            rw [← htj] at a0 a1 a2
            simp only at a0 a1 a2
            have hl := Lib.hid (run_load3 wr (ad.add (j * 3)) _ _ _ a0 a1 a2)
            have htt : ta < tb ∧ tb < tc ∧ tc < m := by
              have h := mem_rtrios (show tnth L j ∈ rtrios fs m by rw [← HLR.out, tnth_eq hjl]; exact List.getElem_mem _)
              rw [← htj] at h
              unfold isT at h
              rw [Bool.and_eq_true] at h
              exact of_decide_eq_true h.1
            have HTJ := Lib.hid htj; clear htj
            clear a0 a1 a2 hTs
            go_wp2_with (refine wpList_load_at rfl 40 (.tmp 51) rfl (ad.add (j * 3)) rfl _ hl.out ?_)
            clear hl
            obtain ⟨wq, hwq⟩ : ∃ wq : World, wq = wr.alloc (.cells #[.int .i64 ta, .int .i64 tb, .int .i64 tc] 40) := ⟨_, rfl⟩
            rw [← hwq]
            have hbt : Blk wq wr.heap.size 40 #[.int .i64 ta, .int .i64 tb, .int .i64 tc] := by rw [hwq]; exact Blk.new _ _ _
            have hbq : Below wr.heap.size wr wq := by rw [hwq]; exact al _ _
            have hgx := HJ.out.1.1.new hbq
            have t0 : wq.cell? ⟨wr.heap.size, 0, none⟩ = some (.int .i64 ta) := (hbt.cell 0).trans rfl
            have t1 : wq.cell? ⟨wr.heap.size, 1, none⟩ = some (.int .i64 tb) := (hbt.cell 1).trans rfl
            have x1 := hgx.c1; have xf1 := hgx.f1
            have xlt := hgx.lt
            have HX := Lib.hid hgx
            have HO := Lib.hid (own_below HJ.out.1.2.1 hbq)
            have HTO := Lib.hid (own_below HJ.out.2.2 hbq)
            have HBW := Lib.hid (bthen HJ.out.1.2.2.1 hbq HJ.out.1.2.2.1.size)
            have hsq : w.heap.size + 1 ≤ wq.heap.size := Nat.le_trans HJ.out.1.2.2.2.2 hbq.size
            have hgx1 := HJ.out.1.2.2.2.1
            have HEQ := Lib.hid HJ.out.2.1
            have hsl : hs.length ≤ 40000 := by
              rw [HEQ.out, List.length_append, fillE, List.length_map, List.length_take]; omega
            clear hwq hbt hbq hgx HJ
            have hxa : 2 ^ ta < 2 ^ 32 := pow2_lt32 (by omega)
            have hxb : 2 ^ tb < 2 ^ 32 := pow2_lt32 (by omega)
            have HOR := Lib.hid (show bits .or .u32 ((2 : Int) ^ ta % 4294967296) ((2 : Int) ^ tb % 4294967296) = ((2 ^ ta ||| 2 ^ tb : Nat) : Int) by rw [shl_mod ta (by omega), shl_mod tb (by omega), bits_or _ _ hxa hxb])
            clear hxa hxb
            go_region_law (first
              | (refine step_app_u32 rfl _ _ rfl (w.heap.size + 1) (Value.slice A3 hs.length c3) hs rfl (own_drew_alloc HO.out _) wq.heap.size (2 ^ ta ||| 2 ^ tb) rfl (by rw [← HOR.out]; exact Blk.new _ _ _) (by omega) (by simp; omega) ?_; intro v' w4 hown' hgr hor; obtain ⟨A4, c4, rfl⟩ := own_form hown'; have hx4 := GB.appended (HX.out.drew.alloc _) (own_drew_alloc HO.out _) hgr (by decide); have y1 := hx4.c1; have yf1 := hx4.f1; have HX4 := Lib.hid hx4; have HW4 := Lib.hid hown'; have HGR := Lib.hid hgr; clear hown' hgr hor hx4))
            all_goals
              have hL : (hs ++ [2 ^ ta ||| 2 ^ tb]).length = hs.length + 1 := by simp
              have hw := HW4.out
              rw [hL] at hw
              have HWW := Lib.hid hw; clear hw
              have HL := Lib.hid hL; clear hL
              go_wp2_with fail
              refine ⟨⟨j + 1, hs ++ [2 ^ ta ||| 2 ^ tb], A4, c4, by omega, by go_num, Lib.hid ⟨⟨?_, ?_, ?_, hgx1, ?_⟩, ?_, ?_⟩⟩, by simp [intOf]; omega⟩
              · rw [HL.out]; exact HX4.out.set1 _
              · rw [HL.out]; exact own_far HWW.out HX4.out.blk (by decide) 1 _
              · exact (Below.appended (HBW.out.drew.alloc (by have := HBW.out.size; exact this) _) (own_drew_alloc HO.out _) HGR.out (by simp; omega) (by omega)).setCell (p := ⟨gx, 1, none⟩) (by show w.heap.size ≤ gx; omega) _
              · have := HGR.out.size; simp [World.setCell] at this ⊢; omega
              · rw [HEQ.out, fillE_take hjl, ← HTJ.out, List.append_assoc]
              · exact own_far (own_grown_own (own_drew_alloc HTO.out _) (own_drew_alloc HO.out _) (by decide) HGR.out) HX4.out.blk (by decide) 1 _
          · obtain rfl : j = L.length := by omega
            have hEQ := HJ.out.2.1
            rw [List.take_of_length_le (Nat.le_refl _)] at hEQ
            have hsl : hs.length ≤ 40000 := by rw [hEQ, List.length_append, fillE, List.length_map]; omega
            have hbd : ∀ e ∈ hs, e < 2 ^ n := by
              intro e he
              rw [hEQ] at he
              rcases List.mem_append.1 he with h | h
              · exact HI.out.2.2.2 e h
              · rw [HLR.out] at h; exact fillE_lt hmn h
            have hE32 : ∀ e ∈ hs, e < 4294967296 := fun e he => Nat.lt_of_lt_of_le (hbd e he) (Nat.le_trans (two_pow_le (show n ≤ 32 by omega)) (by decide))
            have g0 := HJ.out.1.1.c0; have g1 := HJ.out.1.1.c1; have gf1 := HJ.out.1.1.f1
            have HES3 := Lib.hid (show Es wr wr.heap.size A3 hs.length hs from ⟨Reads.of_own HJ.out.1.2.1, ⟨rfl, by omega⟩, hE32⟩)
            have HEQ := Lib.hid hEQ; clear hEQ
            have HBD3 := Lib.hid hbd; clear hbd hE32
            clear HES HST HOW
            have HADJ := Lib.hid (show ∀ es6 : List Nat, (∀ x y, x < n → y < n → adjB es6 x y = adjB hs x y) → (∀ x y, x < n → y < n → adjB es6 x y = adjB (fs ++ fillE (rtrios fs m)) x y) from fun es6 h x y hx hy => by rw [h x y hx hy, HEQ.out, HLR.out])
            rcases Nat.lt_or_ge 64 hs.length with h64' | h64'
            · go_wp2_with fail
              refine (pairs_any n A3 hs hs.length c3 _ HES3.out (by omega)).mono ?_
              rintro e w5 ⟨A5, c5, rfl, hown, hb⟩
              have hgx := HJ.out.1.1.new hb
              have y1 := hgx.c1; have yf1 := hgx.f1
              have HX5 := Lib.hid hgx; clear hgx
              have HO5 := Lib.hid (own_lower (base' := w.heap.size + 1) hown (Nat.le_trans HJ.out.1.2.2.2.2 (Nat.le_succ _)))
              have HT5 := Lib.hid (own_below HJ.out.2.2 hb)
              have HB5 := Lib.hid (bthen HJ.out.1.2.2.1 hb HJ.out.1.2.2.1.size)
              have hz5 := Nat.le_trans HJ.out.1.2.2.2.2 hb.size
              clear hb hown g0 g1 gf1
              go_wp2_with fail
              obtain ⟨A6, c6, es6, HS6⟩ : ∃ A6 c6 es6, Hid (FillSt w n gx (.slice A6 es6.length c6) es6 (w5.setCell ⟨gx, 1, none⟩ (.slice A5 (pairL hs n).length c5)) ∧ World.ownsRow (w5.setCell ⟨gx, 1, none⟩ (.slice A5 (pairL hs n).length c5)) (w.heap.size + 1) 40 3 (.slice A1 L.length c1) L.length (I3 L) ∧ (∀ x y, x < n → y < n → adjB es6 x y = adjB hs x y) ∧ es6.length ≤ 64 ∧ ∀ e ∈ es6, e < 2 ^ n) := by
                refine ⟨A5, c5, pairL hs n, Lib.hid ⟨⟨HX5.out.set1 _, own_far HO5.out HX5.out.blk (by decide) 1 _, HB5.out.setCell (p := ⟨gx, 1, none⟩) (by have := HJ.out.1.2.2.2.1; show w.heap.size ≤ gx; omega) _, HJ.out.1.2.2.2.1, by simpa [World.setCell] using hz5⟩, own_far HT5.out HX5.out.blk (by decide) 1 _, fun x y hx hy => adjB_pairL hx hy, by have := pairL_length hs (show n ≤ 6 by omega); omega, fun e he => pairL_lt he⟩⟩
              clear y1 yf1 HX5 HO5 HT5 HB5 hz5 HJ HES3
              go_loopw [11, 75] (fun _ i wr => ∃ j : Nat, j ≤ L.length ∧ i = .int .i64 j ∧ Hid (FillSt w n gx (.slice A6 es6.length c6) es6 wr ∧ wr.ownsRow (w.heap.size + 1) 40 3 (.slice A1 L.length c1) L.length (I3 L))) (fun _ i _ => L.length - (intOf i).toNat)
              case atStart => exact ⟨0, Nat.zero_le _, rfl, Lib.hid ⟨HS6.out.1, HS6.out.2.1⟩⟩
              case round =>
                obtain ⟨j, hj, rfl, HJ⟩ := hrel
                by_cases hjl : j < L.length
                · have hTs : Ts wr wr.heap.size A1 L.length L := ⟨Reads.of_own HJ.out.2, rfl, by omega⟩
                  obtain ⟨ad, rfl, hb1, a0, a1, a2⟩ := hTs.at_ hjl
                  have hl := Lib.hid (run_load3 wr (ad.add (j * 3)) _ _ _ a0 a1 a2)
                  have HF6 := Lib.hid (show chkB n es6 m (tnth L j).1 (tnth L j).2.1 (tnth L j).2.2 = false by
                    have hT := fill_isT hmn (HADJ.out es6 HS6.out.2.2.1) (show tnth L j ∈ rtrios fs m by rw [← HLR.out, tnth_eq hjl]; exact List.getElem_mem _)
                    rw [chkB]
                    simp only [Int.toNat_natCast, hT, Bool.and_false])
                  clear a0 a1 a2 hTs
                  have g0 := HJ.out.1.1.c0; have g1 := HJ.out.1.1.c1
                  have glt6 := HJ.out.1.1.lt
                  have HE6 := Lib.hid (show Es wr wr.heap.size A6 es6.length es6 from ⟨Reads.of_own HJ.out.1.2.1, ⟨rfl, by have := HS6.out.2.2.2.1; omega⟩, fun e he => Nat.lt_of_lt_of_le (HS6.out.2.2.2.2 e he) (Nat.le_trans (two_pow_le (show n ≤ 32 by omega)) (by decide))⟩)
                  go_wp2_with (refine wpList_load_at rfl 40 (.tmp 77) rfl (ad.add (j * 3)) rfl _ hl.out ?_)
                  refine (tcheck_any n m _ _ _ A6 es6 es6.length c6 _ (HE6.out.new (al _ _))).mono ?_
                  rintro e w8 ⟨rfl, hb⟩
                  rw [HF6.out]
                  have hb' := bthen (al wr _) hb (by simp)
                  have HJ8 := Lib.hid (show FillSt w n gx (.slice A6 es6.length c6) es6 w8 ∧ w8.ownsRow (w.heap.size + 1) 40 3 (.slice (some ad) L.length c1) L.length (I3 L) from ⟨⟨HJ.out.1.1.new hb', own_below HJ.out.1.2.1 hb', bthen HJ.out.1.2.2.1 hb' HJ.out.1.2.2.1.size, HJ.out.1.2.2.2.1, Nat.le_trans HJ.out.1.2.2.2.2 hb'.size⟩, own_below HJ.out.2 hb'⟩)
                  clear hb hb' g0 g1 glt6 hl
                  go_wp2_with fail
                  exact ⟨⟨j + 1, by omega, by go_num, HJ8⟩, by simp [intOf]; omega⟩
                · go_wp2_with fail
                  refine ⟨⟨k + 1, es6, A6, c6, by go_num, Lib.hid ⟨HJ.out.1, ?_, HS6.out.2.2.2.1, HS6.out.2.2.2.2⟩⟩, by simp [intOf]; omega⟩
                  have h1 := fill_cnt hmn (HADJ.out es6 HS6.out.2.2.1) (by rw [← HLR.out]; intro h; rw [h] at h0; simp at h0)
                  have h2 := HI.out.2.1
                  omega
            · go_wp2_with fail
              obtain ⟨A6, c6, es6, HS6⟩ : ∃ A6 c6 es6, Hid (FillSt w n gx (.slice A6 es6.length c6) es6 (wr) ∧ World.ownsRow (wr) (w.heap.size + 1) 40 3 (.slice A1 L.length c1) L.length (I3 L) ∧ (∀ x y, x < n → y < n → adjB es6 x y = adjB hs x y) ∧ es6.length ≤ 64 ∧ ∀ e ∈ es6, e < 2 ^ n) :=
                ⟨A3, c3, hs, Lib.hid ⟨HJ.out.1, HJ.out.2.2, fun _ _ _ _ => rfl, h64', HBD3.out⟩⟩
              clear g0 g1 gf1 HJ HES3
              obtain ⟨wo, rfl⟩ : ∃ wo : World, wo = wr := ⟨_, rfl⟩
              go_loopw [11, 75] (fun _ i wr => ∃ j : Nat, j ≤ L.length ∧ i = .int .i64 j ∧ Hid (FillSt w n gx (.slice A6 es6.length c6) es6 wr ∧ wr.ownsRow (w.heap.size + 1) 40 3 (.slice A1 L.length c1) L.length (I3 L))) (fun _ i _ => L.length - (intOf i).toNat)
              case atStart => exact ⟨0, Nat.zero_le _, rfl, Lib.hid ⟨HS6.out.1, HS6.out.2.1⟩⟩
              case round =>
                obtain ⟨j, hj, rfl, HJ⟩ := hrel
                by_cases hjl : j < L.length
                · have hTs : Ts wr wr.heap.size A1 L.length L := ⟨Reads.of_own HJ.out.2, rfl, by omega⟩
                  obtain ⟨ad, rfl, hb1, a0, a1, a2⟩ := hTs.at_ hjl
                  have hl := Lib.hid (run_load3 wr (ad.add (j * 3)) _ _ _ a0 a1 a2)
                  have HF6 := Lib.hid (show chkB n es6 m (tnth L j).1 (tnth L j).2.1 (tnth L j).2.2 = false by
                    have hT := fill_isT hmn (HADJ.out es6 HS6.out.2.2.1) (show tnth L j ∈ rtrios fs m by rw [← HLR.out, tnth_eq hjl]; exact List.getElem_mem _)
                    rw [chkB]
                    simp only [Int.toNat_natCast, hT, Bool.and_false])
                  clear a0 a1 a2 hTs
                  have g0 := HJ.out.1.1.c0; have g1 := HJ.out.1.1.c1
                  have glt6 := HJ.out.1.1.lt
                  have HE6 := Lib.hid (show Es wr wr.heap.size A6 es6.length es6 from ⟨Reads.of_own HJ.out.1.2.1, ⟨rfl, by have := HS6.out.2.2.2.1; omega⟩, fun e he => Nat.lt_of_lt_of_le (HS6.out.2.2.2.2 e he) (Nat.le_trans (two_pow_le (show n ≤ 32 by omega)) (by decide))⟩)
                  go_wp2_with (refine wpList_load_at rfl 40 (.tmp 77) rfl (ad.add (j * 3)) rfl _ hl.out ?_)
                  refine (tcheck_any n m _ _ _ A6 es6 es6.length c6 _ (HE6.out.new (al _ _))).mono ?_
                  rintro e w8 ⟨rfl, hb⟩
                  rw [HF6.out]
                  have hb' := bthen (al wr _) hb (by simp)
                  have HJ8 := Lib.hid (show FillSt w n gx (.slice A6 es6.length c6) es6 w8 ∧ w8.ownsRow (w.heap.size + 1) 40 3 (.slice (some ad) L.length c1) L.length (I3 L) from ⟨⟨HJ.out.1.1.new hb', own_below HJ.out.1.2.1 hb', bthen HJ.out.1.2.2.1 hb' HJ.out.1.2.2.1.size, HJ.out.1.2.2.2.1, Nat.le_trans HJ.out.1.2.2.2.2 hb'.size⟩, own_below HJ.out.2 hb'⟩)
                  clear hb hb' g0 g1 glt6 hl
                  go_wp2_with fail
                  exact ⟨⟨j + 1, by omega, by go_num, HJ8⟩, by simp [intOf]; omega⟩
                · go_wp2_with fail
                  refine ⟨⟨k + 1, es6, A6, c6, by go_num, Lib.hid ⟨HJ.out.1, ?_, HS6.out.2.2.2.1, HS6.out.2.2.2.2⟩⟩, by simp [intOf]; omega⟩
                  have h1 := fill_cnt hmn (HADJ.out es6 HS6.out.2.2.1) (by rw [← HLR.out]; intro h; rw [h] at h0; simp at h0)
                  have h2 := HI.out.2.1
                  omega

theorem trioFills_walk (n : Int) (A : Option Addr) (es : List Nat) (len c : Nat) (f : Int) (w : World) (hr : Es w w.heap.size A len es) (_ : -9223372036854775808 ≤ n ∧ n ≤ 9223372036854775807) (_ : len ≤ c) (hf : 0 ≤ f ∧ f ≤ 255) :
    Calls Try.prog 5 #[.agg #[.int .i64 n, .slice A len c], .int .u8 f] w fun e w' => e = .returned (.bool true) ∧ Below w.heap.size w w' := by
  cases hF : fewB n es with
  | false => exact fills_far n f A es len c w hr (.inl hF)
  | true =>
    by_cases h0 : n = 0
    · exact fills_far n f A es len c w hr (.inr h0)
    · obtain ⟨h1, _, _, _⟩ := of_decide_eq_true hF
      obtain ⟨n, rfl⟩ := Int.eq_ofNat_of_zero_le h1
      obtain ⟨f, rfl⟩ := Int.eq_ofNat_of_zero_le hf.1
      exact fills_main n f A es len c w hr hF (by omega) (by omega)
end Go.Proofs.Ytdagdamliggfmaa
