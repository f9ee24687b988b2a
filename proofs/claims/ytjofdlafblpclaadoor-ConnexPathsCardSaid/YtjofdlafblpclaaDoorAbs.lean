/-
  Contracts of hypergraph.absorb and hypergraph.isolate.
-/
import Derived.Test.YtjofdlafblpclaaDoorRef
import Derived.Test.YtjofdlafblpclaaDoorGyoP
namespace Go.Proofs.YtjofdlafblpclaaDoor
open Go.RowKit

/-- The cells of a step. -/
def stepC (e f v : Int) : Array Value := #[.int .i64 e, .int .i64 f, .int .i64 v]
def absC : Option (Nat × Nat) → Array Value
  | none => stepC 0 0 0
  | some (e, f) => stepC e f (-1)
def isoC : Option (Nat × Nat) → Array Value
  | none => stepC 0 0 0
  | some (e, v) => stepC e (-1) v
def RetAbs (r : List Nat) (g : List Bool) (w : World) (e : Ending) (w' : World) : Prop := ∃ o, AbsSpec r g o ∧ e = .returned (.tuple #[.agg (absC o), .bool o.isSome]) ∧ Below w.heap.size w w'
def RetIso (n : Nat) (r : List Nat) (w : World) (e : Ending) (w' : World) : Prop := ∃ o, IsoSpec n r o ∧ e = .returned (.tuple #[.agg (isoC o), .bool o.isSome]) ∧ Below w.heap.size w w'
/-- A slice of bools: a block of the call's own, or none. -/
def Bs (w : World) (A : Option Addr) (len : Nat) (g : List Bool) : Prop := len = g.length ∧ ∃ b, A = some ⟨b, 0, none⟩ ∧ Blk w b 4 (brow g)
theorem bget_bnth (g : List Bool) (k : Nat) : bget g k = bnth g k := rfl

theorem results_step {P : Program} {fn : Func} {p t : Tmp} {ty : TypeId} (h : fn.results = #[.cell p ty, .tmp t]) (tmps : Array Value) (w : World) (g : Nat) (t' : TypeId) (cs : Array Value) (fr : Nat × Nat) (d : TypeDesc)
    (hp : tmps.getD p undef = .pointer (some ⟨g, 0, none⟩)) (hg : w.heap[g]? = some (.cells cs t' fr))
    (hu : P.underlying ty = some d) (hd : (match d with | .struct _ | .array _ _ => true | _ => false) = true) (hi : (P.info? ty).map (·.size) = some cs.size) :
    (results fn tmps).run P w = .ok (.tuple #[.agg cs, tmps.getD t undef]) w := by
  have hp' : tmps[p]?.getD undef = .pointer (some ⟨g, 0, none⟩) := by simpa using hp
  simp [results, h, hp', asAddr, run_loadVar_row w g t' ty cs fr d hg hu hd hi]
theorem step_size (a b c : Value) : (Tryd.prog.info? 76).map (·.size) = some (#[a, b, c] : Array Value).size := by kernel_rfl
theorem three_set {w : World} {g : Nat} {t : TypeId} {x y z : Int} (h : Blk w g t (stepC x y z)) (a b c : Int) : Blk (((w.setCell ⟨g, 0, none⟩ (.int .i64 a)).setCell ⟨g, 1, none⟩ (.int .i64 b)).setCell ⟨g, 2, none⟩ (.int .i64 c)) g t (stepC a b c) := ((h.set_ 0 _).set_ 1 _).set_ 2 _
theorem three_below {B : Nat} {a w : World} (h : Below B a w) {g : Nat} (hg : B ≤ g) (x y z : Value) : Below B a (((w.setCell ⟨g, 0, none⟩ x).setCell ⟨g, 1, none⟩ y).setCell ⟨g, 2, none⟩ z) :=
  ((h.setCell (p := ⟨g, 0, none⟩) hg x).setCell (p := ⟨g, 1, none⟩) hg y).setCell (p := ⟨g, 2, none⟩) hg z

set_option maxHeartbeats 2000000 in
theorem absorb_any (A : Option Addr) (r : List Nat) (len c : Nat) (gb cb : Nat) (g : List Bool) (w : World) (hr : Es w w.heap.size A len r) (hg : Blk w gb 4 (brow g)) (hl : g.length = r.length) :
    Calls Tryd.prog 47 #[.slice A len c, .slice (some ⟨gb, 0, none⟩) len cb] w (RetAbs r g w) := by
  have hle := hr.le
  have HLEN := Lib.hid hr.len
  have HR := Lib.hid hr; clear hr
  have HG := Lib.hid hg; clear hg
  have HGL := Lib.hid hl; clear hl
  go_enter Tryd.func47, Tryd.ntmps47
  go_wp2_with fail
  go_loopw [6, 7, 10, 15] (fun _ _ i _ wr => ∃ a : Nat, a ≤ len ∧ i = .int .i64 a ∧ Hid ((∀ e' f', e' < a → f' < r.length → absorbs r g e' f' = false) ∧ Blk wr w.heap.size 76 (stepC 0 0 0) ∧ Below w.heap.size w wr)) (fun _ _ i _ _ => len - (intOf i).toNat)
  case atStart => exact ⟨0, Nat.zero_le _, rfl, Lib.hid ⟨fun e' f' h => absurd h (by omega), Blk.new _ _ _, al _ _⟩⟩
  case round =>
    obtain ⟨a, ha, rfl, HI⟩ := hrel
    by_cases hlt : a < len
    · go_wp2_with fail
      obtain ⟨wo, rfl⟩ : ∃ wo : World, wo = wr := ⟨_, rfl⟩
      go_loopw [7, 15] (fun _ i wr => ∃ b : Nat, b ≤ len ∧ i = .int .i64 b ∧ Hid ((∀ f', f' < b → absorbs r g a f' = false) ∧ Blk wr w.heap.size 76 (stepC 0 0 0) ∧ Below w.heap.size w wr)) (fun _ i _ => len - (intOf i).toNat)
      case atStart => exact ⟨0, Nat.zero_le _, rfl, Lib.hid ⟨fun f' h => absurd h (by omega), HI.out.2⟩⟩
      case round =>
        obtain ⟨b, hb, rfl, HJ⟩ := hrel
        by_cases hlt2 : b < len
        · obtain ⟨ad, rfl, hb1, hca⟩ := (HR.out.below HJ.out.2.2).at_ hlt
          obtain ⟨ad', he', hb2, hcb⟩ := (HR.out.below HJ.out.2.2).at_ hlt2
          obtain rfl : ad = ad' := by injection he'
          clear he'
          have hgb := HG.out.below HJ.out.2.2 HG.out.lt
          have ga : wr.cell? ⟨gb, a, none⟩ = some (.bool (bnth g a)) := by rw [hgb.cell, brow_get (by have h1 := HGL.out; have h2 := HLEN.out; omega)]
          have gbb : wr.cell? ⟨gb, b, none⟩ = some (.bool (bnth g b)) := by rw [hgb.cell, brow_get (by have h1 := HGL.out; have h2 := HLEN.out; omega)]
          clear hgb
          have i1 : (0 : Int) ≤ (a : Int) := by omega
          have i2 : (a : Int) < (len : Int) := by omega
          have i3 : (0 : Int) ≤ (b : Int) := by omega
          have i4 : (b : Int) < (len : Int) := by omega
          have hea := Lib.hid (HR.out.lt hlt)
          have heb := Lib.hid (HR.out.lt hlt2)
          have hand := bits_andNot _ _ hea.out heb.out
          have HAN := Lib.hid hand; clear hand
          have hdef := Lib.hid (show absorbs r g a b = (decide (a ≠ b) && (!bnth g a && (!bnth g b && decide (andn (nth r a) (nth r b) = 0)))) from rfl)
          by_cases h1 : a = b
          · have t1 : ((a : Int) != (b : Int)) = false := by simp [h1]
            have H1 := Lib.hid h1; clear h1
            go_wp2_with fail
            go_quiet (fail)
            go_wp2_with fail
            refine ⟨⟨b + 1, by omega, by go_num, Lib.hid ⟨fun f' hf' => ?_, HJ.out.2.1.drewN _, below_drewN HJ.out.2.2 _⟩⟩, by simp [intOf]; omega⟩
            by_cases hfb : f' = b
            · rw [hfb, hdef.out]; simp [H1.out]
            · exact HJ.out.1 f' (by omega)
          · have t1 : ((a : Int) != (b : Int)) = true := by simp; omega
            have H1 := Lib.hid h1; clear h1
            cases h2 : bnth g a with
            | true =>
              rw [h2] at ga
              have H2 := Lib.hid h2; clear h2
              go_wp2_with fail
              go_quiet (fail)
              go_wp2_with fail
              refine ⟨⟨b + 1, by omega, by go_num, Lib.hid ⟨fun f' hf' => ?_, HJ.out.2.1.drewN _, below_drewN HJ.out.2.2 _⟩⟩, by simp [intOf]; omega⟩
              by_cases hfb : f' = b
              · rw [hfb, hdef.out]; simp [H2.out]
              · exact HJ.out.1 f' (by omega)
            | false =>
              rw [h2] at ga
              have H2 := Lib.hid h2; clear h2
              cases h3 : bnth g b with
              | true =>
                rw [h3] at gbb
                have H3 := Lib.hid h3; clear h3
                go_wp2_with fail
                go_quiet (fail)
                go_wp2_with fail
                refine ⟨⟨b + 1, by omega, by go_num, Lib.hid ⟨fun f' hf' => ?_, HJ.out.2.1.drewN _, below_drewN HJ.out.2.2 _⟩⟩, by simp [intOf]; omega⟩
                by_cases hfb : f' = b
                · rw [hfb, hdef.out]; simp [H3.out]
                · exact HJ.out.1 f' (by omega)
              | false =>
                rw [h3] at gbb
                have H3 := Lib.hid h3; clear h3
                by_cases h4 : andn (nth r a) (nth r b) = 0
                · have t4 : (bits .andNot .u32 (nth r a : Int) (nth r b : Int) == 0) = true := by rw [HAN.out, h4]; rfl
                  have H4 := Lib.hid h4; clear h4
                  go_wp2_with fail
                  go_quiet (fail)
                  have hst := HJ.out.2.1.drewN nq
                  obtain ⟨wo, hwo⟩ : ∃ wo : World, wo = wr.drewN nq := ⟨_, rfl⟩
                  rw [← hwo] at hst ⊢
                  have k0 : wo.cell? ⟨w.heap.size, 0, none⟩ = some (.int .i64 0) := (hst.cell 0).trans rfl
                  have k1 : wo.cell? ⟨w.heap.size, 1, none⟩ = some (.int .i64 0) := (hst.cell 1).trans rfl
                  have k2 : wo.cell? ⟨w.heap.size, 2, none⟩ = some (.int .i64 0) := (hst.cell 2).trans rfl
                  have f0 := hst.frozen 0; have f1 := hst.frozen 1; have f2 := hst.frozen 2
                  have HST := Lib.hid hst; clear hst
                  have HBW := Lib.hid (show Below w.heap.size w wo by rw [hwo]; exact below_drewN HJ.out.2.2 _)
                  clear hwo hca hcb ga gbb
                  go_wp2_with fail
                  refine bodyPost_ret (v := .tuple #[.agg (absC (some (a, b))), .bool true]) ?_ rfl ⟨some (a, b), ⟨?_, ?_, ?_, HI.out.1, HJ.out.1⟩, rfl, three_below HBW.out (Nat.le_refl _) _ _ _⟩
                  · exact results_step Tryd.results47 _ _ _ _ _ (0, 0) _ rfl (three_set HST.out a b (-1)) Tryd.underlying76 rfl (step_size _ _ _)
                  · have := HLEN.out; omega
                  · have := HLEN.out; omega
                  · rw [hdef.out, H2.out, H3.out, H4.out]; simp [H1.out]
                · have t4 : (bits .andNot .u32 (nth r a : Int) (nth r b : Int) == 0) = false := by rw [HAN.out, beq_eq_false_iff_ne]; omega
                  have H4 := Lib.hid h4; clear h4
                  go_wp2_with fail
                  go_quiet (fail)
                  go_wp2_with fail
                  refine ⟨⟨b + 1, by omega, by go_num, Lib.hid ⟨fun f' hf' => ?_, HJ.out.2.1.drewN _, below_drewN HJ.out.2.2 _⟩⟩, by simp [intOf]; omega⟩
                  by_cases hfb : f' = b
                  · rw [hfb, hdef.out]; simp [H4.out]
                  · exact HJ.out.1 f' (by omega)
        · go_wp2_with fail
          refine ⟨⟨a + 1, by omega, by go_num, Lib.hid ⟨fun e' f' he hf => ?_, HJ.out.2⟩⟩, by simp [intOf]; omega⟩
          by_cases hea : e' = a
          · rw [hea]; exact HJ.out.1 f' (by have := HLEN.out; omega)
          · exact HI.out.1 e' f' (by omega) hf
    · have hst := HI.out.2.1
      have k0 : wr.cell? ⟨w.heap.size, 0, none⟩ = some (.int .i64 0) := (hst.cell 0).trans rfl
      have k1 : wr.cell? ⟨w.heap.size, 1, none⟩ = some (.int .i64 0) := (hst.cell 1).trans rfl
      have k2 : wr.cell? ⟨w.heap.size, 2, none⟩ = some (.int .i64 0) := (hst.cell 2).trans rfl
      have f0 := hst.frozen 0; have f1 := hst.frozen 1; have f2 := hst.frozen 2
      have HST := Lib.hid hst; clear hst
      go_wp2_with fail
      refine bodyPost_ret (v := .tuple #[.agg (absC none), .bool false]) ?_ rfl ⟨none, fun e f he hf => HI.out.1 e f (by have := HLEN.out; omega) hf, rfl, three_below HI.out.2.2 (Nat.le_refl _) _ _ _⟩
      exact results_step Tryd.results47 _ _ _ _ _ (0, 0) _ rfl (three_set HST.out 0 0 0) Tryd.underlying76 rfl (step_size _ _ _)

set_option maxHeartbeats 2000000 in
theorem isolate_any (n : Nat) (A : Option Addr) (r : List Nat) (len c : Nat) (w : World) (hr : Es w w.heap.size A len r) (hn : n ≤ 32) :
    Calls Tryd.prog 48 #[.int .i64 n, .slice A len c] w (RetIso n r w) := by
  have hle := hr.le
  have HLEN := Lib.hid hr.len
  have HR := Lib.hid hr; clear hr
  go_enter Tryd.func48, Tryd.ntmps48
  go_wp2_with fail
  go_loop [6, 7, 8, 9, 11, 16] (fun _ _ _ _ i _ => ∃ v : Nat, v ≤ n ∧ i = .int .i64 v ∧ Hid (∀ v', v' < v → occ r v' ≠ 1)) (fun _ _ _ _ i _ => n - (intOf i).toNat)
  case atStart => exact ⟨0, Nat.zero_le _, rfl, Lib.hid fun v' h => absurd h (by omega)⟩
  case round =>
    obtain ⟨v, hv, rfl, HI⟩ := hrel
    by_cases hlt : v < n
    · go_wp2_with fail
      go_loop [7, 8, 9, 16] (fun q x _ i => ∃ (k d : Nat), k ≤ len ∧ d ≤ len ∧ i = .int .i64 k ∧ q = .int .i64 ((r.take k).countP (fun e => e.testBit v) : Nat) ∧ x = .int .i64 d ∧ Hid (0 < (r.take k).countP (fun e => e.testBit v) → d < len ∧ (nth r d).testBit v = true)) (fun _ _ _ i => len - (intOf i).toNat)
      case atStart => exact ⟨0, 0, Nat.zero_le _, Nat.zero_le _, rfl, rfl, rfl, Lib.hid fun h => absurd h (by simp)⟩
      case round =>
        obtain ⟨k, d, hk, hd, rfl, rfl, rfl, HJ⟩ := hrel
        have hcl : (r.take k).countP (fun e => e.testBit v) ≤ k := Nat.le_trans List.countP_le_length (List.length_take_le _ _)
        generalize hq : (r.take k).countP (fun e => e.testBit v) = q at *
        have HQ := Lib.hid hq; clear hq
        by_cases hkl : k < len
        · obtain ⟨ad, rfl, hb1, hca⟩ := (HR.out.alloc (Nat.le_refl _) (.cells #[.int .i64 0, .int .i64 0, .int .i64 0] 76)).at_ hkl
          have hek := Lib.hid (HR.out.lt hkl)
          have hkr : k < r.length := by have := HLEN.out; omega
          have HST := Lib.hid (show (r.take (k + 1)).countP (fun e => e.testBit v) = (r.take k).countP (fun e => e.testBit v) + if (nth r k).testBit v then 1 else 0 by
            rw [List.take_succ_eq_append_getElem hkr, List.countP_append, nth_eq hkr]; simp [List.countP_cons])
          cases hb : (nth r k).testBit v with
          | true =>
            have ht : (bits .and .u32 ((nth r k : Int) / 2 ^ v) 1 == 1) = true := by rw [bit_test _ _ hek.out]; exact hb
            have HB := Lib.hid hb; clear hb
            go_wp2_with fail
            refine ⟨⟨k + 1, k, by omega, by omega, by go_num, ?_, rfl, Lib.hid fun _ => ⟨hkl, HB.out⟩⟩, by simp [intOf]; omega⟩
            rw [HST.out, HB.out, HQ.out]; simp
          | false =>
            have ht : (bits .and .u32 ((nth r k : Int) / 2 ^ v) 1 == 1) = false := by rw [bit_test _ _ hek.out]; exact hb
            have HB := Lib.hid hb; clear hb
            go_wp2_with fail
            refine ⟨⟨k + 1, d, by omega, by omega, by go_num, ?_, rfl, Lib.hid fun h => HJ.out ?_⟩, by simp [intOf]; omega⟩
            · rw [HST.out, HB.out, HQ.out]; simp
            · rw [HST.out, HB.out, HQ.out] at h; simpa using h
        · have HOC := Lib.hid (show occ r v = q by
            have h1 := HQ.out
            rw [List.take_of_length_le (by have := HLEN.out; omega)] at h1
            exact h1)
          by_cases hq1 : q = 1
          · have ht : ((q : Int) == 1) = true := by rw [hq1]; rfl
            have HQ1 := Lib.hid hq1; clear hq1
            go_wp2_with fail
            refine bodyPost_ret (v := .tuple #[.agg (isoC (some (d, v))), .bool true]) ?_ rfl ⟨some (d, v), ⟨hlt, ?_, ?_, ?_, HI.out⟩, rfl, al _ _⟩
            · exact results_step Tryd.results48 _ _ _ _ _ (0, 0) _ rfl (Blk.new _ _ _) Tryd.underlying76 rfl (step_size _ _ _)
            · have := (HJ.out (by have := HQ1.out; omega)).1; have := HLEN.out; omega
            · exact (HJ.out (by have := HQ1.out; omega)).2
            · rw [HOC.out, HQ1.out]
          · have ht : ((q : Int) == 1) = false := by rw [beq_eq_false_iff_ne]; omega
            have HQ1 := Lib.hid hq1; clear hq1
            go_wp2_with fail
            refine ⟨⟨v + 1, by omega, by go_num, Lib.hid fun v' hv' => ?_⟩, by simp [intOf]; omega⟩
            by_cases hvv : v' = v
            · rw [hvv, HOC.out]; exact HQ1.out
            · exact HI.out v' (by omega)
    · go_wp2_with fail
      refine bodyPost_ret (v := .tuple #[.agg (isoC none), .bool false]) ?_ rfl ⟨none, fun v' hv' => HI.out v' (by omega), rfl, al _ _⟩
      exact results_step Tryd.results48 _ _ _ _ _ (0, 0) _ rfl (Blk.new _ _ _) Tryd.underlying76 rfl (step_size _ _ _)
end Go.Proofs.YtjofdlafblpclaaDoor
