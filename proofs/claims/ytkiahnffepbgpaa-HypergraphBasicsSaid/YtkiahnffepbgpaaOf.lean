/-
  Contract of hypergraph.Of.
-/
import Derived.Test.YtkiahnffepbgpaaOfP
import Derived.Test.YtkiahnffepbgpaaMk
import Derived.Test.YtkiahnffepbgpaaAbs
import Derived.Test.YtkiahnffepbgpaaFew
namespace Go.Proofs.Ytkiahnffepbgpaa
open Go.RowKit
set_option linter.unusedSimpArgs false
set_option linter.unusedVariables false

/-- What Of answers: a graph of its own, and an error. -/
def OfRet (n : Int) (xss : List (List Int)) (w : World) (e : Ending) (w' : World) : Prop :=
  ∃ v, e = .returned (.tuple #[.agg #[.int .i64 (if ofCode n xss = 0 then n else 0), v], .int .i64 (ofCode n xss)]) ∧ w'.ownsRow w.heap.size 36 1 v (if ofCode n xss = 0 then ofEs n xss else []).length (U32 (if ofCode n xss = 0 then ofEs n xss else [])) ∧ Below w.heap.size w w'
theorem OfRet.err {n : Int} {xss : List (List Int)} {w w' : World} {c : Int} (h : ofCode n xss = c) (hc : c ≠ 0) (hb : Below w.heap.size w w') : OfRet n xss w (.returned (.tuple #[.agg #[.int .i64 0, .slice none 0 0], .int .i64 c])) w' := by
  subst h
  exact ⟨_, by rw [if_neg hc], by rw [if_neg hc]; exact own_nil _ _ _, hb⟩
theorem graph_size (a b : Value) : (Try.prog.info? 24).map (·.size) = some (#[a, b] : Array Value).size := by kernel_rfl
theorem two_below {B : Nat} {a w : World} (h : Below B a w) {g : Nat} (hg : B ≤ g) (x y : Value) : Below B a ((w.setCell ⟨g, 0, none⟩ x).setCell ⟨g, 1, none⟩ y) :=
  (h.setCell (p := ⟨g, 0, none⟩) hg x).setCell (p := ⟨g, 1, none⟩) hg y
set_option maxRecDepth 100000 in
set_option maxHeartbeats 4000000 in
theorem of_sets (n : Int) (A : Option Addr) (xss : List (List Int)) (len c : Nat) (w : World) (hx : Xss w w.heap.size A len xss) :
    Calls Try.prog 18 #[.int .i64 n, .slice A len c] w (OfRet n xss w) := by
  have hle := hx.1.2
  have HL := Lib.hid hx.1.1
  have HX := Lib.hid hx; clear hx
  have hst := GB.made w 24 (.int .i64 0) (.slice none 0 0)
  by_cases h0 : n < 0
  · have HE := Lib.hid (show ofCode n xss = 3 by rw [ofCode, if_pos (.inl h0)])
    go_enter Try.func18, Try.ntmps18
    go_wp2_with fail
    refine bodyPost_ret (v := .tuple #[.agg #[.int .i64 0, .slice none 0 0], .int .i64 3]) ?_ rfl (OfRet.err HE.out (by omega) (al _ _))
    exact results_step Try.results18 _ _ _ _ _ (0, 0) _ rfl hst.blk Try.underlying24 rfl (graph_size _ _)
  by_cases h1 : 32 < n
  · have HE := Lib.hid (show ofCode n xss = 3 by rw [ofCode, if_pos (.inr h1)])
    go_enter Try.func18, Try.ntmps18
    go_wp2_with fail
    refine bodyPost_ret (v := .tuple #[.agg #[.int .i64 0, .slice none 0 0], .int .i64 3]) ?_ rfl (OfRet.err HE.out (by omega) (al _ _))
    exact results_step Try.results18 _ _ _ _ _ (0, 0) _ rfl hst.blk Try.underlying24 rfl (graph_size _ _)
  by_cases h2 : 64 < len
  · have HE := Lib.hid (show ofCode n xss = 12 by rw [ofCode, if_neg (by omega), if_pos (by have := HL.out; omega)])
    go_enter Try.func18, Try.ntmps18
    go_wp2_with fail
    refine bodyPost_ret (v := .tuple #[.agg #[.int .i64 0, .slice none 0 0], .int .i64 12]) ?_ rfl (OfRet.err HE.out (by omega) (al _ _))
    exact results_step Try.results18 _ _ _ _ _ (0, 0) _ rfl hst.blk Try.underlying24 rfl (graph_size _ _)
  obtain ⟨n, rfl⟩ := Int.eq_ofNat_of_zero_le (show 0 ≤ n by omega)
  have HCO := Lib.hid (show ofCode n xss = if allGood n xss = true then 0 else 1 by rw [ofCode, if_neg (by omega), if_neg (by have := HL.out; omega)])
  have hgx : GB ((w.alloc (.cells #[.int .i64 0, .slice none 0 0] 24)).alloc (.cells #[.int .i64 (n : Int), .slice none 0 0] 24)) (w.heap.size + 1) 24 (.int .i64 (n : Int)) (.slice none 0 0) := by
    simpa using GB.made (w.alloc (.cells #[.int .i64 0, .slice none 0 0] 24)) 24 (.int .i64 (n : Int)) (.slice none 0 0)
  have hg4 := hst.alloc (.cells #[.int .i64 (n : Int), .slice none 0 0] 24)
  have hbw : Below w.heap.size w ((w.alloc (.cells #[.int .i64 0, .slice none 0 0] 24)).alloc (.cells #[.int .i64 (n : Int), .slice none 0 0] 24)) := bthen (al w _) (al _ _) (by simp)
  have hsz : w.heap.size + 2 = ((w.alloc (.cells #[.int .i64 0, .slice none 0 0] 24)).alloc (.cells #[.int .i64 (n : Int), .slice none 0 0] 24)).heap.size := by simp
  go_enter Try.func18, Try.ntmps18
  go_upto_region 7 with (fail)
  generalize ((w.alloc (.cells #[.int .i64 0, .slice none 0 0] 24)).alloc (.cells #[.int .i64 (n : Int), .slice none 0 0] 24)) = W0 at *
  have H0 := Lib.hid (show GB W0 (w.heap.size + 1) 24 (.int .i64 (n : Int)) (.slice none 0 0) ∧ GB W0 w.heap.size 24 (.int .i64 0) (.slice none 0 0) ∧ Below w.heap.size w W0 ∧ w.heap.size + 2 ≤ W0.heap.size from ⟨hgx, hg4, hbw, by omega⟩)
  have hn : n ≤ 32 := by omega
  clear hst hgx hg4 hbw hsz h0 h1
  go_loopw [27] (fun iv wr => ∃ (r : Nat) (v : Value), iv = .int .i64 r ∧ r ≤ len ∧ Hid ((∀ r', r' < r → ∀ k, k < (rowAt xss r').length → goodV n (inth (rowAt xss r') k) = true) ∧ GB wr (w.heap.size + 1) 24 (.int .i64 (n : Int)) v ∧ GB wr w.heap.size 24 (.int .i64 0) (.slice none 0 0) ∧ wr.ownsRow (w.heap.size + 2) 36 1 v r (U32 (ofEs n (xss.take r))) ∧ Below w.heap.size w wr ∧ w.heap.size + 2 ≤ wr.heap.size)) (fun iv _ => len - (intOf iv).toNat)
  case atStart => exact ⟨0, _, rfl, Nat.zero_le _, Lib.hid ⟨fun r' h => by omega, H0.out.1, H0.out.2.1, own_nil _ _ _, H0.out.2.2.1, H0.out.2.2.2⟩⟩
  case round =>
    obtain ⟨r, v, rfl, hr, HI⟩ := hrel
    obtain ⟨A3, c3, hv⟩ := own_form HI.out.2.2.2.1
    subst hv
    by_cases hrl : r < len
    · obtain ⟨ad, Ar, Lr, Cr, rfl, hadl, hcell, hxr⟩ := (HX.out.below HI.out.2.2.2.2.1).2 r hrl
      have hle9 := hxr.le
      have HLR := Lib.hid hxr.len
      have HXR := Lib.hid hxr; clear hxr
      go_wp2_with fail
      clear hcell
      go_loop [9, 33] (fun sv iv => ∃ k : Nat, iv = .int .i64 k ∧ k ≤ Lr ∧ sv = .int .u32 (rowL n (rowAt xss r) k : Nat) ∧ Hid (∀ k', k' < k → goodV n (inth (rowAt xss r) k') = true)) (fun _ iv => Lr - (intOf iv).toNat)
      case atStart => exact ⟨0, rfl, Nat.zero_le _, rfl, Lib.hid fun k' h => by omega⟩
      case round =>
        obtain ⟨k, rfl, hk, rfl, HK⟩ := hrel
        by_cases hkl : k < Lr
        · obtain ⟨ad2, rfl, hb1, hcell⟩ := HXR.out.at_ hkl
          have hbd := HXR.out.lt hkl
          have hs32 := rowL_lt n (rowAt xss r) k
          have HRS := Lib.hid (show rowL n (rowAt xss r) (k + 1) = if goodV n (inth (rowAt xss r) k) = true then rowL n (rowAt xss r) k ||| 2 ^ (inth (rowAt xss r) k).toNat else rowL n (rowAt xss r) k from rfl)
          have HBAD := Lib.hid (fun (h : goodV n (inth (rowAt xss r) k) = false) => show ofCode n xss = 1 by
            rw [HCO.out, bad_row (r := r) (k := k) (by have := HL.out; omega) (by have := HLR.out; omega) h]; rfl)
          have HGO := Lib.hid (fun (h : goodV n (inth (rowAt xss r) k) = true) => show ∀ k', k' < k + 1 → goodV n (inth (rowAt xss r) k') = true from fun k' hk' => by
            rcases Nat.lt_or_ge k' k with h1 | h1
            · exact HK.out k' h1
            · obtain rfl : k' = k := by omega
              exact h)
          generalize inth (rowAt xss r) k = x at *
          by_cases hx0 : x < 0
          · have t1 : decide (x < 0) = true := by simp [hx0]
            have HE := Lib.hid (HBAD.out (by rw [goodV, decide_eq_false (by omega)]; rfl))
            have c0 := HI.out.2.2.1.c0; have c1 := HI.out.2.2.1.c1; have f0 := HI.out.2.2.1.f0; have f1 := HI.out.2.2.1.f1; have lg := HI.out.2.2.1.lt
            go_wp2_with fail
            refine bodyPost_ret (v := .tuple #[.agg #[.int .i64 0, .slice none 0 0], .int .i64 1]) ?_ rfl (OfRet.err HE.out (by omega) (two_below HI.out.2.2.2.2.1 (Nat.le_refl _) _ _))
            exact results_step Try.results18 _ _ _ _ _ (0, 0) _ rfl ((HI.out.2.2.1.set0 (.int .i64 0)).set1 (.slice none 0 0)).blk Try.underlying24 rfl (graph_size _ _)
          · have t1 : decide (x < 0) = false := by simp; omega
            obtain ⟨y, rfl⟩ := Int.eq_ofNat_of_zero_le (show 0 ≤ x by omega)
            by_cases hyn : y < n
            · have t2 : decide ((y : Int) ≥ (n : Int)) = false := by simp; omega
              have hgd : goodV n (y : Int) = true := by rw [goodV, decide_eq_true (by omega), decide_eq_true (by omega), decide_eq_true (by omega)]; rfl
              have hrs := HRS.out
              rw [if_pos hgd, Int.toNat_natCast] at hrs
              have HRS2 := Lib.hid hrs; clear hrs
              have HGO2 := Lib.hid (HGO.out hgd); clear hgd
              have hpy : 2 ^ y < 4294967296 := pow2_lt32 (by omega)
              have eor := bits_or (rowL n (rowAt xss r) k) (2 ^ y) hs32 hpy
              rw [← shl_mod y (by omega)] at eor
              have i1 : (0 : Int) ≤ (y : Int) := by omega
              have i2 : (y : Int) < 32 := by omega
              generalize rowL n (rowAt xss r) k = sk at *
              go_wp2_with fail
              exact ⟨⟨k + 1, by go_num, by omega, by rw [HRS2.out], HGO2⟩, by simp [intOf]; omega⟩
            · have t2 : decide ((y : Int) ≥ (n : Int)) = true := by simp; omega
              have HE := Lib.hid (HBAD.out (by rw [goodV, decide_eq_true (by omega), decide_eq_false (by omega)]; rfl))
              have c0 := HI.out.2.2.1.c0; have c1 := HI.out.2.2.1.c1; have f0 := HI.out.2.2.1.f0; have f1 := HI.out.2.2.1.f1; have lg := HI.out.2.2.1.lt
              go_wp2_with fail
              refine bodyPost_ret (v := .tuple #[.agg #[.int .i64 0, .slice none 0 0], .int .i64 1]) ?_ rfl (OfRet.err HE.out (by omega) (two_below HI.out.2.2.2.2.1 (Nat.le_refl _) _ _))
              exact results_step Try.results18 _ _ _ _ _ (0, 0) _ rfl ((HI.out.2.2.1.set0 (.int .i64 0)).set1 (.slice none 0 0)).blk Try.underlying24 rfl (graph_size _ _)
        · obtain rfl : Lr = k := by omega
          have hxl : r < xss.length := by have := HL.out; omega
          have HTK := Lib.hid (show ofEs n (xss.take (r + 1)) = ofEs n (xss.take r) ++ [rowL n (rowAt xss r) Lr] by rw [ofEs_take hxl, ← HLR.out])
          have HGR := Lib.hid (show ∀ r', r' < r + 1 → ∀ k, k < (rowAt xss r').length → goodV n (inth (rowAt xss r') k) = true from fun r' hr' => by
            rcases Nat.lt_or_ge r' r with h1 | h1
            · exact HI.out.1 r' h1
            · obtain rfl : r' = r := by omega
              rw [← HLR.out]; exact HK.out)
          have HO := Lib.hid HI.out.2.2.2.1
          have HG := Lib.hid HI.out.2.1
          have HG4 := Lib.hid HI.out.2.2.1
          have HB := Lib.hid HI.out.2.2.2.2.1
          have hws := HI.out.2.2.2.2.2
          clear HI hxl
          have c1 := HG.out.c1
          generalize rowL n (rowAt xss r) Lr = sx at *
          generalize ofEs n (xss.take r) = L0 at *
          go_wp2_with (at_builtin; refine app_u32 rfl _ _ rfl (w.heap.size + 2) (.slice A3 r c3) r L0 rfl (World.ownsRow.alloc HO.out _) wr.heap.size sx rfl (Blk.new _ _ _) (by omega) (by simp; try omega) ?_; intro v' w7 hown' hgr hor; obtain ⟨A7, c7, rfl⟩ := own_form hown'; have HO7 := Lib.hid hown'; have hG7 := GB.appended (HG.out.alloc _) (World.ownsRow.alloc HO.out _) hgr (by decide); have HG7 := Lib.hid hG7; have HG47 := Lib.hid (GB.appended (HG4.out.alloc _) (World.ownsRow.alloc HO.out _) hgr (by decide)); have HB7 := Lib.hid (Below.appended (HB.out.alloc (by omega) _) (World.ownsRow.alloc HO.out _) hgr (by simp; try omega) (by omega)); have hs7 : w.heap.size + 2 ≤ w7.heap.size := Nat.le_trans (by simp; try omega) hgr.size; have k1 := hG7.c1; have q1 := hG7.f1; have l1 := hG7.lt; clear hown' hgr hor hG7)
          refine ⟨⟨r + 1, .slice A7 (r + 1) c7, by go_num, by omega, Lib.hid ⟨HGR.out, HG7.out.set1 _, GB.far HG47.out (by show w.heap.size ≠ w.heap.size + 1; omega) _, ?_, HB7.out.setCell (p := ⟨w.heap.size + 1, 1, none⟩) (by show w.heap.size ≤ w.heap.size + 1; omega) _, by simp; omega⟩⟩, by simp [intOf]; omega⟩
          rw [HTK.out]
          exact own_far HO7.out HG7.out.blk (by decide) 1 _
    · obtain rfl : r = len := by omega
      have HTK := Lib.hid (show ofEs n (xss.take r) = ofEs n xss by rw [List.take_of_length_le (by have := HL.out; omega)])
      have HE := Lib.hid (show ofCode n xss = 0 by
        rw [HCO.out, if_pos]
        exact good_row fun r' hr' => HI.out.1 r' (by have := HL.out; omega))
      have hg := HI.out.2.1; have hg4 := HI.out.2.2.1
      have c0 := hg.c0; have c1 := hg.c1; have d0 := hg4.c0; have d1 := hg4.c1; have f0 := hg4.f0; have f1 := hg4.f1; have lg := hg4.lt; have lx := hg.lt
      clear hg hg4
      go_wp2_with fail
      refine bodyPost_ret (v := .tuple #[.agg #[.int .i64 n, .slice A3 r c3], .int .i64 0]) ?_ rfl ⟨.slice A3 r c3, ?_, ?_, two_below HI.out.2.2.2.2.1 (Nat.le_refl _) _ _⟩
      · exact results_step Try.results18 _ _ _ _ _ (0, 0) _ rfl ((HI.out.2.2.1.set0 (.int .i64 n)).set1 (.slice A3 r c3)).blk Try.underlying24 rfl (graph_size _ _)
      · rw [HE.out, if_pos rfl]
      · rw [HE.out, if_pos rfl, ofEs_length, ← HL.out, ← HTK.out]
        exact own_lower (own_far (own_far HI.out.2.2.2.1 HI.out.2.2.1.blk (by decide) 0 _) (HI.out.2.2.1.set0 _).blk (by decide) 1 _) (by omega)
end Go.Proofs.Ytkiahnffepbgpaa
