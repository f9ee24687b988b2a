/-
  The walk of law26.HypergraphMakes.
-/
import Derived.Test.YtkiahnffepbgpaaAwk26
import Derived.Test.YtkiahnffepbgpaaOf
import Derived.Test.YtkiahnffepbgpaaAcy
namespace Go.Proofs.Ytkiahnffepbgpaa
open Go.RowKit
set_option linter.unusedSimpArgs false
set_option linter.unusedVariables false

/-- All rows below r, and the first k of row r, are good. -/
def GoodTo (n : Int) (xss : List (List Int)) (r k : Nat) : Prop := (∀ r', r' < r → ∀ k', k' < (rowAt xss r').length → goodV n (inth (rowAt xss r') k') = true) ∧ ∀ k', k' < k → goodV n (inth (rowAt xss r) k') = true
def WantIs (n : Int) (xss : List (List Int)) (r k : Nat) (wc : Int) : Prop := (wc = 0 ∧ GoodTo n xss r k) ∨ (wc = 1 ∧ allGood n xss = false)
set_option maxRecDepth 100000 in
set_option maxHeartbeats 8000000 in
theorem hypergraphMakes_walk (n : Int) (A : Option Addr) (xss : List (List Int)) (len c : Nat) (w : World) (hnb : -9223372036854775808 ≤ n ∧ n ≤ 9223372036854775807) (hx : Xss w w.heap.size A len xss) (_ : len ≤ c) :
    Calls Try.prog 5 #[.int .i64 n, .slice A len c] w fun e w' => e = .returned (.bool true) ∧ Below w.heap.size w w' := by
  have hle := hx.1.2
  have HL := Lib.hid hx.1.1
  have HX := Lib.hid hx; clear hx
  by_cases h70 : 70 < len
  · go_enter Try.func5, Try.ntmps5
    go_wp2_with fail
    refine (awake26_any _).mono ?_
    rintro e w2 ⟨rfl, hb⟩
    have HB2 := Lib.hid hb; clear hb
    go_wp2_with fail
    go_ret
    exact ⟨rfl, HB2.out⟩
  · go_enter Try.func5, Try.ntmps5
    go_wp2_with fail
    refine (of_sets n A xss len c _ HX.out).mono ?_
    rintro e w1 ⟨v1, rfl, hown1, hb1⟩
    obtain ⟨oc, hoc⟩ : ∃ x, x = ofCode n xss := ⟨_, rfl⟩
    rw [← hoc] at hown1 ⊢
    have HOC := Lib.hid hoc; clear hoc
    obtain ⟨A1, c1, hv⟩ := own_form hown1
    subst hv
    obtain ⟨gn, hgn⟩ : ∃ x, x = (if oc = 0 then n else 0) := ⟨_, rfl⟩
    obtain ⟨gl, hgl⟩ : ∃ x, x = (if oc = 0 then ofEs n xss else []) := ⟨_, rfl⟩
    rw [← hgl] at hown1 ⊢
    rw [← hgn]
    have HGN := Lib.hid hgn; have HGL := Lib.hid hgl; clear hgn hgl
    have HO1 := Lib.hid hown1; have HB1 := Lib.hid hb1; clear hown1 hb1
    go_upto_region 6 with (fail)
    have hg5 : GB ((w1.alloc (.cells #[.int .i64 gn, .slice A1 gl.length c1] 24)).alloc (.cells #[.int .i64 n, .slice none 0 0] 24)) w1.heap.size 24 (.int .i64 gn) (.slice A1 gl.length c1) := (GB.made w1 _ _ _).alloc _
    have hg8 : GB ((w1.alloc (.cells #[.int .i64 gn, .slice A1 gl.length c1] 24)).alloc (.cells #[.int .i64 n, .slice none 0 0] 24)) (w1.heap.size + 1) 24 (.int .i64 n) (.slice none 0 0) := by
      simpa using GB.made (w1.alloc (.cells #[.int .i64 gn, .slice A1 gl.length c1] 24)) 24 (.int .i64 n) (.slice none 0 0)
    have hbw : Below w1.heap.size w1 ((w1.alloc (.cells #[.int .i64 gn, .slice A1 gl.length c1] 24)).alloc (.cells #[.int .i64 n, .slice none 0 0] 24)) := bthen (al w1 _) (al _ _) (by simp)
    have hsz : w1.heap.size + 2 = ((w1.alloc (.cells #[.int .i64 gn, .slice A1 gl.length c1] 24)).alloc (.cells #[.int .i64 n, .slice none 0 0] 24)).heap.size := by simp
    generalize ((w1.alloc (.cells #[.int .i64 gn, .slice A1 gl.length c1] 24)).alloc (.cells #[.int .i64 n, .slice none 0 0] 24)) = W0 at *
    have hw1 := HB1.out.size
    have H0 := Lib.hid (show GB W0 w1.heap.size 24 (.int .i64 gn) (.slice A1 gl.length c1) ∧ GB W0 (w1.heap.size + 1) 24 (.int .i64 n) (.slice none 0 0) ∧ Below w1.heap.size w1 W0 ∧ w1.heap.size + 2 ≤ W0.heap.size from ⟨hg5, hg8, hbw, by omega⟩)
    clear hg5 hg8 hbw hsz
    have hlen : len ≤ 70 := by omega
    generalize hs1 : w1.heap.size = s1 at *
    have HS1 := Lib.hid hs1; clear hs1 h70
    go_loopw [7, 28] (fun wv iv wr => ∃ (r : Nat) (v : Value) (wc : Int), iv = .int .i64 r ∧ r ≤ len ∧ wv = .int .i64 wc ∧ Hid (WantIs n xss r 0 wc ∧ GB wr (s1 + 1) 24 (.int .i64 n) v ∧ GB wr s1 24 (.int .i64 gn) (.slice A1 gl.length c1) ∧ wr.ownsRow (s1 + 2) 36 1 v r (U32 (ofEs n (xss.take r))) ∧ Below s1 w1 wr ∧ s1 + 2 ≤ wr.heap.size)) (fun _ iv _ => len - (intOf iv).toNat)
    case atStart => exact ⟨0, _, 0, rfl, Nat.zero_le _, rfl, Lib.hid ⟨.inl ⟨rfl, fun r' h => by omega, fun k' h => by omega⟩, H0.out.2.1, H0.out.1, own_nil _ _ _, H0.out.2.2.1, H0.out.2.2.2⟩⟩
    case round =>
      obtain ⟨r, v, wc, rfl, hr, rfl, HI⟩ := hrel
      obtain ⟨A3, c3, hv⟩ := own_form HI.out.2.2.2.1
      subst hv
      by_cases hrl : r < len
      · have hbb : Below w.heap.size w wr := by have h := HI.out.2.2.2.2.1; rw [← HS1.out] at h; exact bthen HB1.out h HB1.out.size
        obtain ⟨ad, Ar, Lr, Cr, rfl, hadl, hcell, hxr⟩ := (HX.out.below hbb).2 r hrl
        have hle9 := hxr.le
        have HLR := Lib.hid hxr.len
        have HXR := Lib.hid hxr; clear hxr hbb
        go_wp2_with fail
        clear hcell
        go_loop [7, 11, 34] (fun wv sv iv => ∃ (k : Nat) (wc : Int), iv = .int .i64 k ∧ k ≤ Lr ∧ wv = .int .i64 wc ∧ sv = .int .u32 (rowL n (rowAt xss r) k : Nat) ∧ Hid (WantIs n xss r k wc)) (fun _ _ iv => Lr - (intOf iv).toNat)
        case atStart => exact ⟨0, wc, rfl, Nat.zero_le _, rfl, rfl, Lib.hid HI.out.1⟩
        case round =>
          obtain ⟨k, wc, rfl, hk, rfl, rfl, HK⟩ := hrel
          by_cases hkl : k < Lr
          · obtain ⟨ad2, rfl, hb1, hcell⟩ := HXR.out.at_ hkl
            have hbd := HXR.out.lt hkl
            have hs32 := rowL_lt n (rowAt xss r) k
            have HRS := Lib.hid (show rowL n (rowAt xss r) (k + 1) = if goodV n (inth (rowAt xss r) k) = true then rowL n (rowAt xss r) k ||| 2 ^ (inth (rowAt xss r) k).toNat else rowL n (rowAt xss r) k from rfl)
            have HBAD := Lib.hid (fun (h : goodV n (inth (rowAt xss r) k) = false) => show WantIs n xss r (k + 1) 1 from .inr ⟨rfl, bad_row (r := r) (k := k) (by have := HL.out; omega) (by have := HLR.out; omega) h⟩)
            have HGO := Lib.hid (fun (h : goodV n (inth (rowAt xss r) k) = true) => show WantIs n xss r (k + 1) wc by
              rcases HK.out with ⟨h1, h2, h3⟩ | h1
              · refine .inl ⟨h1, h2, fun k' hk' => ?_⟩
                rcases Nat.lt_or_ge k' k with h4 | h4
                · exact h3 k' h4
                · obtain rfl : k' = k := by omega
                  exact h
              · exact .inr h1)
            generalize inth (rowAt xss r) k = x at *
            by_cases hgd : goodV n x = true
            · have hg2 := hgd
              simp only [goodV, Bool.and_eq_true, decide_eq_true_eq] at hg2
              obtain ⟨g0, g1, g2⟩ := hg2
              obtain ⟨y, rfl⟩ := Int.eq_ofNat_of_zero_le g0
              have t1 : decide ((y : Int) < 0) = false := by simp
              have t2 : decide ((y : Int) ≥ n) = false := by simp; omega
              have t3 : decide ((y : Int) > 31) = false := by simp; omega
              have hrs := HRS.out
              rw [if_pos hgd, Int.toNat_natCast] at hrs
              have HRS2 := Lib.hid hrs; clear hrs
              have HGO2 := Lib.hid (HGO.out hgd); clear hgd
              have hpy : 2 ^ y < 4294967296 := pow2_lt32 (by omega)
              have eor := bits_or (rowL n (rowAt xss r) k) (2 ^ y) hs32 hpy
              rw [← shl_mod y (by omega)] at eor
              have i1 : (0 : Int) ≤ (y : Int) := by omega
              have i2 : (y : Int) < 32 := by omega
              generalize rowL n (rowAt xss r) k = sk at *
              go_wp2_with fail
              exact ⟨⟨k + 1, wc, by go_num, by omega, rfl, by rw [HRS2.out], HGO2⟩, by simp [intOf]; omega⟩
            · have hgf : goodV n x = false := by simpa using hgd
              have hrs := HRS.out
              rw [if_neg hgd] at hrs
              have HRS2 := Lib.hid hrs; clear hrs
              have HBD2 := Lib.hid (HBAD.out hgf)
              by_cases hx0 : x < 0
              · have t1 : decide (x < 0) = true := by simp [hx0]
                clear hgd hgf
                generalize rowL n (rowAt xss r) k = sk at *
                go_wp2_with fail
                exact ⟨⟨k + 1, 1, by go_num, by omega, rfl, by rw [HRS2.out], HBD2⟩, by simp [intOf]; omega⟩
              · have t1 : decide (x < 0) = false := by simp; omega
                by_cases hxn : x < n
                · have t2 : decide (x ≥ n) = false := by simp; omega
                  have t3 : decide (x > 31) = true := by
                    simp only [goodV, Bool.and_eq_false_iff, decide_eq_false_iff_not] at hgf
                    simp; omega
                  clear hgd hgf
                  generalize rowL n (rowAt xss r) k = sk at *
                  go_wp2_with fail
                  exact ⟨⟨k + 1, 1, by go_num, by omega, rfl, by rw [HRS2.out], HBD2⟩, by simp [intOf]; omega⟩
                · have t2 : decide (x ≥ n) = true := by simp; omega
                  clear hgd hgf
                  generalize rowL n (rowAt xss r) k = sk at *
                  go_wp2_with fail
                  exact ⟨⟨k + 1, 1, by go_num, by omega, rfl, by rw [HRS2.out], HBD2⟩, by simp [intOf]; omega⟩
          · obtain rfl : Lr = k := by omega
            have hxl : r < xss.length := by have := HL.out; omega
            have HTK := Lib.hid (show ofEs n (xss.take (r + 1)) = ofEs n (xss.take r) ++ [rowL n (rowAt xss r) Lr] by rw [ofEs_take hxl, ← HLR.out])
            have HWN := Lib.hid (show WantIs n xss (r + 1) 0 wc by
              rcases HK.out with ⟨h1, h2, h3⟩ | h1
              · refine .inl ⟨h1, fun r' hr' => ?_, fun k' hk' => by omega⟩
                rcases Nat.lt_or_ge r' r with h4 | h4
                · exact h2 r' h4
                · obtain rfl : r' = r := by omega
                  rw [← HLR.out]; exact h3
              · exact .inr h1)
            have HO := Lib.hid HI.out.2.2.2.1
            have HG := Lib.hid HI.out.2.1
            have HG4 := Lib.hid HI.out.2.2.1
            have HB := Lib.hid HI.out.2.2.2.2.1
            have hws := HI.out.2.2.2.2.2
            clear HI hxl
            have k1 := HG.out.c1
            generalize hsx : rowL n (rowAt xss r) Lr = sx at *
            clear hsx
            generalize ofEs n (xss.take r) = L0 at *
            go_wp2_with (at_builtin; refine app_u32 rfl _ _ rfl (s1 + 2) (.slice A3 r c3) r L0 rfl (World.ownsRow.alloc HO.out _) wr.heap.size sx rfl (Blk.new _ _ _) (by omega) (by simp; try omega) ?_; intro v' w7 hown' hgr hor; obtain ⟨A7, c7, rfl⟩ := own_form hown'; have HO7 := Lib.hid hown'; have hG7 := GB.appended (HG.out.alloc _) (World.ownsRow.alloc HO.out _) hgr (by decide); have HG7 := Lib.hid hG7; have HG47 := Lib.hid (GB.appended (HG4.out.alloc _) (World.ownsRow.alloc HO.out _) hgr (by decide)); have HB7 := Lib.hid (Below.appended (HB.out.alloc (by omega) _) (World.ownsRow.alloc HO.out _) hgr (by simp; try omega) (by omega)); have hs7 : s1 + 2 ≤ w7.heap.size := Nat.le_trans (by simp; try omega) hgr.size; have k2 := hG7.c1; have q1 := hG7.f1; have l1 := hG7.lt; clear hown' hgr hor hG7)
            refine ⟨⟨r + 1, .slice A7 (r + 1) c7, wc, by go_num, by omega, rfl, Lib.hid ⟨HWN.out, HG7.out.set1 _, GB.far HG47.out (by show s1 ≠ s1 + 1; omega) _, ?_, HB7.out.setCell (p := ⟨s1 + 1, 1, none⟩) (by show s1 ≤ s1 + 1; omega) _, by simp; omega⟩⟩, by simp [intOf]; omega⟩
            rw [HTK.out]
            exact own_far HO7.out HG7.out.blk (by decide) 1 _
      · obtain rfl : r = len := by omega
        have HTK := Lib.hid (show ofEs n (xss.take r) = ofEs n xss by rw [List.take_of_length_le (by have := HL.out; omega)])
        by_cases h1 : n < 0
        · have t1 : decide (n < 0) = true := by simp [h1]
          have hoc : oc = 3 := by rw [HOC.out, ofCode]; rw [if_pos (.inl h1)]
          have hgn : gn = 0 := by rw [HGN.out, hoc]; rfl
          have hgl : gl = [] := by rw [HGL.out, hoc]; rfl
          subst hgn hgl hoc
          have hg8 := HI.out.2.1
          have hg5 := HI.out.2.2.1
          have k0 := hg8.c0; have k1 := hg8.c1; have f0 := hg8.f0; have f1 := hg8.f1; have l8 := hg8.lt
          have HG8 := Lib.hid ((hg8.set0 (.int .i64 0)).set1 (.slice none 0 0))
          have HG5 := Lib.hid (GB.far (GB.far hg5 (p := ⟨s1 + 1, 0, none⟩) (by show s1 ≠ s1 + 1; omega) (.int .i64 0)) (p := ⟨s1 + 1, 1, none⟩) (by show s1 ≠ s1 + 1; omega) (.slice none 0 0))
          have HB5 := Lib.hid (show Below w.heap.size w _ from two_below (bthen HB1.out (by rw [HS1.out]; exact HI.out.2.2.2.2.1) HB1.out.size) (g := s1 + 1) (by omega) (.int .i64 0) (.slice none 0 0))
          clear hg8 hg5
          go_wp2_with fail
          refine (awake26_any _).mono ?_
          rintro e w8 ⟨rfl, hb⟩
          replace HG8 := Lib.hid (HG8.out.new hb)
          replace HG5 := Lib.hid (HG5.out.new hb)
          replace HB5 := Lib.hid (bthen HB5.out hb HB5.out.size)
          clear hb k0 k1 f0 f1 l8
          have k0 := HG8.out.c0; have k1 := HG8.out.c1; have j0 := HG5.out.c0; have j1 := HG5.out.c1
          go_wp2_with fail
          refine (equal_u32 _ _ [] [] 0 0 c1 0 _ ⟨⟨rfl, fun h => absurd h (by omega)⟩, ⟨rfl, by omega⟩, by simp⟩ ⟨Reads.none_, ⟨rfl, by omega⟩, by simp⟩).mono ?_
          rintro e w9 ⟨rfl, hb⟩
          rw [show (([] : List Nat) == []) = true from rfl]
          replace HB5 := Lib.hid (bthen HB5.out hb HB5.out.size); clear hb
          go_wp2_with fail
          go_ret
          exact ⟨rfl, HB5.out⟩
        · have t1 : decide (n < 0) = false := by simp; omega
          by_cases h2 : 32 < n
          · have t2 : decide (n > 32) = true := by simp; omega
            have hoc : oc = 3 := by rw [HOC.out, ofCode]; rw [if_pos (.inr h2)]
            have hgn : gn = 0 := by rw [HGN.out, hoc]; rfl
            have hgl : gl = [] := by rw [HGL.out, hoc]; rfl
            subst hgn hgl hoc
            have hg8 := HI.out.2.1
            have hg5 := HI.out.2.2.1
            have k0 := hg8.c0; have k1 := hg8.c1; have f0 := hg8.f0; have f1 := hg8.f1; have l8 := hg8.lt
            have HG8 := Lib.hid ((hg8.set0 (.int .i64 0)).set1 (.slice none 0 0))
            have HG5 := Lib.hid (GB.far (GB.far hg5 (p := ⟨s1 + 1, 0, none⟩) (by show s1 ≠ s1 + 1; omega) (.int .i64 0)) (p := ⟨s1 + 1, 1, none⟩) (by show s1 ≠ s1 + 1; omega) (.slice none 0 0))
            have HB5 := Lib.hid (show Below w.heap.size w _ from two_below (bthen HB1.out (by rw [HS1.out]; exact HI.out.2.2.2.2.1) HB1.out.size) (g := s1 + 1) (by omega) (.int .i64 0) (.slice none 0 0))
            clear hg8 hg5
            go_wp2_with fail
            refine (awake26_any _).mono ?_
            rintro e w8 ⟨rfl, hb⟩
            replace HG8 := Lib.hid (HG8.out.new hb)
            replace HG5 := Lib.hid (HG5.out.new hb)
            replace HB5 := Lib.hid (bthen HB5.out hb HB5.out.size)
            clear hb k0 k1 f0 f1 l8
            have k0 := HG8.out.c0; have k1 := HG8.out.c1; have j0 := HG5.out.c0; have j1 := HG5.out.c1
            go_wp2_with fail
            refine (equal_u32 _ _ [] [] 0 0 c1 0 _ ⟨⟨rfl, fun h => absurd h (by omega)⟩, ⟨rfl, by omega⟩, by simp⟩ ⟨Reads.none_, ⟨rfl, by omega⟩, by simp⟩).mono ?_
            rintro e w9 ⟨rfl, hb⟩
            rw [show (([] : List Nat) == []) = true from rfl]
            replace HB5 := Lib.hid (bthen HB5.out hb HB5.out.size); clear hb
            go_wp2_with fail
            go_ret
            exact ⟨rfl, HB5.out⟩
          · have t2 : decide (n > 32) = false := by simp; omega
            by_cases h3 : 64 < r
            · have t3 : decide ((r : Int) > 64) = true := by simp; omega
              have hoc : oc = 12 := by rw [HOC.out, ofCode]; rw [if_neg (by omega), if_pos (by have := HL.out; omega)]
              have hgn : gn = 0 := by rw [HGN.out, hoc]; rfl
              have hgl : gl = [] := by rw [HGL.out, hoc]; rfl
              subst hgn hgl hoc
              have hg8 := HI.out.2.1
              have hg5 := HI.out.2.2.1
              have k0 := hg8.c0; have k1 := hg8.c1; have f0 := hg8.f0; have f1 := hg8.f1; have l8 := hg8.lt
              have HG8 := Lib.hid ((hg8.set0 (.int .i64 0)).set1 (.slice none 0 0))
              have HG5 := Lib.hid (GB.far (GB.far hg5 (p := ⟨s1 + 1, 0, none⟩) (by show s1 ≠ s1 + 1; omega) (.int .i64 0)) (p := ⟨s1 + 1, 1, none⟩) (by show s1 ≠ s1 + 1; omega) (.slice none 0 0))
              have HB5 := Lib.hid (show Below w.heap.size w _ from two_below (bthen HB1.out (by rw [HS1.out]; exact HI.out.2.2.2.2.1) HB1.out.size) (g := s1 + 1) (by omega) (.int .i64 0) (.slice none 0 0))
              clear hg8 hg5
              go_wp2_with fail
              refine (awake26_any _).mono ?_
              rintro e w8 ⟨rfl, hb⟩
              replace HG8 := Lib.hid (HG8.out.new hb)
              replace HG5 := Lib.hid (HG5.out.new hb)
              replace HB5 := Lib.hid (bthen HB5.out hb HB5.out.size)
              clear hb k0 k1 f0 f1 l8
              have k0 := HG8.out.c0; have k1 := HG8.out.c1; have j0 := HG5.out.c0; have j1 := HG5.out.c1
              go_wp2_with fail
              refine (equal_u32 _ _ [] [] 0 0 c1 0 _ ⟨⟨rfl, fun h => absurd h (by omega)⟩, ⟨rfl, by omega⟩, by simp⟩ ⟨Reads.none_, ⟨rfl, by omega⟩, by simp⟩).mono ?_
              rintro e w9 ⟨rfl, hb⟩
              rw [show (([] : List Nat) == []) = true from rfl]
              replace HB5 := Lib.hid (bthen HB5.out hb HB5.out.size); clear hb
              go_wp2_with fail
              go_ret
              exact ⟨rfl, HB5.out⟩
            · have t3 : decide ((r : Int) > 64) = false := by simp; omega
              cases hag : allGood n xss with
              | false =>
                obtain rfl : wc = 1 := by
                  rcases HI.out.1 with ⟨_, h5, _⟩ | h5
                  · have := good_row (n := n) (xss := xss) (fun r' hr' => h5 r' (by have := HL.out; omega))
                    rw [hag] at this; cases this
                  · exact h5.1
                have hoc : oc = 1 := by rw [HOC.out, ofCode]; rw [if_neg (by omega), if_neg (by have := HL.out; omega), hag]; rfl
                have hgn : gn = 0 := by rw [HGN.out, hoc]; rfl
                have hgl : gl = [] := by rw [HGL.out, hoc]; rfl
                subst hgn hgl hoc
                clear hag
                have hg8 := HI.out.2.1
                have hg5 := HI.out.2.2.1
                have k0 := hg8.c0; have k1 := hg8.c1; have f0 := hg8.f0; have f1 := hg8.f1; have l8 := hg8.lt
                have HG8 := Lib.hid ((hg8.set0 (.int .i64 0)).set1 (.slice none 0 0))
                have HG5 := Lib.hid (GB.far (GB.far hg5 (p := ⟨s1 + 1, 0, none⟩) (by show s1 ≠ s1 + 1; omega) (.int .i64 0)) (p := ⟨s1 + 1, 1, none⟩) (by show s1 ≠ s1 + 1; omega) (.slice none 0 0))
                have HB5 := Lib.hid (show Below w.heap.size w _ from two_below (bthen HB1.out (by rw [HS1.out]; exact HI.out.2.2.2.2.1) HB1.out.size) (g := s1 + 1) (by omega) (.int .i64 0) (.slice none 0 0))
                clear hg8 hg5
                go_wp2_with fail
                refine (awake26_any _).mono ?_
                rintro e w8 ⟨rfl, hb⟩
                replace HG8 := Lib.hid (HG8.out.new hb)
                replace HG5 := Lib.hid (HG5.out.new hb)
                replace HB5 := Lib.hid (bthen HB5.out hb HB5.out.size)
                clear hb k0 k1 f0 f1 l8
                have k0 := HG8.out.c0; have k1 := HG8.out.c1; have j0 := HG5.out.c0; have j1 := HG5.out.c1
                go_wp2_with fail
                refine (equal_u32 _ _ [] [] 0 0 c1 0 _ ⟨⟨rfl, fun h => absurd h (by omega)⟩, ⟨rfl, by omega⟩, by simp⟩ ⟨Reads.none_, ⟨rfl, by omega⟩, by simp⟩).mono ?_
                rintro e w9 ⟨rfl, hb⟩
                rw [show (([] : List Nat) == []) = true from rfl]
                replace HB5 := Lib.hid (bthen HB5.out hb HB5.out.size); clear hb
                go_wp2_with fail
                go_ret
                exact ⟨rfl, HB5.out⟩
              | true =>
                obtain rfl : wc = 0 := by
                  rcases HI.out.1 with h5 | h5
                  · exact h5.1
                  · rw [hag] at h5; cases h5.2
                have hoc : oc = 0 := by rw [HOC.out, ofCode]; rw [if_neg (by omega), if_neg (by have := HL.out; omega), hag]; rfl
                have hgn : gn = n := by rw [HGN.out, hoc]; rfl
                have hgl : gl = ofEs n xss := by rw [HGL.out, hoc]; rfl
                subst hgn hgl hoc
                clear hag
                have HG8 := Lib.hid HI.out.2.1
                have HG5 := Lib.hid HI.out.2.2.1
                have hbx := HI.out.2.2.2.2.1
                rw [← HS1.out] at hbx
                have HB5 := Lib.hid (bthen HB1.out hbx HB1.out.size)
                have HO5 := Lib.hid (own_below HO1.out hbx)
                have HO8 := Lib.hid (show wr.ownsRow (s1 + 2) 36 1 (.slice A3 r c3) (ofEs gn xss).length (U32 (ofEs gn xss)) by
                  rw [← HTK.out, show (ofEs gn (xss.take r)).length = r by rw [ofEs_length, List.length_take]; have := HL.out; omega]; exact HI.out.2.2.2.1)
                clear hbx
                go_wp2_with fail
                refine (awake26_any _).mono ?_
                rintro e w8 ⟨rfl, hb⟩
                replace HG8 := Lib.hid (HG8.out.new hb)
                replace HG5 := Lib.hid (HG5.out.new hb)
                replace HO5 := Lib.hid (own_below HO5.out hb)
                replace HO8 := Lib.hid (own_below HO8.out hb)
                replace HB5 := Lib.hid (bthen HB5.out hb HB5.out.size)
                clear hb
                have k0 := HG8.out.c0; have k1 := HG8.out.c1; have j0 := HG5.out.c0; have j1 := HG5.out.c1
                go_wp2_with fail
                obtain ⟨B1, d1, e1, hE1⟩ := Es.of_own HO5.out (ofEs_lt gn xss)
                obtain ⟨B2, d2, e2, hE2⟩ := Es.of_own HO8.out (ofEs_lt gn xss)
                injection e1 with e1 e3 e4
                injection e2 with e2 e5 e6
                rw [← e1] at hE1
                rw [← e2, ← e5] at hE2
                refine (equal_u32 _ _ (ofEs gn xss) (ofEs gn xss) _ _ _ _ _ hE1 hE2).mono ?_
                rintro e w9 ⟨rfl, hb⟩
                rw [show (ofEs gn xss == ofEs gn xss) = true by simp]
                replace HB5 := Lib.hid (bthen HB5.out hb HB5.out.size)
                clear hb e1 e2 e3 e4 e5 e6 hE1 hE2
                go_wp2_with fail
                go_ret
                exact ⟨rfl, HB5.out⟩
end Go.Proofs.Ytkiahnffepbgpaa
