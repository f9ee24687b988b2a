/-
  Contract of the reference's next.
-/
import Derived.Test.YtkiahnffepbgpaaRedP
import Derived.Test.YtkiahnffepbgpaaRefI
import Derived.Test.YtkiahnffepbgpaaIdx
namespace Go.Proofs.Ytkiahnffepbgpaa
open Go.RowKit
set_option linter.unusedSimpArgs false
set_option linter.unusedVariables false

def nextC : Option (Nat × Nat) → Option (Nat × Nat) → Array Value
  | some (e, f), _ => stepC e f (-1)
  | none, some (e, v) => stepC e (-1) v
  | none, none => stepC 0 0 0
def RetNext (n : Nat) (r : List Nat) (g : List Bool) (w : World) (e : Ending) (w' : World) : Prop := ∃ o p, AbsSpec r g o ∧ (o = none → IsoSpec n r p) ∧ e = .returned (.tuple #[.agg (nextC o p), .bool (o.isSome || p.isSome)]) ∧ Below w.heap.size w w'
set_option maxRecDepth 100000 in
set_option maxHeartbeats 4000000 in
theorem rnext_any (n : Nat) (A : Option Addr) (r : List Nat) (len c : Nat) (gb cb : Nat) (g : List Bool) (w : World) (hr : Es w w.heap.size A len r) (hg : Blk w gb 4 (brow g)) (hl : g.length = r.length) (hz : ∀ e, bget g e = true → nth r e = 0) (hn : n ≤ 32) :
    Calls Try.prog 37 #[.slice A len c, .slice (some ⟨gb, 0, none⟩) len cb, .int .i64 n] w (RetNext n r g w) := by
  have hle := hr.le
  have HLEN := Lib.hid hr.len
  have HR := Lib.hid hr; clear hr
  have HG := Lib.hid hg; clear hg
  have HGL := Lib.hid hl; clear hl
  have HZ := Lib.hid hz; clear hz
  go_enter Try.func37, Try.ntmps37
  go_wp2_with fail
  go_loopw [7, 8, 9] (fun _ i _ wr => ∃ a : Nat, a ≤ len ∧ i = .int .i64 a ∧ Hid ((∀ e' f', e' < a → f' < r.length → absorbs r g e' f' = false) ∧ Blk wr w.heap.size 42 (stepC 0 0 0) ∧ Below w.heap.size w wr)) (fun _ i _ _ => len - (intOf i).toNat)
  case atStart => exact ⟨0, Nat.zero_le _, rfl, Lib.hid ⟨fun e' f' h => absurd h (by omega), Blk.new _ _ _, al _ _⟩⟩
  case round =>
    obtain ⟨a, ha, rfl, HI⟩ := hrel
    by_cases hlt : a < len
    · go_wp2_with fail
      obtain ⟨wo, rfl⟩ : ∃ wo : World, wo = wr := ⟨_, rfl⟩
      go_loopw [7, 9] (fun _ i wr => ∃ b : Nat, b ≤ len ∧ i = .int .i64 b ∧ Hid ((∀ f', f' < b → absorbs r g a f' = false) ∧ Blk wr w.heap.size 42 (stepC 0 0 0) ∧ Below w.heap.size w wr)) (fun _ i _ => len - (intOf i).toNat)
      case atStart => exact ⟨0, Nat.zero_le _, rfl, Lib.hid ⟨fun f' h => absurd h (by omega), HI.out.2⟩⟩
      case round =>
        obtain ⟨b, hb, rfl, HJ⟩ := hrel
        by_cases hlt2 : b < len
        · obtain ⟨ad, rfl, hb1, hca⟩ := (HR.out.below HJ.out.2.2).at_ hlt
          obtain ⟨ad', he', hb2, hcb⟩ := (HR.out.below HJ.out.2.2).at_ hlt2
          obtain rfl : ad = ad' := by injection he'
          clear he'
          have hgb := HG.out.below HJ.out.2.2 HG.out.lt
          have ga : wr.cell? ⟨gb, a, none⟩ = some (.bool (bnth g a)) := by rw [hgb.cell, brow_get (by have h1 := HGL.out; have h2 := HLEN.out; omega)]
          have gbb : wr.cell? ⟨gb, b, none⟩ = some (.bool (bnth g b)) := by rw [hgb.cell, brow_get (by have h1 := HGL.out; have h2 := HLEN.out; omega)]
          clear hgb
          have i1 : (0 : Int) ≤ (a : Int) := by omega
          have i2 : (a : Int) < (len : Int) := by omega
          have i3 : (0 : Int) ≤ (b : Int) := by omega
          have i4 : (b : Int) < (len : Int) := by omega
          have hea := Lib.hid (HR.out.lt hlt)
          have heb := Lib.hid (HR.out.lt hlt2)
          have hand := bits_andNot _ _ hea.out heb.out
          have HAN := Lib.hid hand; clear hand
          have hdef := Lib.hid (show absorbs r g a b = (decide (a ≠ b) && (!bnth g a && (!bnth g b && decide (andn (nth r a) (nth r b) = 0)))) from rfl)
          by_cases h1 : a = b
          · have t1 : ((a : Int) != (b : Int)) = false := by simp [h1]
            have H1 := Lib.hid h1; clear h1
            go_wp2_with fail
            go_quiet (fail)
            go_wp2_with fail
            refine ⟨⟨b + 1, by omega, by go_num, Lib.hid ⟨fun f' hf' => ?_, HJ.out.2.1.drewN _, below_drewN HJ.out.2.2 _⟩⟩, by simp [intOf]; omega⟩
            by_cases hfb : f' = b
            · rw [hfb, hdef.out]; simp [H1.out]
            · exact HJ.out.1 f' (by omega)
          · have t1 : ((a : Int) != (b : Int)) = true := by simp; omega
            have H1 := Lib.hid h1; clear h1
            cases h2 : bnth g a with
            | true =>
              rw [h2] at ga
              have H2 := Lib.hid h2; clear h2
              go_wp2_with fail
              go_quiet (fail)
              go_wp2_with fail
              refine ⟨⟨b + 1, by omega, by go_num, Lib.hid ⟨fun f' hf' => ?_, HJ.out.2.1.drewN _, below_drewN HJ.out.2.2 _⟩⟩, by simp [intOf]; omega⟩
              by_cases hfb : f' = b
              · rw [hfb, hdef.out]; simp [H2.out]
              · exact HJ.out.1 f' (by omega)
            | false =>
              rw [h2] at ga
              have H2 := Lib.hid h2; clear h2
              cases h3 : bnth g b with
              | true =>
                rw [h3] at gbb
                have H3 := Lib.hid h3; clear h3
                go_wp2_with fail
                go_quiet (fail)
                go_wp2_with fail
                refine ⟨⟨b + 1, by omega, by go_num, Lib.hid ⟨fun f' hf' => ?_, HJ.out.2.1.drewN _, below_drewN HJ.out.2.2 _⟩⟩, by simp [intOf]; omega⟩
                by_cases hfb : f' = b
                · rw [hfb, hdef.out]; simp [H3.out]
                · exact HJ.out.1 f' (by omega)
              | false =>
                rw [h3] at gbb
                have H3 := Lib.hid h3; clear h3
                have HH : ∀ W, Calls Try.prog 49 #[.int .u32 (nth r b), .int .u32 (nth r a)] W fun e w' => e = .returned (.bool (decide (andn (nth r a) (nth r b) = 0))) ∧ w' = W := fun W => (rcontains_any (nth r b) (nth r a) heb.out hea.out W).mono (by
                  rintro e w' ⟨b', rfl, hbq, rfl⟩
                  have hbh : b' = decide (andn (nth r a) (nth r b) = 0) := by
                    rw [Bool.eq_iff_iff, hbq, decide_eq_true_iff]
                    exact ⟨andn_of_sub hea.out heb.out, sub_of_andn hea.out heb.out⟩
                  rw [hbh]; exact ⟨rfl, rfl⟩)
                by_cases h4 : andn (nth r a) (nth r b) = 0
                · have t4 : decide (andn (nth r a) (nth r b) = 0) = true := decide_eq_true h4
                  rw [t4] at HH
                  have HHH := Lib.hid HH; clear HH
                  have H4 := Lib.hid h4; clear h4
                  have cua : ∀ W, Below wr.heap.size wr W → W.cell? (Addr.add ad a) = some (.int .u32 (nth r a : Int)) := fun W hW => by
                    obtain ⟨ad2, he, _, h⟩ := ((HR.out.new HJ.out.2.2).new hW).at_ hlt
                    injection he with he; subst he; exact h
                  have cub : ∀ W, Below wr.heap.size wr W → W.cell? (Addr.add ad b) = some (.int .u32 (nth r b : Int)) := fun W hW => by
                    obtain ⟨ad2, he, _, h⟩ := ((HR.out.new HJ.out.2.2).new hW).at_ hlt2
                    injection he with he; subst he; exact h
                  have HGB := Lib.hid (HG.out.below HJ.out.2.2 HG.out.lt)
                  have cba : ∀ W, Below wr.heap.size wr W → W.cell? (Addr.add ⟨gb, 0, none⟩ a) = some (.bool false) := fun W hW => by rw [← ga, show (Addr.add ⟨gb, 0, none⟩ a) = ⟨gb, a, none⟩ by unfold Addr.add; split <;> simp_all]; exact hW.cell HGB.out.lt
                  have cbb : ∀ W, Below wr.heap.size wr W → W.cell? (Addr.add ⟨gb, 0, none⟩ b) = some (.bool false) := fun W hW => by rw [← gbb, show (Addr.add ⟨gb, 0, none⟩ b) = ⟨gb, b, none⟩ by unfold Addr.add; split <;> simp_all]; exact hW.cell HGB.out.lt
                  go_upto_region 7 with (fail)
                  refine wp_region_each (kss := [[], [], [(0, 26), (1, 27)], [(2, 28)], [(3, 29)], [(3, 29)], [(3, 29), (4, 30), (5, 31)], [(3, 29), (6, 32)], [(3, 29), (7, 33)], [(3, 29), (8, 34)], [(9, 35)], [(10, 36)], [(10, 36)], [(10, 36), (11, 37), (12, 38)], [(10, 36), (13, 39)], [(10, 36), (14, 40)], [(10, 36), (15, 41)], [(16, 42)], [(17, 43)], [(17, 43)], [(17, 43), (18, 44), (19, 45)], [(17, 43), (20, 46)], [(17, 43)], [(17, 43)], [(17, 43), (22, 48), (23, 49)], [(17, 43), (24, 50)], [(17, 43), (21, 47), (25, 51)], [(17, 43), (26, 52)]]) [(8, .int .i64 ((a : Int))), (9, .int .i64 ((b : Int))), (1, .slice (some ⟨gb, 0, none⟩) len cb), (0, .slice (some ad) len c)] [fun zz _ => zz = .int .i64 ((a : Int)), fun zz _ => zz = .int .i64 ((b : Int)), fun zz _ => zz = .bool true, fun zz _ => zz = .bool true, fun zz _ => zz = .slice (some ⟨gb, 0, none⟩) len cb, fun zz _ => zz = .int .i64 ((a : Int)), fun zz _ => zz = .pointer (some (Addr.add ⟨gb, 0, none⟩ a)), fun zz _ => zz = .bool false, fun zz _ => zz = .bool true, fun zz _ => zz = .bool true, fun zz _ => zz = .bool true, fun zz _ => zz = .slice (some ⟨gb, 0, none⟩) len cb, fun zz _ => zz = .int .i64 ((b : Int)), fun zz _ => zz = .pointer (some (Addr.add ⟨gb, 0, none⟩ b)), fun zz _ => zz = .bool false, fun zz _ => zz = .bool true, fun zz _ => zz = .bool true, fun zz _ => zz = .bool true, fun zz _ => zz = .slice (some ad) len c, fun zz _ => zz = .int .i64 ((b : Int)), fun zz _ => zz = .pointer (some (Addr.add ad b)), fun zz _ => zz = .int .u32 ((nth r b : Int)), fun zz _ => zz = .slice (some ad) len c, fun zz _ => zz = .int .i64 ((a : Int)), fun zz _ => zz = .pointer (some (Addr.add ad a)), fun zz _ => zz = .int .u32 ((nth r a : Int)), fun zz _ => zz = .bool true, fun zz _ => zz = .bool true] (by kernel_rfl) (by kernel_rfl) ⟨rfl, rfl, rfl, rfl, trivial⟩ ?_ ?_ ?_
                  · exact ⟨fun _ _ _ h _ => h, fun _ _ _ h _ => h, fun _ _ _ h _ => h, fun _ _ _ h _ => h, fun _ _ _ h _ => h, fun _ _ _ h _ => h, fun _ _ _ h _ => h, fun _ _ _ h _ => h, fun _ _ _ h _ => h, fun _ _ _ h _ => h, fun _ _ _ h _ => h, fun _ _ _ h _ => h, fun _ _ _ h _ => h, fun _ _ _ h _ => h, fun _ _ _ h _ => h, fun _ _ _ h _ => h, fun _ _ _ h _ => h, fun _ _ _ h _ => h, fun _ _ _ h _ => h, fun _ _ _ h _ => h, fun _ _ _ h _ => h, fun _ _ _ h _ => h, fun _ _ _ h _ => h, fun _ _ _ h _ => h, fun _ _ _ h _ => h, fun _ _ _ h _ => h, fun _ _ _ h _ => h, fun _ _ _ h _ => h, trivial⟩
                  · refine ⟨?_, ?_, ?_, ?_, ?_, ?_, ?_, ?_, ?_, ?_, ?_, ?_, ?_, ?_, ?_, ?_, ?_, ?_, ?_, ?_, ?_, ?_, ?_, ?_, ?_, ?_, ?_, ?_, trivial⟩
                    · exact fun aa ww hb he hd => ob_plain rfl (gives_move _ rfl ⟨he.1, Below.refl _ _⟩)
                    · exact fun aa ww hb he hd => ob_plain rfl (gives_move _ rfl ⟨he.2.1, Below.refl _ _⟩)
                    · exact fun aa ww hb he hd => ob_plain rfl (gives_ne_int ((a : Int)) ((b : Int)) .i64 _ _ _ _ rfl hd.1 hd.2.1 ⟨congrArg Value.bool (t1), Below.refl _ _⟩)
                    · exact fun aa ww hb he hd => ob_plain rfl (gives_move _ rfl ⟨hd.1, Below.refl _ _⟩)
                    · exact fun aa ww hb he hd => ob_on 29 rfl (by kernel_rfl) hd.1 (gives_move _ rfl ⟨he.2.2.1, Below.refl _ _⟩)
                    · exact fun aa ww hb he hd => ob_on 29 rfl (by kernel_rfl) hd.1 (gives_move _ rfl ⟨he.1, Below.refl _ _⟩)
                    · exact fun aa ww hb he hd => ob_on 29 rfl (by kernel_rfl) hd.1 (idx_bs (by omega) rfl hd.2.1 hd.2.2.1)
                    · exact fun aa ww hb he hd => ob_on 29 rfl (by kernel_rfl) hd.1 (load_b rfl hd.2.1 (cba _ hb))
                    · exact fun aa ww hb he hd => ob_on 29 rfl (by kernel_rfl) hd.1 (gives_not false _ _ rfl hd.2.1 ⟨rfl, Below.refl _ _⟩)
                    · exact fun aa ww hb he hd => ob_plain rfl (gives_pick true _ _ _ rfl hd.1 ⟨hd.2.1, Below.refl _ _⟩)
                    · exact fun aa ww hb he hd => ob_plain rfl (gives_move _ rfl ⟨hd.1, Below.refl _ _⟩)
                    · exact fun aa ww hb he hd => ob_on 36 rfl (by kernel_rfl) hd.1 (gives_move _ rfl ⟨he.2.2.1, Below.refl _ _⟩)
                    · exact fun aa ww hb he hd => ob_on 36 rfl (by kernel_rfl) hd.1 (gives_move _ rfl ⟨he.2.1, Below.refl _ _⟩)
                    · exact fun aa ww hb he hd => ob_on 36 rfl (by kernel_rfl) hd.1 (idx_bs (by omega) rfl hd.2.1 hd.2.2.1)
                    · exact fun aa ww hb he hd => ob_on 36 rfl (by kernel_rfl) hd.1 (load_b rfl hd.2.1 (cbb _ hb))
                    · exact fun aa ww hb he hd => ob_on 36 rfl (by kernel_rfl) hd.1 (gives_not false _ _ rfl hd.2.1 ⟨rfl, Below.refl _ _⟩)
                    · exact fun aa ww hb he hd => ob_plain rfl (gives_pick true _ _ _ rfl hd.1 ⟨hd.2.1, Below.refl _ _⟩)
                    · exact fun aa ww hb he hd => ob_plain rfl (gives_move _ rfl ⟨hd.1, Below.refl _ _⟩)
                    · exact fun aa ww hb he hd => ob_on 43 rfl (by kernel_rfl) hd.1 (gives_move _ rfl ⟨he.2.2.2.1, Below.refl _ _⟩)
                    · exact fun aa ww hb he hd => ob_on 43 rfl (by kernel_rfl) hd.1 (gives_move _ rfl ⟨he.2.1, Below.refl _ _⟩)
                    · exact fun aa ww hb he hd => ob_on 43 rfl (by kernel_rfl) hd.1 (idx_es (by omega) rfl hd.2.1 hd.2.2.1)
                    · exact fun aa ww hb he hd => ob_on 43 rfl (by kernel_rfl) hd.1 (load_u rfl hd.2.1 (cub _ hb))
                    · exact fun aa ww hb he hd => ob_on 43 rfl (by kernel_rfl) hd.1 (gives_move _ rfl ⟨he.2.2.2.1, Below.refl _ _⟩)
                    · exact fun aa ww hb he hd => ob_on 43 rfl (by kernel_rfl) hd.1 (gives_move _ rfl ⟨he.1, Below.refl _ _⟩)
                    · exact fun aa ww hb he hd => ob_on 43 rfl (by kernel_rfl) hd.1 (idx_es (by omega) rfl hd.2.1 hd.2.2.1)
                    · exact fun aa ww hb he hd => ob_on 43 rfl (by kernel_rfl) hd.1 (load_u rfl hd.2.1 (cua _ hb))
                    · exact fun aa ww hb he hd => ob_on 43 rfl (by kernel_rfl) hd.1 (gives_call2 _ _ _ _ rfl (by kernel_rfl) (by rw [show aa.eval (.tmp 47) = .int .u32 ((nth r b : Int)) from hd.2.1, show aa.eval (.tmp 51) = .int .u32 ((nth r a : Int)) from hd.2.2.1]; exact rv_one ((HHH.out _).mono (by rintro e w9 ⟨rfl, rfl⟩; exact ⟨rfl, Below.refl _ _⟩))))
                    · exact fun aa ww hb he hd => ob_plain rfl (gives_pick true _ _ _ rfl hd.1 ⟨hd.2.1, Below.refl _ _⟩)
                  intro vs w5 hb5 hR
                  have e53 : vs 27 = .bool true := hR 27 (by decide)
                  clear hR
                  simp only [putsL, Nat.zero_add, Nat.reduceAdd, List.take_succ_cons, List.take_zero, Act.put, List.setIfInBounds_toArray, List.set_cons_zero, List.set_cons_succ]
                  rw [e53]
                  clear e53
                  have hst := HJ.out.2.1.below hb5 HJ.out.2.1.lt
                  obtain ⟨wo, hwo⟩ : ∃ wo : World, wo = w5 := ⟨_, rfl⟩
                  rw [← hwo] at hst ⊢
                  have k0 : wo.cell? ⟨w.heap.size, 0, none⟩ = some (.int .i64 0) := (hst.cell 0).trans rfl
                  have k1 : wo.cell? ⟨w.heap.size, 1, none⟩ = some (.int .i64 0) := (hst.cell 1).trans rfl
                  have k2 : wo.cell? ⟨w.heap.size, 2, none⟩ = some (.int .i64 0) := (hst.cell 2).trans rfl
                  have f0 := hst.frozen 0; have f1 := hst.frozen 1; have f2 := hst.frozen 2
                  have HST := Lib.hid hst; clear hst
                  have HBW := Lib.hid (show Below w.heap.size w wo by rw [hwo]; exact bthen HJ.out.2.2 hb5 HJ.out.2.2.size)
                  clear hwo hca hcb ga gbb
                  go_wp2_with fail
                  refine bodyPost_ret (v := .tuple #[.agg (nextC (some (a, b)) none), .bool true]) ?_ rfl ⟨some (a, b), none, ⟨?_, ?_, ?_, HI.out.1, HJ.out.1⟩, (fun h => absurd h (by simp)), rfl, three_below HBW.out (Nat.le_refl _) _ _ _⟩
                  · exact results_step Try.results37 _ _ _ _ _ (0, 0) _ rfl (three_set HST.out a b (-1)) Try.underlying42 rfl (step_size _ _ _)
                  · have := HLEN.out; omega
                  · have := HLEN.out; omega
                  · rw [hdef.out, H2.out, H3.out, H4.out]; simp [H1.out]
                · have t4 : decide (andn (nth r a) (nth r b) = 0) = false := decide_eq_false h4
                  rw [t4] at HH
                  have HHH := Lib.hid HH; clear HH
                  have H4 := Lib.hid h4; clear h4
                  have cua : ∀ W, Below wr.heap.size wr W → W.cell? (Addr.add ad a) = some (.int .u32 (nth r a : Int)) := fun W hW => by
                    obtain ⟨ad2, he, _, h⟩ := ((HR.out.new HJ.out.2.2).new hW).at_ hlt
                    injection he with he; subst he; exact h
                  have cub : ∀ W, Below wr.heap.size wr W → W.cell? (Addr.add ad b) = some (.int .u32 (nth r b : Int)) := fun W hW => by
                    obtain ⟨ad2, he, _, h⟩ := ((HR.out.new HJ.out.2.2).new hW).at_ hlt2
                    injection he with he; subst he; exact h
                  have HGB := Lib.hid (HG.out.below HJ.out.2.2 HG.out.lt)
                  have cba : ∀ W, Below wr.heap.size wr W → W.cell? (Addr.add ⟨gb, 0, none⟩ a) = some (.bool false) := fun W hW => by rw [← ga, show (Addr.add ⟨gb, 0, none⟩ a) = ⟨gb, a, none⟩ by unfold Addr.add; split <;> simp_all]; exact hW.cell HGB.out.lt
                  have cbb : ∀ W, Below wr.heap.size wr W → W.cell? (Addr.add ⟨gb, 0, none⟩ b) = some (.bool false) := fun W hW => by rw [← gbb, show (Addr.add ⟨gb, 0, none⟩ b) = ⟨gb, b, none⟩ by unfold Addr.add; split <;> simp_all]; exact hW.cell HGB.out.lt
                  go_upto_region 7 with (fail)
                  refine wp_region_each (kss := [[], [], [(0, 26), (1, 27)], [(2, 28)], [(3, 29)], [(3, 29)], [(3, 29), (4, 30), (5, 31)], [(3, 29), (6, 32)], [(3, 29), (7, 33)], [(3, 29), (8, 34)], [(9, 35)], [(10, 36)], [(10, 36)], [(10, 36), (11, 37), (12, 38)], [(10, 36), (13, 39)], [(10, 36), (14, 40)], [(10, 36), (15, 41)], [(16, 42)], [(17, 43)], [(17, 43)], [(17, 43), (18, 44), (19, 45)], [(17, 43), (20, 46)], [(17, 43)], [(17, 43)], [(17, 43), (22, 48), (23, 49)], [(17, 43), (24, 50)], [(17, 43), (21, 47), (25, 51)], [(17, 43), (26, 52)]]) [(8, .int .i64 ((a : Int))), (9, .int .i64 ((b : Int))), (1, .slice (some ⟨gb, 0, none⟩) len cb), (0, .slice (some ad) len c)] [fun zz _ => zz = .int .i64 ((a : Int)), fun zz _ => zz = .int .i64 ((b : Int)), fun zz _ => zz = .bool true, fun zz _ => zz = .bool true, fun zz _ => zz = .slice (some ⟨gb, 0, none⟩) len cb, fun zz _ => zz = .int .i64 ((a : Int)), fun zz _ => zz = .pointer (some (Addr.add ⟨gb, 0, none⟩ a)), fun zz _ => zz = .bool false, fun zz _ => zz = .bool true, fun zz _ => zz = .bool true, fun zz _ => zz = .bool true, fun zz _ => zz = .slice (some ⟨gb, 0, none⟩) len cb, fun zz _ => zz = .int .i64 ((b : Int)), fun zz _ => zz = .pointer (some (Addr.add ⟨gb, 0, none⟩ b)), fun zz _ => zz = .bool false, fun zz _ => zz = .bool true, fun zz _ => zz = .bool true, fun zz _ => zz = .bool true, fun zz _ => zz = .slice (some ad) len c, fun zz _ => zz = .int .i64 ((b : Int)), fun zz _ => zz = .pointer (some (Addr.add ad b)), fun zz _ => zz = .int .u32 ((nth r b : Int)), fun zz _ => zz = .slice (some ad) len c, fun zz _ => zz = .int .i64 ((a : Int)), fun zz _ => zz = .pointer (some (Addr.add ad a)), fun zz _ => zz = .int .u32 ((nth r a : Int)), fun zz _ => zz = .bool false, fun zz _ => zz = .bool false] (by kernel_rfl) (by kernel_rfl) ⟨rfl, rfl, rfl, rfl, trivial⟩ ?_ ?_ ?_
                  · exact ⟨fun _ _ _ h _ => h, fun _ _ _ h _ => h, fun _ _ _ h _ => h, fun _ _ _ h _ => h, fun _ _ _ h _ => h, fun _ _ _ h _ => h, fun _ _ _ h _ => h, fun _ _ _ h _ => h, fun _ _ _ h _ => h, fun _ _ _ h _ => h, fun _ _ _ h _ => h, fun _ _ _ h _ => h, fun _ _ _ h _ => h, fun _ _ _ h _ => h, fun _ _ _ h _ => h, fun _ _ _ h _ => h, fun _ _ _ h _ => h, fun _ _ _ h _ => h, fun _ _ _ h _ => h, fun _ _ _ h _ => h, fun _ _ _ h _ => h, fun _ _ _ h _ => h, fun _ _ _ h _ => h, fun _ _ _ h _ => h, fun _ _ _ h _ => h, fun _ _ _ h _ => h, fun _ _ _ h _ => h, fun _ _ _ h _ => h, trivial⟩
                  · refine ⟨?_, ?_, ?_, ?_, ?_, ?_, ?_, ?_, ?_, ?_, ?_, ?_, ?_, ?_, ?_, ?_, ?_, ?_, ?_, ?_, ?_, ?_, ?_, ?_, ?_, ?_, ?_, ?_, trivial⟩
                    · exact fun aa ww hb he hd => ob_plain rfl (gives_move _ rfl ⟨he.1, Below.refl _ _⟩)
                    · exact fun aa ww hb he hd => ob_plain rfl (gives_move _ rfl ⟨he.2.1, Below.refl _ _⟩)
                    · exact fun aa ww hb he hd => ob_plain rfl (gives_ne_int ((a : Int)) ((b : Int)) .i64 _ _ _ _ rfl hd.1 hd.2.1 ⟨congrArg Value.bool (t1), Below.refl _ _⟩)
                    · exact fun aa ww hb he hd => ob_plain rfl (gives_move _ rfl ⟨hd.1, Below.refl _ _⟩)
                    · exact fun aa ww hb he hd => ob_on 29 rfl (by kernel_rfl) hd.1 (gives_move _ rfl ⟨he.2.2.1, Below.refl _ _⟩)
                    · exact fun aa ww hb he hd => ob_on 29 rfl (by kernel_rfl) hd.1 (gives_move _ rfl ⟨he.1, Below.refl _ _⟩)
                    · exact fun aa ww hb he hd => ob_on 29 rfl (by kernel_rfl) hd.1 (idx_bs (by omega) rfl hd.2.1 hd.2.2.1)
                    · exact fun aa ww hb he hd => ob_on 29 rfl (by kernel_rfl) hd.1 (load_b rfl hd.2.1 (cba _ hb))
                    · exact fun aa ww hb he hd => ob_on 29 rfl (by kernel_rfl) hd.1 (gives_not false _ _ rfl hd.2.1 ⟨rfl, Below.refl _ _⟩)
                    · exact fun aa ww hb he hd => ob_plain rfl (gives_pick true _ _ _ rfl hd.1 ⟨hd.2.1, Below.refl _ _⟩)
                    · exact fun aa ww hb he hd => ob_plain rfl (gives_move _ rfl ⟨hd.1, Below.refl _ _⟩)
                    · exact fun aa ww hb he hd => ob_on 36 rfl (by kernel_rfl) hd.1 (gives_move _ rfl ⟨he.2.2.1, Below.refl _ _⟩)
                    · exact fun aa ww hb he hd => ob_on 36 rfl (by kernel_rfl) hd.1 (gives_move _ rfl ⟨he.2.1, Below.refl _ _⟩)
                    · exact fun aa ww hb he hd => ob_on 36 rfl (by kernel_rfl) hd.1 (idx_bs (by omega) rfl hd.2.1 hd.2.2.1)
                    · exact fun aa ww hb he hd => ob_on 36 rfl (by kernel_rfl) hd.1 (load_b rfl hd.2.1 (cbb _ hb))
                    · exact fun aa ww hb he hd => ob_on 36 rfl (by kernel_rfl) hd.1 (gives_not false _ _ rfl hd.2.1 ⟨rfl, Below.refl _ _⟩)
                    · exact fun aa ww hb he hd => ob_plain rfl (gives_pick true _ _ _ rfl hd.1 ⟨hd.2.1, Below.refl _ _⟩)
                    · exact fun aa ww hb he hd => ob_plain rfl (gives_move _ rfl ⟨hd.1, Below.refl _ _⟩)
                    · exact fun aa ww hb he hd => ob_on 43 rfl (by kernel_rfl) hd.1 (gives_move _ rfl ⟨he.2.2.2.1, Below.refl _ _⟩)
                    · exact fun aa ww hb he hd => ob_on 43 rfl (by kernel_rfl) hd.1 (gives_move _ rfl ⟨he.2.1, Below.refl _ _⟩)
                    · exact fun aa ww hb he hd => ob_on 43 rfl (by kernel_rfl) hd.1 (idx_es (by omega) rfl hd.2.1 hd.2.2.1)
                    · exact fun aa ww hb he hd => ob_on 43 rfl (by kernel_rfl) hd.1 (load_u rfl hd.2.1 (cub _ hb))
                    · exact fun aa ww hb he hd => ob_on 43 rfl (by kernel_rfl) hd.1 (gives_move _ rfl ⟨he.2.2.2.1, Below.refl _ _⟩)
                    · exact fun aa ww hb he hd => ob_on 43 rfl (by kernel_rfl) hd.1 (gives_move _ rfl ⟨he.1, Below.refl _ _⟩)
                    · exact fun aa ww hb he hd => ob_on 43 rfl (by kernel_rfl) hd.1 (idx_es (by omega) rfl hd.2.1 hd.2.2.1)
                    · exact fun aa ww hb he hd => ob_on 43 rfl (by kernel_rfl) hd.1 (load_u rfl hd.2.1 (cua _ hb))
                    · exact fun aa ww hb he hd => ob_on 43 rfl (by kernel_rfl) hd.1 (gives_call2 _ _ _ _ rfl (by kernel_rfl) (by rw [show aa.eval (.tmp 47) = .int .u32 ((nth r b : Int)) from hd.2.1, show aa.eval (.tmp 51) = .int .u32 ((nth r a : Int)) from hd.2.2.1]; exact rv_one ((HHH.out _).mono (by rintro e w9 ⟨rfl, rfl⟩; exact ⟨rfl, Below.refl _ _⟩))))
                    · exact fun aa ww hb he hd => ob_plain rfl (gives_pick true _ _ _ rfl hd.1 ⟨hd.2.1, Below.refl _ _⟩)
                  intro vs w5 hb5 hR
                  have e53 : vs 27 = .bool false := hR 27 (by decide)
                  clear hR
                  simp only [putsL, Nat.zero_add, Nat.reduceAdd, List.take_succ_cons, List.take_zero, Act.put, List.setIfInBounds_toArray, List.set_cons_zero, List.set_cons_succ]
                  rw [e53]
                  clear e53
                  go_wp2_with fail
                  refine ⟨⟨b + 1, by omega, by go_num, Lib.hid ⟨fun f' hf' => ?_, HJ.out.2.1.below hb5 HJ.out.2.1.lt, bthen HJ.out.2.2 hb5 HJ.out.2.2.size⟩⟩, by simp [intOf]; omega⟩
                  by_cases hfb : f' = b
                  · rw [hfb, hdef.out]; simp [H4.out]
                  · exact HJ.out.1 f' (by omega)
        · go_wp2_with fail
          refine ⟨⟨a + 1, by omega, by go_num, Lib.hid ⟨fun e' f' he hf => ?_, HJ.out.2⟩⟩, by simp [intOf]; omega⟩
          by_cases hea : e' = a
          · rw [hea]; exact HJ.out.1 f' (by have := HLEN.out; omega)
          · exact HI.out.1 e' f' (by omega) hf
    · have HAB := Lib.hid (show AbsSpec r g none from fun e f he hf => HI.out.1 e f (by have := HLEN.out; omega) hf)
      have HGB := Lib.hid (HG.out.below HI.out.2.2 HG.out.lt)
      have HRB := Lib.hid (HR.out.below HI.out.2.2)
      have hst := HI.out.2.1
      have k0 : wr.cell? ⟨w.heap.size, 0, none⟩ = some (.int .i64 0) := (hst.cell 0).trans rfl
      have k1 : wr.cell? ⟨w.heap.size, 1, none⟩ = some (.int .i64 0) := (hst.cell 1).trans rfl
      have k2 : wr.cell? ⟨w.heap.size, 2, none⟩ = some (.int .i64 0) := (hst.cell 2).trans rfl
      have f0 := hst.frozen 0; have f1 := hst.frozen 1; have f2 := hst.frozen 2
      have HST := Lib.hid hst; clear hst
      go_wp2_with fail
      go_loop [7, 10, 11, 12, 13] (fun _ i _ _ _ => ∃ v : Nat, v ≤ n ∧ i = .int .i64 v ∧ Hid (∀ v', v' < v → occ r v' ≠ 1)) (fun _ i _ _ _ => n - (intOf i).toNat)
      case atStart => exact ⟨0, Nat.zero_le _, rfl, Lib.hid fun v' h => absurd h (by omega)⟩
      case round =>
        obtain ⟨v, hv, rfl, HV⟩ := hrel
        by_cases hvn : v < n
        · go_wp2_with fail
          go_loop [11, 12, 13] (fun q x i => ∃ (k d : Nat), k ≤ len ∧ d ≤ len ∧ i = .int .i64 k ∧ q = .int .i64 ((r.take k).countP (fun e => e.testBit v) : Nat) ∧ x = .int .i64 d ∧ Hid (0 < (r.take k).countP (fun e => e.testBit v) → d < len ∧ (nth r d).testBit v = true)) (fun _ _ i => len - (intOf i).toNat)
          case atStart => exact ⟨0, 0, Nat.zero_le _, Nat.zero_le _, rfl, rfl, rfl, Lib.hid fun h => absurd h (by simp)⟩
          case round =>
            obtain ⟨k, d, hk, hd, rfl, rfl, rfl, HJ⟩ := hrel
            have hcl : (r.take k).countP (fun e => e.testBit v) ≤ k := Nat.le_trans List.countP_le_length (List.length_take_le _ _)
            generalize hq : (r.take k).countP (fun e => e.testBit v) = q at *
            have HQ := Lib.hid hq; clear hq
            by_cases hkl : k < len
            · obtain ⟨ad, rfl, hb1, hca⟩ := HRB.out.at_ hkl
              have gk : wr.cell? ⟨gb, k, none⟩ = some (.bool (bnth g k)) := by rw [HGB.out.cell, brow_get (by have h1 := HGL.out; have h2 := HLEN.out; omega)]
              have i1 : (0 : Int) ≤ (k : Int) := by omega
              have i2 : (k : Int) < (len : Int) := by omega
              have hek := HR.out.lt hkl
              have HEK := Lib.hid hek
              have hkr : k < r.length := by have := HLEN.out; omega
              have HSK := Lib.hid (show (r.take (k + 1)).countP (fun e => e.testBit v) = (r.take k).countP (fun e => e.testBit v) + if (nth r k).testBit v then 1 else 0 by
                rw [List.take_succ_eq_append_getElem hkr, List.countP_append, nth_eq hkr]; simp [List.countP_cons])
              cases hg1 : bnth g k with
              | true =>
                rw [hg1] at gk
                have HB := Lib.hid (show (nth r k).testBit v = false by rw [HZ.out k hg1]; simp)
                clear hg1
                go_wp2_with fail
                refine ⟨⟨k + 1, d, by omega, by omega, by go_num, ?_, rfl, Lib.hid fun h => HJ.out ?_⟩, by simp [intOf]; omega⟩
                · rw [HSK.out, HB.out, HQ.out]; simp
                · rw [HSK.out, HB.out, HQ.out] at h; simpa using h
              | false =>
                rw [hg1] at gk
                clear hg1
                cases hb : (nth r k).testBit v with
                | true =>
                  have HB := Lib.hid hb
                  go_wp2_with (go_at_call 33; refine (has_any (nth r k) v hek _).mono ?_; rintro e w' ⟨rfl, rfl⟩; rw [hb])
                  refine ⟨⟨k + 1, k, by omega, by omega, by go_num, ?_, rfl, Lib.hid fun _ => ⟨hkl, HB.out⟩⟩, by simp [intOf]; omega⟩
                  rw [HSK.out, HB.out, HQ.out]; simp
                | false =>
                  have HB := Lib.hid hb
                  go_wp2_with (go_at_call 33; refine (has_any (nth r k) v hek _).mono ?_; rintro e w' ⟨rfl, rfl⟩; rw [hb])
                  refine ⟨⟨k + 1, d, by omega, by omega, by go_num, ?_, rfl, Lib.hid fun h => HJ.out ?_⟩, by simp [intOf]; omega⟩
                  · rw [HSK.out, HB.out, HQ.out]; simp
                  · rw [HSK.out, HB.out, HQ.out] at h; simpa using h
            · have HOC := Lib.hid (show occ r v = q by
                have h1 := HQ.out
                rw [List.take_of_length_le (by have := HLEN.out; omega)] at h1
                exact h1)
              by_cases hq1 : q = 1
              · have ht : ((q : Int) == 1) = true := by rw [hq1]; rfl
                have HQ1 := Lib.hid hq1; clear hq1
                go_wp2_with fail
                refine bodyPost_ret (v := .tuple #[.agg (nextC none (some (d, v))), .bool true]) ?_ rfl ⟨none, some (d, v), HAB.out, (fun _ => ⟨hvn, ?_, ?_, ?_, HV.out⟩), rfl, three_below HI.out.2.2 (Nat.le_refl _) _ _ _⟩
                · exact results_step Try.results37 _ _ _ _ _ (0, 0) _ rfl (three_set HST.out d (-1) v) Try.underlying42 rfl (step_size _ _ _)
                · have := (HJ.out (by have := HQ1.out; omega)).1; have := HLEN.out; omega
                · exact (HJ.out (by have := HQ1.out; omega)).2
                · rw [HOC.out, HQ1.out]
              · have ht : ((q : Int) == 1) = false := by rw [beq_eq_false_iff_ne]; omega
                have HQ1 := Lib.hid hq1; clear hq1
                go_wp2_with fail
                refine ⟨⟨v + 1, by omega, by go_num, Lib.hid fun v' hv' => ?_⟩, by simp [intOf]; omega⟩
                by_cases hvv : v' = v
                · rw [hvv, HOC.out]; exact HQ1.out
                · exact HV.out v' (by omega)
        · go_wp2_with fail
          refine bodyPost_ret (v := .tuple #[.agg (nextC none none), .bool false]) ?_ rfl ⟨none, none, HAB.out, (fun _ v' hv' => HV.out v' (by omega)), rfl, three_below HI.out.2.2 (Nat.le_refl _) _ _ _⟩
          exact results_step Try.results37 _ _ _ _ _ (0, 0) _ rfl (three_set HST.out 0 0 0) Try.underlying42 rfl (step_size _ _ _)

end Go.Proofs.Ytkiahnffepbgpaa
