/-
  Contracts of trio.visit, Find, All.
-/
import Derived.Test.YtdagdamliggfmaaNb
import Derived.Test.YtdagdamliggfmaaTrio
namespace Go.Proofs.Ytdagdamliggfmaa
open Go.RowKit

/-- Blocks below B and rows of uint32 from h0 on are as they were. -/
structure Keep (B h0 : Nat) (w w' : World) : Prop where
  below_ : Below B w w'
  row : ∀ g cs, h0 ≤ g → Blk w g 35 cs → Blk w' g 35 cs
theorem Keep.below {B h0 : Nat} {w w' : World} (h : Keep B h0 w w') : Below B w w' := h.below_
theorem Keep.blk {B h0 : Nat} {w w' : World} (h : Keep B h0 w w') {g : Nat} {cs : Array Value} (hb : Blk w g 35 cs) (hg : h0 ≤ g) : Blk w' g 35 cs := h.row g cs hg hb
theorem Keep.refl (B h0 : Nat) (w : World) : Keep B h0 w w := ⟨Below.refl _ _, fun _ _ _ h => h⟩
theorem Keep.setCell {B h0 : Nat} {a w : World} (h : Keep B h0 a w) {p : Addr} (h1 : B ≤ p.block) (h2 : p.block < h0) (u : Value) : Keep B h0 a (w.setCell p u) :=
  ⟨h.below_.setCell h1 u, fun g cs hg hb => (h.row g cs hg hb).far (by omega) u⟩
theorem Keep.alloc {B h0 : Nat} {a w : World} (h : Keep B h0 a w) (hB : B ≤ a.heap.size) (o : Obj) : Keep B h0 a (w.alloc o) :=
  ⟨h.below_.alloc (Nat.le_trans hB h.below_.size) o, fun g cs hg hb => (h.row g cs hg hb).alloc o⟩
/-- What has been passed on: all of it, or the first alone. -/
def seenOf (go : Bool) (l : List (Nat × Nat × Nat)) : List (Nat × Nat × Nat) := if go then l else l.take 1
def TV (t : Nat × Nat × Nat) : Value := .agg #[.int .i64 t.1, .int .i64 t.2.1, .int .i64 t.2.2]

set_option maxHeartbeats 1000000 in
theorem visit_bad (n v : Int) (A : Option Addr) (es : List Nat) (len c : Nat) (w : World) (hr : Es w w.heap.size A len es) (fv : Value) (hv : validB n es v = false) :
    Calls Try.prog 35 #[.agg #[.int .i64 n, .slice A len c], .int .i64 v, fv] w fun e w' => e = .returned (.tuple #[]) ∧ Below w.heap.size w w' := by
  have HR := Lib.hid hr; clear hr
  have HV := Lib.hid hv; clear hv
  go_enter Try.func35, Try.ntmps35
  go_wp2_with fail
  refine (valid_any n v A es len c _ ?_).mono ?_
  · exact ((HR.out.alloc (Nat.le_refl _) _).more (by simp))
  rintro e w1 ⟨rfl, hb⟩
  rw [HV.out]
  have HB := Lib.hid hb; clear hb
  go_wp2_with fail
  refine bodyPost_ret (results_none rfl _ _ _) rfl ⟨rfl, ?_⟩
  exact ((Below.refl _ _).alloc (Nat.le_refl _) _).trans (HB.out.mono (by simp))

set_option maxHeartbeats 2000000 in
theorem visit_ok (n m : Nat) (A : Option Addr) (es : List Nat) (len c B : Nat) (w : World) (hB : B ≤ w.heap.size) (hr : Es w B A len es) (K : Nat) (caps : Array Value) (hv : validB n es m = true)
    (hK : ∀ (args : Array Value) (W : World), (callFunc K args).run Try.prog W = .ok (.enter K args) W) (go : Bool) (I : List (Nat × Nat × Nat) → World → Prop) (h0 : ∀ W', Below w.heap.size w W' → I [] W') (hI : ∀ l W k, I l W → I l (World.drewN W k))
    (hy : ∀ l t W, (∃ r, l ++ t :: r = trios es m) → I l W → w.heap.size ≤ W.heap.size → Calls Try.prog K (#[TV t] ++ caps) W fun e W' => e = .returned (.bool go) ∧ I (l ++ [t]) W' ∧ Keep B w.heap.size W W') :
    Calls Try.prog 35 #[.agg #[.int .i64 n, .slice A len c], .int .i64 m, .func (.func K) #[] caps] w fun e w' => e = .returned (.tuple #[]) ∧ I (seenOf go (trios es m)) w' ∧ Below B w w' := by
  obtain ⟨hgood, _, hmn⟩ := of_decide_eq_true hv
  obtain ⟨_, hn, _, _⟩ := checkCode_zero hgood
  have hle := hr.le
  have HG := Lib.hid hgood; clear hgood
  have HR := Lib.hid hr; clear hr
  have HV := Lib.hid hv; clear hv
  have HY := Lib.hid hy; clear hy
  have HI := Lib.hid hI; clear hI
  have H0 := Lib.hid h0; clear h0
  have hmk := mk_u32 m (by omega)
  go_enter Try.func35, Try.ntmps35
  go_wp2_with fail
  refine (valid_any n m A es len c _ ?_).mono ?_
  · exact ((HR.out.alloc hB _).more (by simp; omega))
  rintro e w1 ⟨rfl, hb⟩
  rw [HV.out]
  have hg0 : GB w1 w.heap.size 24 (.int .i64 n) (.slice A len c) := GB.new (GB.made _ _ _ _) hb
  have hBl : Below w.heap.size w w1 := ((Below.refl _ _).alloc (Nat.le_refl _) _).trans (hb.mono (by simp))
  have HB := Lib.hid hBl; clear hb hBl
  have HG0 := Lib.hid hg0; clear hg0
  go_wp2_with fail
  go_loopw [7, 19] (fun _ i wr => ∃ (k : Nat) (L : List Nat), k ≤ m ∧ i = .int .i64 k ∧ Hid ((L.length = m ∧ ∀ v, v < k → nth L v = adj es v) ∧ Blk wr w1.heap.size 35 (urow L) ∧ GB wr w.heap.size 24 (.int .i64 n) (.slice A len c) ∧ Below w.heap.size w wr)) (fun _ i _ => m - (intOf i).toNat)
  case atStart =>
    refine ⟨0, List.replicate m 0, Nat.zero_le _, rfl, Lib.hid ⟨⟨by simp, fun v hv => absurd hv (by omega)⟩, Blk.new _ _ _, HG0.out.alloc _, HB.out.alloc HB.out.size _⟩⟩
  case round =>
    obtain ⟨k, L, hk, rfl, HJ⟩ := hrel
    by_cases hlt : k < m
    · have hg0 := HJ.out.2.2.1
      have c0 := hg0.c0
      have c1 := hg0.c1
      clear hg0
      go_wp2_with fail
      refine (neighbors_ok n k A es len c _ ?_ HG.out (by omega)).mono ?_
      · exact (HR.out.below (HJ.out.2.2.2.mono hB)).more (by have := HJ.out.2.2.2.size; omega)
      rintro e w2 ⟨rfl, hb⟩
      have hblk := HJ.out.2.1.below hb HJ.out.2.1.lt
      have cR : w2.cell? ⟨w1.heap.size, k, none⟩ = some (.int .u32 (nth L k : Int)) := by rw [hblk.cell, urow_get (by rw [HJ.out.1.1]; exact hlt)]
      have fR : w2.frozen? ⟨w1.heap.size, k, none⟩ = false := hblk.frozen k
      have HB2 := Lib.hid hb; clear hb
      have HBK := Lib.hid hblk; clear hblk
      go_wp2_with fail
      refine ⟨⟨k + 1, L.set k (adj es k), by omega, by go_num, Lib.hid ⟨⟨?_, fun v hv => ?_⟩, ?_, ?_, ?_⟩⟩, by simp [intOf]; omega⟩
      · rw [List.length_set]; exact HJ.out.1.1
      · rw [nth_set (by rw [HJ.out.1.1]; omega)]
        by_cases hvk : v = k
        · rw [if_pos hvk, hvk]
        · rw [if_neg hvk]; exact HJ.out.1.2 v (by omega)
      · have := HBK.out.set_ k (.int .u32 (adj es k : Int))
        rwa [urow_set] at this
      · exact (HJ.out.2.2.1.new HB2.out).far (p := ⟨w1.heap.size, k, none⟩) (by show w.heap.size ≠ w1.heap.size; have := HG0.out.lt; omega) _
      · exact (HJ.out.2.2.2.trans (HB2.out.mono HJ.out.2.2.2.size)).setCell (p := ⟨w1.heap.size, k, none⟩) (by show w.heap.size ≤ w1.heap.size; have := HG0.out.lt; omega) _
    · obtain rfl : k = m := by omega
      obtain ⟨⟨hL, hN⟩, hblk, _, hbl⟩ := HJ.out
      clear HJ hmk
      have HN := Lib.hid hN; clear hN
      have HL := Lib.hid hL; clear hL
      have hg1 : w.heap.size ≤ w1.heap.size := by have := HG0.out.lt; omega
      have HS := Lib.hid (show I [] wr ∧ Blk wr w1.heap.size 35 (urow L) ∧ Below B w wr from ⟨H0.out _ hbl, hblk, hbl.mono hB⟩)
      clear hblk hbl
      obtain ⟨wo, rfl⟩ : ∃ wo : World, wo = wr := ⟨_, rfl⟩
      go_wp2_with fail
      go_loopw [8, 9, 10, 11, 30] (fun _ _ _ _ i wr => ∃ (a : Nat) (l : List (Nat × Nat × Nat)), a ≤ k ∧ i = .int .i64 a ∧ Hid ((l ++ restA es k a = trios es k ∧ (go = false → l = [])) ∧ I l wr ∧ Blk wr w1.heap.size 35 (urow L) ∧ Below B w wr)) (fun _ _ _ _ i _ => k - (intOf i).toNat)
      case atStart => exact ⟨0, [], Nat.zero_le _, rfl, Lib.hid ⟨⟨rfl, fun _ => rfl⟩, HS.out⟩⟩
      case round =>
        obtain ⟨a, l, ha, rfl, HJ⟩ := hrel
        by_cases hak : a < k
        · obtain ⟨wo2, rfl⟩ : ∃ wo : World, wo = wr := ⟨_, rfl⟩
          go_wp2_with fail
          go_loopw [9, 10, 11] (fun i _ _ wr => ∃ (b : Nat) (l : List (Nat × Nat × Nat)), b ≤ k ∧ i = .int .i64 b ∧ Hid ((l ++ (restB es k a b ++ restA es k (a + 1)) = trios es k ∧ (go = false → l = [])) ∧ I l wr ∧ Blk wr w1.heap.size 35 (urow L) ∧ Below B w wr)) (fun i _ _ _ => k - (intOf i).toNat)
          case atStart =>
            refine ⟨a + 1, l, by omega, by go_num, Lib.hid ⟨⟨?_, HJ.out.1.2⟩, HJ.out.2⟩⟩
            rw [← restA_step hak]; exact HJ.out.1.1
          case round =>
            obtain ⟨b, l, hb, rfl, HJ⟩ := hrel
            by_cases hbk : b < k
            · have cA : wr.cell? ⟨w1.heap.size, a, none⟩ = some (.int .u32 (adj es a : Int)) := by rw [HJ.out.2.2.1.cell, urow_get (by rw [HL.out]; exact hak), HN.out a hak]
              have cB : wr.cell? ⟨w1.heap.size, b, none⟩ = some (.int .u32 (adj es b : Int)) := by rw [HJ.out.2.2.1.cell, urow_get (by rw [HL.out]; exact hbk), HN.out b hbk]
              have hla : adj es a < 4294967296 := adj_lt HR.out.2.2 a
              have hlb : adj es b < 4294967296 := adj_lt HR.out.2.2 b
              by_cases hbit : (adj es a).testBit b = true
              · have ht : (bits .and .u32 ((adj es a : Int) / 2 ^ b) 1 == 1) = true := by rw [bit_test _ _ hla]; exact hbit
                go_wp2_with fail
                refine ⟨⟨b + 1, l, by omega, by go_num, Lib.hid ⟨⟨?_, HJ.out.1.2⟩, HJ.out.2⟩⟩, by simp [intOf]; omega⟩
                have := HJ.out.1.1
                rw [restB_step hbk, if_pos hbit] at this
                exact this
              · have hbit2 : (adj es a).testBit b = false := by simpa using hbit
                have ht : (bits .and .u32 ((adj es a : Int) / 2 ^ b) 1 == 1) = false := by rw [bit_test _ _ hla]; exact hbit2
                clear hbit
                go_wp2_with fail
                clear ht
                go_quiet (fail)
                obtain ⟨wo3, hwo3⟩ : ∃ wo : World, wo = wr.drewN nq := ⟨_, rfl⟩
                rw [← hwo3]
                have HW := Lib.hid hwo3; clear hwo3
                clear cA cB
                go_wp2_with fail
                rw [bits_and _ _ hla hlb]
                go_loopw [11] (fun i wr => ∃ (d : Nat) (l : List (Nat × Nat × Nat)), d ≤ k ∧ i = .int .i64 d ∧ Hid ((l ++ (restC es k a b d ++ (restB es k a (b + 1) ++ restA es k (a + 1))) = trios es k ∧ (go = false → l = [])) ∧ I l wr ∧ Blk wr w1.heap.size 35 (urow L) ∧ Below B w wr)) (fun i _ => k - (intOf i).toNat)
                case atStart =>
                  refine ⟨b + 1, l, by omega, by go_num, Lib.hid ⟨⟨?_, HJ.out.1.2⟩, ?_⟩⟩
                  · have := HJ.out.1.1
                    rw [restB_step hbk, hbit2] at this
                    simpa using this
                  · rw [HW.out]
                    exact ⟨HI.out _ _ _ HJ.out.2.1, HJ.out.2.2.1.drewN _, below_drewN HJ.out.2.2.2 _⟩
                case round =>
                  obtain ⟨d, l, hd, rfl, HJ⟩ := hrel
                  clear HW
                  by_cases hdk : d < k
                  · have hlt2 : (adj es a &&& adj es b) < 4294967296 := Nat.lt_of_le_of_lt Nat.and_le_left hla
                    by_cases hbit3 : (adj es a &&& adj es b).testBit d = true
                    · have ht : (bits .and .u32 (((adj es a &&& adj es b : Nat) : Int) / 2 ^ d) 1 == 1) = true := by rw [bit_test _ _ hlt2]; exact hbit3
                      go_wp2_with fail
                      have hpre : ∃ r, l ++ (a, b, d) :: r = trios es k := by
                        have := HJ.out.1.1
                        rw [restC_step hdk, hbit3] at this
                        exact ⟨_, by simpa using this⟩
                      have HPRE := Lib.hid hpre; clear hpre
                      refine (HY.out l (a, b, d) wr HPRE.out HJ.out.2.1 (by have := HJ.out.2.2.1.lt; omega)).mono ?_
                      rintro e w2 ⟨rfl, hI2, hkp⟩
                      have hB2 : Below B w w2 := HJ.out.2.2.2.trans hkp.below
                      have hblk2 := hkp.blk HJ.out.2.2.1 hg1
                      have H2 := Lib.hid (show I (l ++ [(a, b, d)]) w2 ∧ Blk w2 w1.heap.size 35 (urow L) ∧ Below B w w2 from ⟨hI2, hblk2, hB2⟩)
                      clear hI2 hkp hB2 hblk2
                      cases hgo : go with
                      | true =>
                        have HGO := Lib.hid hgo; clear hgo
                        go_wp2_with fail
                        refine ⟨⟨d + 1, l ++ [(a, b, d)], by omega, by go_num, Lib.hid ⟨⟨?_, fun h => by rw [HGO.out] at h; cases h⟩, H2.out⟩⟩, by simp [intOf]; omega⟩
                        have := HJ.out.1.1
                        rw [restC_step hdk, hbit3] at this
                        simpa using this
                      | false =>
                        have HGO := Lib.hid hgo; clear hgo
                        go_wp2_with fail
                        refine bodyPost_ret (results_none rfl _ _ _) rfl ⟨rfl, ?_, H2.out.2.2⟩
                        obtain ⟨⟨h1, h2⟩, _⟩ := HJ.out
                        have hl := h2 HGO.out
                        subst hl
                        rw [restC_step hdk, hbit3] at h1
                        rw [← h1, HGO.out]
                        exact H2.out.1
                    · have hbit4 : (adj es a &&& adj es b).testBit d = false := by simpa using hbit3
                      clear hbit3
                      have ht : (bits .and .u32 (((adj es a &&& adj es b : Nat) : Int) / 2 ^ d) 1 == 1) = false := by rw [bit_test _ _ hlt2]; exact hbit4
                      go_wp2_with fail
                      refine ⟨⟨d + 1, l, by omega, by go_num, Lib.hid ⟨⟨?_, HJ.out.1.2⟩, HJ.out.2⟩⟩, by simp [intOf]; omega⟩
                      have := HJ.out.1.1
                      rw [restC_step hdk, hbit4] at this
                      simpa using this
                  · go_wp2_with fail
                    refine ⟨⟨b + 1, l, by omega, by go_num, Lib.hid ⟨⟨?_, HJ.out.1.2⟩, HJ.out.2⟩⟩, by simp [intOf]; omega⟩
                    have := HJ.out.1.1
                    rw [restC_end (by omega)] at this
                    simpa using this
            · go_wp2_with fail
              refine ⟨⟨a + 1, l, by omega, by go_num, Lib.hid ⟨⟨?_, HJ.out.1.2⟩, HJ.out.2⟩⟩, by simp [intOf]; omega⟩
              have := HJ.out.1.1
              rw [restB_end (by omega)] at this
              simpa using this
        · go_wp2_with fail
          refine bodyPost_end (results_none rfl _ _ _) rfl ⟨rfl, ?_, HJ.out.2.2.2⟩
          obtain ⟨⟨h1, h2⟩, h3, _⟩ := HJ.out
          rw [restA_end (by omega), List.append_nil] at h1
          rw [← h1]
          cases hgo : go with
          | true => exact h3
          | false => have := h2 hgo; subst this; exact h3

end Go.Proofs.Ytdagdamliggfmaa
