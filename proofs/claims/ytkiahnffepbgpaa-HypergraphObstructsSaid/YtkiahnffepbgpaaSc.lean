/-
  Contract of hypergraph.shortestCycle.
-/
import Derived.Test.YtkiahnffepbgpaaScW
import Derived.Test.YtkiahnffepbgpaaFew
import Derived.Laws.EntriesVeiled
namespace Go.Proofs.Ytkiahnffepbgpaa
open Go.RowKit
set_option linter.unusedSimpArgs false
set_option linter.unusedVariables false

theorem own_two {w : World} {base : Nat} (hb : base ≤ w.heap.size) (s t : Nat) : (w.alloc (.cells #[.int .i64 (s : Int), .int .i64 (t : Int)] 3)).ownsRow base 3 1 (.slice (some ⟨w.heap.size, 0, none⟩) 2 2) [s, t].length (I64 (ints [s, t])) :=
  ⟨rfl, .inr ⟨w.heap.size, 2, #[.int .i64 (s : Int), .int .i64 (t : Int)], rfl, hb, heap_alloc_new w _, Nat.le_refl _, by unfold maxLen; omega, rfl, rfl⟩⟩
set_option maxRecDepth 100000 in
set_option maxHeartbeats 8000000 in
theorem shortestCycle_any (n : Nat) (hn : n ≤ 32) (R : List Nat) (hl : R.length = 32) (hR : ∀ x ∈ R, x < 2 ^ n) (w : World) :
    Calls Try.prog 41 #[.int .i64 n, .agg (urow R)] w (RowRet w.heap.size (scF R n) w) := by
  go_enter Try.func41, Try.ntmps41
  go_wp2_with (refine wpList_load_blk rfl 78 (.tmp 3) rfl (w.heap.size + 1) _ (urow R) _ (by simpa using Blk.new (w.alloc _) _ (urow R)) rfl Try.underlying78 rfl (arr_size R hl) ?_)
  refine (cycleLength_fn n hn R hl hR _).mono ?_
  rintro e w1 ⟨rfl, hb⟩
  have hbn : Blk w1 w.heap.size 3 #[.int .i64 (n : Int)] := ((Blk.new w _ _).alloc _).below hb (by simp; omega)
  have hbr : Blk w1 (w.heap.size + 1) 78 (urow R) := Blk.below (by simpa using Blk.new (w.alloc _) _ (urow R)) hb (by simp)
  have hsz : w.heap.size + 1 < w1.heap.size := by have := hb.size; simp at this; omega
  have HW := Lib.hid (show Below w.heap.size w w1 from bthen (bthen (al w _) (al _ _) (by simp)) hb (by simp; omega))
  clear hb
  have HBN := Lib.hid hbn; clear hbn
  have HBR := Lib.hid hbr; clear hbr
  obtain ⟨L, hLe⟩ : ∃ L, L = cylF R n := ⟨_, rfl⟩
  rw [← hLe]
  have hok := cylF_ok hn hR
  rw [← hLe] at hok
  have HL := Lib.hid hLe; clear hLe
  by_cases hL0 : L = 0
  · have t0 : ((L : Int) == 0) = true := by simp [hL0]
    have HE := Lib.hid (show scF R n = [] by rw [scF, ← HL.out, if_pos hL0])
    clear hL0 hok
    go_wp2_with fail
    go_ret
    exact ⟨_, rfl, by rw [HE.out]; exact own_nil _ _ _, fun _ => rfl, HW.out.alloc HW.out.size _⟩
  · have t0 : ((L : Int) == 0) = false := by simp; omega
    have hL3 : 3 ≤ L ∧ L ≤ 40 := by rcases hok with h | h <;> omega
    have HE := Lib.hid (show scF R n = firstNE ((List.range n).map (scRow R n L)) by rw [scF, ← HL.out, if_neg hL0])
    clear hL0 hok
    go_upto_region 6 with (fail)
    obtain ⟨base, hbe⟩ : ∃ b, b = w1.heap.size + 2 := ⟨_, rfl⟩
    have hcap : SCap n L R w1.heap.size (w.heap.size + 1) w.heap.size (w1.heap.size + 1) base ((w1.alloc (.cells #[.int .i64 (L : Int)] 3)).alloc (.cells #[.func (.func 51) #[] #[.pointer (some ⟨w1.heap.size, 0, none⟩), .pointer (some ⟨w.heap.size + 1, 0, none⟩), .pointer (some ⟨w.heap.size, 0, none⟩), .pointer (some ⟨w1.heap.size + 1, 0, none⟩)]] 89)) :=
      ⟨(Blk.new w1 _ _).alloc _, (HBR.out.alloc _).alloc _, (HBN.out.alloc _).alloc _, by simpa using Blk.new (w1.alloc (.cells #[.int .i64 (L : Int)] 3)) 89 #[.func (.func 51) #[] #[.pointer (some ⟨w1.heap.size, 0, none⟩), .pointer (some ⟨w.heap.size + 1, 0, none⟩), .pointer (some ⟨w.heap.size, 0, none⟩), .pointer (some ⟨w1.heap.size + 1, 0, none⟩)]], ⟨by omega, by omega⟩, by omega, by omega⟩
    have HBW := Lib.hid (show Below w.heap.size w ((w1.alloc (.cells #[.int .i64 (L : Int)] 3)).alloc (.cells #[.func (.func 51) #[] #[.pointer (some ⟨w1.heap.size, 0, none⟩), .pointer (some ⟨w.heap.size + 1, 0, none⟩), .pointer (some ⟨w.heap.size, 0, none⟩), .pointer (some ⟨w1.heap.size + 1, 0, none⟩)]] 89)) from bthen HW.out (bthen (al _ _) (al _ _) (by simp)) HW.out.size)
    have hws : base = ((w1.alloc (.cells #[.int .i64 (L : Int)] 3)).alloc (.cells #[.func (.func 51) #[] #[.pointer (some ⟨w1.heap.size, 0, none⟩), .pointer (some ⟨w.heap.size + 1, 0, none⟩), .pointer (some ⟨w.heap.size, 0, none⟩), .pointer (some ⟨w1.heap.size + 1, 0, none⟩)]] 89)).heap.size := by simp; omega
    have hwle : w.heap.size ≤ base := by omega
    have HC := Lib.hid hcap; clear hcap
    clear hbe
    generalize ((w1.alloc (.cells #[.int .i64 (L : Int)] 3)).alloc (.cells #[.func (.func 51) #[] #[.pointer (some ⟨w1.heap.size, 0, none⟩), .pointer (some ⟨w.heap.size + 1, 0, none⟩), .pointer (some ⟨w.heap.size, 0, none⟩), .pointer (some ⟨w1.heap.size + 1, 0, none⟩)]] 89)) = W0 at *
    have HWS := Lib.hid hws; clear hws
    clear HW HBN HBR
    generalize hq2 : w1.heap.size = q2 at *
    generalize hq4 : w.heap.size = q4 at *
    have HQ2 := Lib.hid hq2; have HQ4 := Lib.hid hq4; clear hq2 hq4
    have c0 := HC.out.nn.cell 0
    simp only [List.getElem?_toArray, List.getElem?_cons_zero] at c0
    go_wp2_with fail
    clear c0
    go_loopw [17] (fun iv wr => ∃ s : Nat, iv = .int .i64 s ∧ s ≤ n ∧ Hid ((∀ j, j < s → scRow R n L j = []) ∧ Below base W0 wr)) (fun iv _ => n - (intOf iv).toNat)
    case atStart => exact ⟨0, rfl, Nat.zero_le _, Lib.hid ⟨fun j hj => by omega, Below.refl _ _⟩⟩
    case round =>
      obtain ⟨s, rfl, hs, HS⟩ := hrel
      by_cases hsn : s < n
      · have hcap2 := HC.out.below HS.out.2
        have c0 := hcap2.nn.cell 0
        simp only [List.getElem?_toArray, List.getElem?_cons_zero] at c0
        clear hcap2
        go_wp2_with fail
        clear c0
        obtain ⟨wo, rfl⟩ : ∃ wo : World, wo = wr := ⟨_, rfl⟩
        go_loopw [21] (fun iv wr => ∃ t : Nat, iv = .int .i64 t ∧ t ≤ n ∧ Hid ((∀ j, j < t → scT R n L s j = []) ∧ Below base W0 wr)) (fun iv _ => n - (intOf iv).toNat)
        case atStart => exact ⟨0, rfl, Nat.zero_le _, Lib.hid ⟨fun j hj => by omega, HS.out.2⟩⟩
        case round =>
          obtain ⟨t, rfl, ht, HT⟩ := hrel
          by_cases htn : t < n
          · have hcap2 := HC.out.below HT.out.2
            have HC2 := Lib.hid hcap2; clear hcap2
            by_cases hst : s < t
            · have t1 : decide ((t : Int) > (s : Int)) = true := by simp; omega
              have i1 : (0 : Int) ≤ (s : Int) := by omega
              have i2 : (s : Int) < 32 := by omega
              have i3 : (0 : Int) ≤ (t : Int) := by omega
              have i4 : (t : Int) < 32 := by omega
              have cr : wr.cell? ⟨q4 + 1, s, none⟩ = some (.int .u32 (nth R s : Int)) := by rw [HC2.out.ro.cell, urow_get (by omega)]
              have hRs : nth R s < 4294967296 := Nat.lt_of_lt_of_le (nth_lt2 hR s) (two_pow_le hn)
              have hbit := bit_one' (nth R s) t hRs
              cases hb : (nth R s).testBit t with
              | false =>
                rw [hb] at hbit
                have HNO := Lib.hid (show scT R n L s t = [] by rw [scT, hb]; simp)
                clear hb
                go_wp2_with fail
                exact ⟨⟨t + 1, by go_num, by omega, Lib.hid ⟨fun j hj => by
                  rcases Nat.lt_or_ge j t with h | h
                  · exact HT.out.1 j h
                  · obtain rfl : j = t := by omega
                    exact HNO.out, HT.out.2⟩⟩, by simp [intOf]; omega⟩
              | true =>
                rw [hb] at hbit
                have HYES := Lib.hid (show scT R n L s t = extF R n L (L - 2) [s, t] 0 by rw [scT, hb]; simp [hst])
                clear hb
                have cfn := HC2.out.fn.cell 0
                simp only [List.getElem?_toArray, List.getElem?_cons_zero] at cfn
                go_wp2_with fail
                clear cr hbit cfn i1 i2 i3 i4 t1 hRs
                refine (extend_any n L hn R hl hR q2 (q4 + 1) q4 (q2 + 1) base hL3.2 (L - 2) [s, t] 0 _ _ ((HC2.out.below ((al _ _).mono (by have := HT.out.2.size; have := HWS.out; omega)))) (by have := HT.out.2.size; have := HWS.out; simp; omega) (own_two (by have := HT.out.2.size; have := HWS.out; omega) s t) (by simp; omega) (by simp) (by intro x hx; simp at hx; omega) (by omega)).mono ?_
                rintro e w8 ⟨v8, rfl, hown8, hnil8, hb8⟩
                rw [← HYES.out] at hown8 hnil8
                have HB8 := Lib.hid (HT.out.2.trans (((al _ _).mono (show base ≤ wr.heap.size by have := HT.out.2.size; have := HWS.out; omega)).trans hb8)); clear hb8
                by_cases hne : scT R n L s t = []
                · obtain rfl := hnil8 hne
                  have HNE := Lib.hid hne; clear hne hown8 hnil8
                  go_wp2_with fail
                  exact ⟨⟨t + 1, by go_num, by omega, Lib.hid ⟨fun j hj => by
                    rcases Nat.lt_or_ge j t with h | h
                    · exact HT.out.1 j h
                    · obtain rfl : j = t := by omega
                      exact HNE.out, HB8.out⟩⟩, by simp [intOf]; omega⟩
                · obtain ⟨g8, c8, rfl, hg8⟩ := own_some hown8 (List.length_pos_iff.2 hne)
                  have HE1 := Lib.hid (show scRow R n L s = scT R n L s t from firstNE_at HT.out.1 hne htn)
                  have HE2 := Lib.hid (show scF R n = scT R n L s t by rw [HE.out, ← HE1.out]; exact firstNE_at HS.out.1 (by rw [HE1.out]; exact hne) hsn)
                  have HO8 := Lib.hid hown8
                  have HNE := Lib.hid hne; clear hne hown8 hnil8
                  generalize scT R n L s t = rs at *
                  go_wp2_with fail
                  go_ret
                  exact ⟨_, rfl, by rw [HE2.out]; exact own_lower HO8.out (by first | exact hwle | (rw [HQ4.out]; exact hwle)), fun h => absurd (by rw [← HE2.out]; exact h) HNE.out, by first | exact HBW.out.trans (HB8.out.mono hwle) | (rw [HQ4.out]; exact HBW.out.trans (HB8.out.mono hwle))⟩
            · have t1 : decide ((t : Int) > (s : Int)) = false := by simp; omega
              have HNO := Lib.hid (show scT R n L s t = [] by rw [scT]; simp [hst])
              go_wp2_with fail
              exact ⟨⟨t + 1, by go_num, by omega, Lib.hid ⟨fun j hj => by
                rcases Nat.lt_or_ge j t with h | h
                · exact HT.out.1 j h
                · obtain rfl : j = t := by omega
                  exact HNO.out, HT.out.2⟩⟩, by simp [intOf]; omega⟩
          · obtain rfl : t = n := by omega
            have HNO := Lib.hid (show scRow R t L s = [] from firstNE_none HT.out.1)
            go_wp2_with fail
            exact ⟨⟨s + 1, by go_num, by omega, Lib.hid ⟨fun j hj => by
              rcases Nat.lt_or_ge j s with h | h
              · exact HS.out.1 j h
              · obtain rfl : j = s := by omega
                exact HNO.out, HT.out.2⟩⟩, by simp [intOf]; omega⟩
      · obtain rfl : s = n := by omega
        have HNO := Lib.hid (show scF R s = [] by rw [HE.out]; exact firstNE_none HS.out.1)
        go_wp2_with fail
        go_ret
        exact ⟨_, rfl, by rw [HNO.out]; exact own_nil _ _ _, fun _ => rfl, by first | exact HBW.out.trans (HS.out.2.mono hwle) | (rw [HQ4.out]; exact HBW.out.trans (HS.out.2.mono hwle))⟩
end Go.Proofs.Ytkiahnffepbgpaa
