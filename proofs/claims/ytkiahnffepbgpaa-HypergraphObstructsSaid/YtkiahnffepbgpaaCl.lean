/-
  Contract of hypergraph.smallestClique.
-/
import Derived.Test.YtkiahnffepbgpaaObsW
import Derived.Test.YtkiahnffepbgpaaClP
import Derived.Test.YtkiahnffepbgpaaSc
namespace Go.Proofs.Ytkiahnffepbgpaa
open Go.RowKit
set_option linter.unusedSimpArgs false
set_option linter.unusedVariables false

set_option maxRecDepth 100000 in
set_option maxHeartbeats 8000000 in
theorem smallestClique_any (n : Nat) (hn : n ≤ 32) (A : Option Addr) (es : List Nat) (len cp most : Nat) (hes : ∀ e ∈ es, e < 2 ^ n) (hl64 : len ≤ 64) (hmost : most ≤ 40) (w : World) (hr : Es w w.heap.size A len es) :
    Calls Try.prog 42 #[.agg #[.int .i64 n, .slice A len cp], .agg (urow (adjRow n es)), .int .i64 most] w (RowRet w.heap.size (clF n es most) w) := by
  have HES := Lib.hid hes
  have HLE := Lib.hid hr.len
  have HE32 := Lib.hid (lt32_of hn hes)
  have HR := Lib.hid hr; clear hr hes
  go_enter Try.func42, Try.ntmps42
  go_upto_region 3 with (fail)
  have HC0 := Lib.hid (show Es ((w.alloc (.cells #[.int .i64 (n : Int), .slice A len cp] 24)).alloc (.cells (urow (adjRow n es)) 78)) w.heap.size A len es from (HR.out.alloc (Nat.le_refl _) _).alloc (by simp) _)
  go_loop [7, 19] (fun lv iv => ∃ k : Nat, iv = .int .i64 k ∧ k ≤ len ∧ lv = .int .u32 (linkOf (es.take k) : Nat)) (fun _ iv => len - (intOf iv).toNat)
  case atStart => exact ⟨0, rfl, Nat.zero_le _, rfl⟩
  case round =>
    obtain ⟨k, rfl, hk, rfl⟩ := hrel
    by_cases hkl : k < len
    · obtain ⟨ad, rfl, hb1, hcell⟩ := HC0.out.at_ hkl
      have hlk : k < es.length := by have := HLE.out; omega
      have hek : nth es k < 4294967296 := HE32.out _ (nth_mem hlk)
      have hll : linkOf (es.take k) < 4294967296 := Nat.lt_of_lt_of_le (linkOf_lt (n := n) fun e he => HES.out e (List.mem_of_mem_take he)) (two_pow_le hn)
      have eor := bits_or _ _ hll hek
      have HST := Lib.hid (linkOf_take hlk)
      generalize linkOf (es.take k) = lk at *
      clear hlk
      go_wp2_with fail
      exact ⟨⟨k + 1, by go_num, by omega, by rw [HST.out]⟩, by simp [intOf]; omega⟩
    · have HT := Lib.hid (show linkOf (es.take k) = linkOf es by rw [List.take_of_length_le (by have := HLE.out; omega)])
      rw [HT.out]
      obtain rfl : len = k := by omega
      have hll : linkOf es < 2 ^ n := linkOf_lt HES.out
      have hl32 : linkOf es < 4294967296 := Nat.lt_of_lt_of_le hll (two_pow_le hn)
      obtain ⟨lk, hlk⟩ : ∃ x, x = linkOf es := ⟨_, rfl⟩
      rw [← hlk] at hll hl32 ⊢
      have HLL := Lib.hid hll; clear hll
      have HLK := Lib.hid hlk; clear hlk HT
      by_cases h0 : lk = 0
      · have t0 : ((lk : Int) == 0) = true := by simp [h0]
        have HE := Lib.hid (show clF n es most = [] by rw [clF, ← HLK.out, if_pos h0])
        clear h0
        go_wp2_with fail
        go_ret
        exact ⟨_, rfl, by rw [HE.out]; exact own_nil _ _ _, fun _ => rfl, bthen (al w _) (al _ _) (by simp)⟩
      · have t0 : ((lk : Int) == 0) = false := by simp; omega
        have HN0 := Lib.hid h0; clear h0
        go_upto_region 12 with (fail)
        have hcap : Cap n A es len cp w.heap.size (w.heap.size + 1 + 1) (w.heap.size + 1) (((w.alloc (.cells #[.int .i64 (n : Int), .slice A len cp] 24)).alloc (.cells (urow (adjRow n es)) 78)).alloc (.cells #[(.func (.func 53) #[] #[.pointer (some ⟨w.heap.size, 0, none⟩), .pointer (some ⟨w.heap.size + 1 + 1, 0, none⟩), .pointer (some ⟨w.heap.size + 1, 0, none⟩)])] 91)) :=
          ⟨(HC0.out.alloc (by simp; omega) _).more (by simp; omega), ((GB.made w _ _ _).alloc _).alloc _, by simpa using Blk.new ((w.alloc (.cells #[.int .i64 (n : Int), .slice A len cp] 24)).alloc (.cells (urow (adjRow n es)) 78)) 91 #[(.func (.func 53) #[] #[.pointer (some ⟨w.heap.size, 0, none⟩), .pointer (some ⟨w.heap.size + 1 + 1, 0, none⟩), .pointer (some ⟨w.heap.size + 1, 0, none⟩)])], Blk.alloc (by simpa using Blk.new (w.alloc (.cells #[.int .i64 (n : Int), .slice A len cp] 24)) 78 (urow (adjRow n es))) _⟩
        have HBW := Lib.hid (show Below w.heap.size w (((w.alloc (.cells #[.int .i64 (n : Int), .slice A len cp] 24)).alloc (.cells (urow (adjRow n es)) 78)).alloc (.cells #[(.func (.func 53) #[] #[.pointer (some ⟨w.heap.size, 0, none⟩), .pointer (some ⟨w.heap.size + 1 + 1, 0, none⟩), .pointer (some ⟨w.heap.size + 1, 0, none⟩)])] 91)) from bthen (bthen (al w _) (al _ _) (by simp)) (al _ _) (by simp; omega))
        have hws : w.heap.size + 3 = (((w.alloc (.cells #[.int .i64 (n : Int), .slice A len cp] 24)).alloc (.cells (urow (adjRow n es)) 78)).alloc (.cells #[(.func (.func 53) #[] #[.pointer (some ⟨w.heap.size, 0, none⟩), .pointer (some ⟨w.heap.size + 1 + 1, 0, none⟩), .pointer (some ⟨w.heap.size + 1, 0, none⟩)])] 91)).heap.size := by simp
        have HC := Lib.hid hcap; clear hcap
        generalize (((w.alloc (.cells #[.int .i64 (n : Int), .slice A len cp] 24)).alloc (.cells (urow (adjRow n es)) 78)).alloc (.cells #[(.func (.func 53) #[] #[.pointer (some ⟨w.heap.size, 0, none⟩), .pointer (some ⟨w.heap.size + 1 + 1, 0, none⟩), .pointer (some ⟨w.heap.size + 1, 0, none⟩)])] 91)) = W0 at *
        have hbw : w.heap.size ≤ W0.heap.size := by omega
        have hp2 : w.heap.size + 1 + 1 < W0.heap.size := by omega
        have HWS := Lib.hid hws; clear hws HC0
        generalize hq3 : w.heap.size = q3 at *
        generalize hq4 : q3 + 1 + 1 = q4 at *
        generalize hq5 : q3 + 1 = q5 at *
        have HQ3 := Lib.hid hq3; have HQ4 := Lib.hid hq4; have HQ5 := Lib.hid hq5; clear hq3 hq4 hq5
        go_loopw [11] (fun mv wr => ∃ m : Nat, mv = .int .i64 m ∧ 3 ≤ m ∧ m ≤ 41 ∧ Hid ((∀ j, 3 ≤ j → j < m → extB n es 0 lk j = false) ∧ Below W0.heap.size W0 wr)) (fun mv _ => 41 - (intOf mv).toNat)
        case atStart => exact ⟨3, rfl, by omega, by omega, Lib.hid ⟨fun j h1 h2 => by omega, Below.refl _ _⟩⟩
        case round =>
          obtain ⟨m, rfl, hm3, hm41, HM⟩ := hrel
          by_cases hmm : m ≤ most
          · have t1 : decide ((m : Int) ≤ (most : Int)) = true := by simp; omega
            have cfn : wr.cell? ⟨q4, 0, none⟩ = some (.func (.func 53) #[] #[.pointer (some ⟨q3, 0, none⟩), .pointer (some ⟨q4, 0, none⟩), .pointer (some ⟨q5, 0, none⟩)]) := (HC.out.new HM.out.2).fn.cell 0
            have HPZ := Lib.hid (show Pre n es 0 lk by rw [HLK.out]; exact pre_zero HES.out)
            go_wp2_with fail
            refine (possible_any n hn A es len cp q3 q4 q5 HES.out hl64 m 0 lk _ (by omega) (HC.out.new HM.out.2) HPZ.out).mono ?_
            rintro e w5 ⟨_, rfl, ⟨b, rfl, hb⟩, hb5⟩
            rw [← extB_iff (by rw [HLK.out]; exact linkOf_lt HES.out)] at hb
            have HB5 := Lib.hid (bthen HM.out.2 hb5 HM.out.2.size); clear hb5 t1 cfn
            cases b with
            | false =>
              have HNO := Lib.hid (show extB n es 0 lk m = false by
                cases h : extB n es 0 lk m with
                | false => rfl
                | true => exact absurd (hb.2 h) (by simp))
              clear hb
              go_wp2_with fail
              exact ⟨⟨m + 1, by go_num, by omega, by omega, Lib.hid ⟨fun j h1 h2 => by
                rcases Nat.lt_or_ge j m with h | h
                · exact HM.out.1 j h1 h
                · obtain rfl : j = m := by omega
                  exact HNO.out, HB5.out⟩⟩, by simp [intOf]; omega⟩
            | true =>
              have HYES := Lib.hid (hb.1 rfl); clear hb
              have HE := Lib.hid (show clF n es most = (grdy n es m n).1 by
                have e : clLen n es most = some m := find_at (fun j hj => by
                  by_cases h3 : 3 ≤ j
                  · have := HM.out.1 j h3 hj
                    rw [HLK.out] at this
                    rw [this]; simp
                  · simp [h3]) (by rw [← HLK.out, HYES.out]; simp [hm3]) (by omega)
                rw [clF, ← HLK.out, if_neg HN0.out, e])
              have t2 : decide ((m : Int) > (most : Int)) = false := by simp; omega
              have t3 : decide (most < m) = false := by simp; omega
              have c0 := (HC.out.new HB5.out).gb.c0
              go_wp2_with fail
              clear c0 t2 t3 hmm
              have hm40 : m ≤ 41 := hm41
              have HGP := Lib.hid (grdy_pre hn HES.out m)
              go_loopw [12, 13, 14, 48] (fun lv cv rv iv wr => ∃ (k c r : Nat) (l : List Nat), iv = .int .i64 k ∧ k ≤ n ∧ cv = .int .u32 c ∧ rv = .int .u32 r ∧ Hid (grdy n es m k = (l, c, r) ∧ wr.ownsRow W0.heap.size 3 1 lv l.length (I64 (ints l)) ∧ Below W0.heap.size W0 wr ∧ (l = [] → lv = .slice none 0 0))) (fun _ _ _ iv _ => n - (intOf iv).toNat)
              case atStart => exact ⟨0, 0, lk, [], rfl, Nat.zero_le _, rfl, rfl, Lib.hid ⟨by rw [HLK.out]; rfl, own_nil _ _ _, HB5.out, fun _ => rfl⟩⟩
              case round =>
                obtain ⟨k, c, r, l, rfl, hk, rfl, rfl, HG⟩ := hrel
                obtain ⟨A1, c1, hv⟩ := own_form HG.out.2.1
                subst hv
                by_cases hkn : k < n
                · obtain ⟨hpre, hll⟩ := HGP.out k hk
                  rw [HG.out.1] at hpre hll
                  have hpre' : Pre n es c r := hpre
                  have hll' : l.length ≤ k := hll
                  have HP := Lib.hid hpre'; clear hpre hpre' hll
                  have hc32 : c < 4294967296 := Nat.lt_of_lt_of_le HP.out.cl (two_pow_le hn)
                  have hr32 : r < 4294967296 := Nat.lt_of_lt_of_le HP.out.rl (two_pow_le hn)
                  have hbit := bit_zero' r k hr32
                  have i1 : (0 : Int) ≤ (k : Int) := by omega
                  have i2 : (k : Int) < 32 := by omega
                  cases hrk : r.testBit k with
                  | false =>
                    rw [hrk] at hbit
                    have HST := Lib.hid (show grdy n es m (k + 1) = (l, c, r) by rw [grdy, HG.out.1, if_neg (by simp [hrk])])
                    clear hrk
                    go_wp2_with fail
                    exact ⟨⟨k + 1, c, r, l, by go_num, by omega, rfl, rfl, Lib.hid ⟨HST.out, HG.out.2⟩⟩, by simp [intOf]; omega⟩
                  | true =>
                    rw [hrk] at hbit
                    have hpv32 : 2 ^ k < 4294967296 := pow2_lt32 (by omega)
                    have ean := bits_andNot r (2 ^ k) hr32 hpv32
                    rw [← shl_mod k (by omega)] at ean
                    have hnr : andn r (2 ^ k) < 4294967296 := andn_lt hr32
                    have HRK := Lib.hid hrk; clear hrk
                    have HPT := Lib.hid (HP.out.take hn (fun u hu => hu) HRK.out)
                    have hadj : adj es k < 4294967296 := adj_lt HE32.out k
                    have hcor : c ||| 2 ^ k < 4294967296 := Nat.or_lt_two_pow (n := 32) hc32 hpv32
                    have HGD := Lib.hid HG.out.1
                    have HGO := Lib.hid HG.out.2.1
                    have HGB := Lib.hid HG.out.2.2.1
                    have HGN := Lib.hid HG.out.2.2.2
                    clear HG
                    by_cases hlm : l.length < m
                    · have HSTY := Lib.hid (fun (h : extB n es (c ||| 2 ^ k) (andn r (2 ^ k) &&& adj es k) (m - l.length - 1) = true) => show grdy n es m (k + 1) = (l ++ [k], c ||| 2 ^ k, andn r (2 ^ k) &&& adj es k) by
                        rw [grdy, HGD.out, if_pos HRK.out, if_pos (by simp [hlm]; exact h)])
                      have HSTN := Lib.hid (fun (h : extB n es (c ||| 2 ^ k) (andn r (2 ^ k) &&& adj es k) (m - l.length - 1) = false) => show grdy n es m (k + 1) = (l, c, andn r (2 ^ k)) by
                        rw [grdy, HGD.out, if_pos HRK.out, if_neg (by simp [h])])
                      have HSB1 := Lib.hid (show ((m : Int) - (l.length : Int)) = ((m - l.length : Nat) : Int) by omega)
                      have HSB2 := Lib.hid (show (((m - l.length : Nat) : Int) - 1) = ((m - l.length - 1 : Nat) : Int) by omega)
                      have HCN := Lib.hid (fun W (hb : Below wr.heap.size wr W) => HC.out.new (bthen HGB.out hb HGB.out.size))
                      obtain ⟨pv, hpv⟩ : ∃ x, x = 2 ^ k := ⟨_, rfl⟩
                      obtain ⟨nr, hnre⟩ : ∃ x, x = andn r pv := ⟨_, rfl⟩
                      rw [← hpv] at HPT hcor HSTY HSTN hpv32 hnr
                      rw [← hnre] at HPT HSTY HSTN hnr
                      rw [← hpv, ← hnre] at ean
                      have HIC := Lib.hid (fun W (hb : Below wr.heap.size wr W) => possible_any n hn A es len cp q3 q4 q5 HES.out hl64 (m - l.length - 1) (c ||| pv) (nr &&& adj es k) W (by omega) (HCN.out W hb) HPT.out)
                      have HPV := Lib.hid hpv; have HNR := Lib.hid hnre; clear hpv hnre
                      go_upto_region 23 with (fail)
                      refine wp_region_each (kss := [[], [(0, 60)], [], [(1, 61), (2, 62)], [(3, 63)], [(4, 64)], [(4, 64)], [(4, 64)], [(4, 64), (7, 67)], [(4, 64), (6, 66), (8, 68)], [(4, 64)], [(4, 64)], [(4, 64), (11, 71)], [(4, 64), (12, 72)], [(4, 64), (10, 70), (13, 73)], [(4, 64)], [(4, 64)], [(4, 64), (16, 76)], [(4, 64), (15, 75), (17, 77)], [(4, 64), (18, 78)], [(4, 64), (5, 65), (9, 69), (14, 74), (19, 79)], [(4, 64), (20, 80)]]) [(12, .slice A1 (l.length) c1), (11, .int .i64 m), (10, .pointer (some ⟨q4, 0, none⟩)), (13, .int .u32 c), (15, .int .i64 k), (14, .int .u32 nr), (4, .pointer (some ⟨q5, 0, none⟩))] [fun zz _ => zz = .slice A1 (l.length) c1, fun zz _ => zz = .int .i64 (l.length), fun zz _ => zz = .int .i64 m, fun zz _ => zz = .bool true, fun zz _ => zz = .bool true, fun zz _ => zz = .func (.func 53) #[] #[.pointer (some ⟨q3, 0, none⟩), .pointer (some ⟨q4, 0, none⟩), .pointer (some ⟨q5, 0, none⟩)], fun zz _ => zz = .int .u32 c, fun zz _ => zz = .int .i64 k, fun zz _ => zz = .int .u32 pv, fun zz _ => zz = .int .u32 (((c ||| pv : Nat) : Int)), fun zz _ => zz = .int .u32 nr, fun zz _ => zz = .int .i64 k, fun zz _ => zz = .pointer (some ⟨q5, k, none⟩), fun zz _ => zz = .int .u32 ((adj es k)), fun zz _ => zz = .int .u32 (((nr &&& adj es k : Nat) : Int)), fun zz _ => zz = .int .i64 m, fun zz _ => zz = .slice A1 (l.length) c1, fun zz _ => zz = .int .i64 (l.length), fun zz _ => zz = .int .i64 (((m - l.length : Nat) : Int)), fun zz _ => zz = .int .i64 (((m - l.length - 1 : Nat) : Int)), Pv n es (c ||| pv) (nr &&& adj es k) (m - l.length - 1), Pv n es (c ||| pv) (nr &&& adj es k) (m - l.length - 1)] (by kernel_rfl) (by kernel_rfl) ⟨rfl, rfl, rfl, rfl, rfl, rfl, rfl, trivial⟩ ?_ ?_ ?_
                      · exact ⟨fun _ _ _ h _ => h, fun _ _ _ h _ => h, fun _ _ _ h _ => h, fun _ _ _ h _ => h, fun _ _ _ h _ => h, fun _ _ _ h _ => h, fun _ _ _ h _ => h, fun _ _ _ h _ => h, fun _ _ _ h _ => h, fun _ _ _ h _ => h, fun _ _ _ h _ => h, fun _ _ _ h _ => h, fun _ _ _ h _ => h, fun _ _ _ h _ => h, fun _ _ _ h _ => h, fun _ _ _ h _ => h, fun _ _ _ h _ => h, fun _ _ _ h _ => h, fun _ _ _ h _ => h, fun _ _ _ h _ => h, fun _ _ _ h _ => h, fun _ _ _ h _ => h, trivial⟩
                      · refine ⟨?_, ?_, ?_, ?_, ?_, ?_, ?_, ?_, ?_, ?_, ?_, ?_, ?_, ?_, ?_, ?_, ?_, ?_, ?_, ?_, ?_, ?_, trivial⟩
                        · exact fun aa ww hb he hd => ob_plain rfl (gives_move _ rfl ⟨he.1, Below.refl _ _⟩)
                        · exact fun aa ww hb he hd => ob_plain rfl (len_c Try.underlying44 rfl hd.1)
                        · exact fun aa ww hb he hd => ob_plain rfl (gives_move _ rfl ⟨he.2.1, Below.refl _ _⟩)
                        · exact fun aa ww hb he hd => ob_plain rfl (gives_lt_int (l.length) m .i64 _ _ _ _ rfl hd.1 hd.2.1 ⟨congrArg Value.bool (by simp; omega), Below.refl _ _⟩)
                        · exact fun aa ww hb he hd => ob_plain rfl (gives_move _ rfl ⟨hd.1, Below.refl _ _⟩)
                        · exact fun aa ww hb he hd => ob_on 64 rfl (by kernel_rfl) hd.1 (load_fn rfl rfl he.2.2.1 ((HCN.out ww hb).fn.cell 0))
                        · exact fun aa ww hb he hd => ob_on 64 rfl (by kernel_rfl) hd.1 (gives_move _ rfl ⟨he.2.2.2.1, Below.refl _ _⟩)
                        · exact fun aa ww hb he hd => ob_on 64 rfl (by kernel_rfl) hd.1 (gives_move _ rfl ⟨he.2.2.2.2.1, Below.refl _ _⟩)
                        · exact fun aa ww hb he hd => ob_on 64 rfl (by kernel_rfl) hd.1 (by rw [HPV.out]; exact shl1_u32 (by omega) rfl hd.2.1)
                        · exact fun aa ww hb he hd => ob_on 64 rfl (by kernel_rfl) hd.1 (or_u32 hc32 hpv32 rfl hd.2.1 hd.2.2.1)
                        · exact fun aa ww hb he hd => ob_on 64 rfl (by kernel_rfl) hd.1 (gives_move _ rfl ⟨he.2.2.2.2.2.1, Below.refl _ _⟩)
                        · exact fun aa ww hb he hd => ob_on 64 rfl (by kernel_rfl) hd.1 (gives_move _ rfl ⟨he.2.2.2.2.1, Below.refl _ _⟩)
                        · exact fun aa ww hb he hd => ob_on 64 rfl (by kernel_rfl) hd.1 (idx_row rfl (by omega) rfl he.2.2.2.2.2.2.1 hd.2.1)
                        · exact fun aa ww hb he hd => ob_on 64 rfl (by kernel_rfl) hd.1 (load_u32 rfl rfl hd.2.1 ((HCN.out ww hb).adj hkn hn))
                        · exact fun aa ww hb he hd => ob_on 64 rfl (by kernel_rfl) hd.1 (and_u32 hnr hadj rfl hd.2.1 hd.2.2.1)
                        · exact fun aa ww hb he hd => ob_on 64 rfl (by kernel_rfl) hd.1 (gives_move _ rfl ⟨he.2.1, Below.refl _ _⟩)
                        · exact fun aa ww hb he hd => ob_on 64 rfl (by kernel_rfl) hd.1 (gives_move _ rfl ⟨he.1, Below.refl _ _⟩)
                        · exact fun aa ww hb he hd => ob_on 64 rfl (by kernel_rfl) hd.1 (len_c Try.underlying44 rfl hd.2.1)
                        · exact fun aa ww hb he hd => ob_on 64 rfl (by kernel_rfl) hd.1 (by rw [← HSB1.out]; exact sub_int (by omega) rfl hd.2.1 hd.2.2.1)
                        · exact fun aa ww hb he hd => ob_on 64 rfl (by kernel_rfl) hd.1 (by rw [← HSB2.out]; exact sub_int (by omega) rfl hd.2.1 rfl)
                        · exact fun aa ww hb he hd => ob_on 64 rfl (by kernel_rfl) hd.1 (gives_dyn3 53 (.tmp 69) (.tmp 74) (.tmp 79) _ _ _ _ _ _ _ rfl hd.2.1 (by kernel_rfl) hd.2.2.1 hd.2.2.2.1 hd.2.2.2.2.1 (HIC.out ww hb))
                        · exact fun aa ww hb he hd => ob_plain rfl (gives_pick true _ _ _ rfl hd.1 ⟨hd.2.1, Below.refl _ _⟩)
                      intro vs W6 hb hR
                      obtain ⟨b', e81, hP⟩ : Pv n es (c ||| pv) (nr &&& adj es k) (m - l.length - 1) (vs 21) W6 := hR 21 (by decide)
                      clear hR
                      simp only [putsL, Nat.zero_add, Nat.reduceAdd, List.take_succ_cons, List.take_zero, Act.put, List.setIfInBounds_toArray, List.set_cons_zero, List.set_cons_succ]
                      rw [e81]
                      clear e81
                      have HB6 := Lib.hid (bthen HGB.out hb HGB.out.size)
                      have HO6 := Lib.hid (own_below HGO.out hb)
                      clear hb
                      have hPr := HPT.out.rl
                      rw [← extB_iff hPr] at hP
                      clear hPr
                      cases b' with
                      | false =>
                        have HST := Lib.hid (HSTN.out (by
                          cases h : extB n es (c ||| pv) (nr &&& adj es k) (m - l.length - 1) with
                          | false => rfl
                          | true => exact absurd (hP.2 h) (by simp)))
                        clear hP
                        go_wp2_with fail
                        exact ⟨⟨k + 1, c, nr, l, by go_num, by omega, rfl, rfl, Lib.hid ⟨HST.out, HO6.out, HB6.out, HGN.out⟩⟩, by simp [intOf]; omega⟩
                      | true =>
                        have HST := Lib.hid (HSTY.out (hP.1 rfl)); clear hP
                        go_upto_region 24 with (fail)
                        have eor2 : bits .or .u32 (c : Int) ((2 : Int) ^ k % 4294967296) = ((c ||| pv : Nat) : Int) := by rw [shl_mod k (by omega), bits_or _ _ hc32 (by rw [← HPV.out]; exact hpv32), ← HPV.out]
                        have eand2 := bits_and nr (adj es k) hnr hadj
                        have hb6s : W0.heap.size ≤ W6.heap.size := HB6.out.size
                        go_wp2_with (at_builtin; refine app_int rfl _ _ rfl W0.heap.size (Value.slice A1 l.length c1) l.length (ints l) rfl (World.ownsRow.alloc HO6.out _) W6.heap.size (k : Int) rfl (Blk.new _ _ _) (by omega) (by simp; omega) ?_; intro v' w7 hown' hgr hor; obtain ⟨A2, c2, rfl⟩ := own_form hown'; have HO7 := Lib.hid hown'; have HB7 := Lib.hid (show Below W0.heap.size W0 w7 from Below.appended (HB6.out.alloc hb6s _) (World.ownsRow.alloc HO6.out _) hgr (by simp; omega) (Nat.le_refl _)); have hcl := (HC.out.new HB7.out).adj hkn hn; clear hown' hgr hor)
                        exact ⟨⟨k + 1, c ||| pv, nr &&& adj es k, l ++ [k], by go_num, by omega, rfl, rfl, Lib.hid ⟨HST.out, by rw [ints_snoc, List.length_append]; exact HO7.out, HB7.out, fun h => by simp at h⟩⟩, by simp [intOf]; omega⟩
                    · have HST := Lib.hid (show grdy n es m (k + 1) = (l, c, andn r (2 ^ k)) by rw [grdy, HGD.out, if_pos HRK.out, if_neg (by simp [hlm])])
                      obtain ⟨nr, hnre⟩ : ∃ x, x = andn r (2 ^ k) := ⟨_, rfl⟩
                      rw [← hnre] at ean HST hnr
                      clear hnre
                      go_upto_region 23 with (fail)
                      refine wp_region_each (kss := [[], [(0, 60)], [], [(1, 61), (2, 62)], [(3, 63)], [(4, 64)], [(4, 64)], [(4, 64)], [(4, 64), (7, 67)], [(4, 64), (6, 66), (8, 68)], [(4, 64)], [(4, 64)], [(4, 64), (11, 71)], [(4, 64), (12, 72)], [(4, 64), (10, 70), (13, 73)], [(4, 64)], [(4, 64)], [(4, 64), (16, 76)], [(4, 64), (15, 75), (17, 77)], [(4, 64), (18, 78)], [(4, 64), (5, 65), (9, 69), (14, 74), (19, 79)], [(4, 64), (20, 80)]]) [(12, .slice A1 (l.length) c1), (11, .int .i64 m), (10, .pointer (some ⟨q4, 0, none⟩)), (13, .int .u32 c), (15, .int .i64 k), (14, .int .u32 nr), (4, .pointer (some ⟨q5, 0, none⟩))] [fun zz _ => zz = .slice A1 (l.length) c1, fun zz _ => zz = .int .i64 (l.length), fun zz _ => zz = .int .i64 m, fun zz _ => zz = .bool false, fun zz _ => zz = .bool false, fun zz _ => zz = undef, fun zz _ => zz = undef, fun zz _ => zz = undef, fun zz _ => zz = undef, fun zz _ => zz = undef, fun zz _ => zz = undef, fun zz _ => zz = undef, fun zz _ => zz = undef, fun zz _ => zz = undef, fun zz _ => zz = undef, fun zz _ => zz = undef, fun zz _ => zz = undef, fun zz _ => zz = undef, fun zz _ => zz = undef, fun zz _ => zz = undef, fun zz _ => zz = undef, fun zz _ => zz = .bool false] (by kernel_rfl) (by kernel_rfl) ⟨rfl, rfl, rfl, rfl, rfl, rfl, rfl, trivial⟩ ?_ ?_ ?_
                      · exact ⟨fun _ _ _ h _ => h, fun _ _ _ h _ => h, fun _ _ _ h _ => h, fun _ _ _ h _ => h, fun _ _ _ h _ => h, fun _ _ _ h _ => h, fun _ _ _ h _ => h, fun _ _ _ h _ => h, fun _ _ _ h _ => h, fun _ _ _ h _ => h, fun _ _ _ h _ => h, fun _ _ _ h _ => h, fun _ _ _ h _ => h, fun _ _ _ h _ => h, fun _ _ _ h _ => h, fun _ _ _ h _ => h, fun _ _ _ h _ => h, fun _ _ _ h _ => h, fun _ _ _ h _ => h, fun _ _ _ h _ => h, fun _ _ _ h _ => h, fun _ _ _ h _ => h, trivial⟩
                      · refine ⟨?_, ?_, ?_, ?_, ?_, ?_, ?_, ?_, ?_, ?_, ?_, ?_, ?_, ?_, ?_, ?_, ?_, ?_, ?_, ?_, ?_, ?_, trivial⟩
                        · exact fun aa ww hb he hd => ob_plain rfl (gives_move _ rfl ⟨he.1, Below.refl _ _⟩)
                        · exact fun aa ww hb he hd => ob_plain rfl (len_c Try.underlying44 rfl hd.1)
                        · exact fun aa ww hb he hd => ob_plain rfl (gives_move _ rfl ⟨he.2.1, Below.refl _ _⟩)
                        · exact fun aa ww hb he hd => ob_plain rfl (gives_lt_int (l.length) m .i64 _ _ _ _ rfl hd.1 hd.2.1 ⟨congrArg Value.bool (by simp; omega), Below.refl _ _⟩)
                        · exact fun aa ww hb he hd => ob_plain rfl (gives_move _ rfl ⟨hd.1, Below.refl _ _⟩)
                        · exact fun aa ww hb he hd => ob_off 64 rfl (by kernel_rfl) hd.1 rfl
                        · exact fun aa ww hb he hd => ob_off 64 rfl (by kernel_rfl) hd.1 rfl
                        · exact fun aa ww hb he hd => ob_off 64 rfl (by kernel_rfl) hd.1 rfl
                        · exact fun aa ww hb he hd => ob_off 64 rfl (by kernel_rfl) hd.1 rfl
                        · exact fun aa ww hb he hd => ob_off 64 rfl (by kernel_rfl) hd.1 rfl
                        · exact fun aa ww hb he hd => ob_off 64 rfl (by kernel_rfl) hd.1 rfl
                        · exact fun aa ww hb he hd => ob_off 64 rfl (by kernel_rfl) hd.1 rfl
                        · exact fun aa ww hb he hd => ob_off 64 rfl (by kernel_rfl) hd.1 rfl
                        · exact fun aa ww hb he hd => ob_off 64 rfl (by kernel_rfl) hd.1 rfl
                        · exact fun aa ww hb he hd => ob_off 64 rfl (by kernel_rfl) hd.1 rfl
                        · exact fun aa ww hb he hd => ob_off 64 rfl (by kernel_rfl) hd.1 rfl
                        · exact fun aa ww hb he hd => ob_off 64 rfl (by kernel_rfl) hd.1 rfl
                        · exact fun aa ww hb he hd => ob_off 64 rfl (by kernel_rfl) hd.1 rfl
                        · exact fun aa ww hb he hd => ob_off 64 rfl (by kernel_rfl) hd.1 rfl
                        · exact fun aa ww hb he hd => ob_off 64 rfl (by kernel_rfl) hd.1 rfl
                        · exact fun aa ww hb he hd => ob_off 64 rfl (by kernel_rfl) hd.1 rfl
                        · exact fun aa ww hb he hd => ob_plain rfl (gives_pick false _ _ _ rfl hd.1 ⟨rfl, Below.refl _ _⟩)
                      intro vs W6 hb hR
                      have e81 : vs 21 = .bool false := hR 21 (by decide)
                      clear hR
                      simp only [putsL, Nat.zero_add, Nat.reduceAdd, List.take_succ_cons, List.take_zero, Act.put, List.setIfInBounds_toArray, List.set_cons_zero, List.set_cons_succ]
                      rw [e81]
                      clear e81
                      have HB6 := Lib.hid (bthen HGB.out hb HGB.out.size)
                      have HO6 := Lib.hid (own_below HGO.out hb)
                      clear hb
                      go_wp2_with fail
                      exact ⟨⟨k + 1, c, nr, l, by go_num, by omega, rfl, rfl, Lib.hid ⟨HST.out, HO6.out, HB6.out, HGN.out⟩⟩, by simp [intOf]; omega⟩
                · obtain rfl : k = n := by omega
                  have HL := Lib.hid (show clF k es most = l by rw [HE.out, HG.out.1])
                  go_wp2_with fail
                  go_ret
                  exact ⟨_, rfl, by rw [HL.out]; exact own_lower HG.out.2.1 hbw, fun h => HG.out.2.2.2 (by rw [← HL.out]; exact h), HBW.out.trans (HG.out.2.2.1.mono hbw)⟩
          · have t1 : decide ((m : Int) ≤ (most : Int)) = false := by simp; omega
            have t2 : decide ((m : Int) > (most : Int)) = true := by simp; omega
            have HE := Lib.hid (show clF n es most = [] by
              have e : clLen n es most = none := find_none fun j hj => by
                by_cases h3 : 3 ≤ j
                · have := HM.out.1 j h3 (by omega)
                  rw [HLK.out] at this
                  rw [this]; simp
                · simp [h3]
              rw [clF, ← HLK.out, if_neg HN0.out, e])
            go_wp2_with fail
            go_ret
            exact ⟨_, rfl, by rw [HE.out]; exact own_nil _ _ _, fun _ => rfl, HBW.out.trans (HM.out.2.mono hbw)⟩
end Go.Proofs.Ytkiahnffepbgpaa
