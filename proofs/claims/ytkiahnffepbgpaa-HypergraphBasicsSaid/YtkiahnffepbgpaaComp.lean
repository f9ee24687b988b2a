/-
  Contract of hypergraph.Components.
-/
import Derived.Test.YtkiahnffepbgpaaCompP
import Derived.Test.YtkiahnffepbgpaaAcy
import Derived.Test.YtkiahnffepbgpaaAdj
namespace Go.Proofs.Ytkiahnffepbgpaa
open Go.RowKit

def RetComps (w : World) (n : Nat) (es : List Nat) (e : Ending) (w' : World) : Prop :=
  ∃ A' l c', e = .returned (.slice A' l.length c') ∧ IsComps n es l ∧ w'.ownsRow w.heap.size 36 1 (.slice A' l.length c') l.length (U32 l) ∧ (∀ x ∈ l, x < 2 ^ 32) ∧ Below w.heap.size w w'

set_option maxRecDepth 100000 in
set_option maxHeartbeats 2000000 in
theorem comps_bad (n : Int) (A : Option Addr) (es : List Nat) (len c : Nat) (w : World) (hr : Es w w.heap.size A len es) (hcc : (checkCode n es != 0) = true) :
    Calls Try.prog 27 #[.agg #[.int .i64 n, .slice A len c]] w fun e w' => e = .returned (.slice none 0 0) ∧ Below w.heap.size w w' := by
  have HR := Lib.hid hr; clear hr
  go_enter Try.func27, Try.ntmps27
  go_wp2_with fail
  refine (check_any n A es len c _ (HR.out.new (al _ _))).mono ?_
  rintro e w1 ⟨rfl, hb⟩
  have HB1 := Lib.hid (bthen (al w _) hb (by simp)); clear hb
  go_wp2_with fail
  go_ret
  exact ⟨rfl, HB1.out⟩

set_option maxRecDepth 100000 in
set_option maxHeartbeats 4000000 in
theorem comps_any (n : Nat) (A : Option Addr) (es : List Nat) (len c : Nat) (w : World) (hr : Es w w.heap.size A len es) (hcc : checkCode n es = 0) :
    Calls Try.prog 27 #[.agg #[.int .i64 n, .slice A len c]] w (RetComps w n es) := by
  obtain ⟨_, hn, _, hes⟩ := checkCode_zero hcc
  have HES := Lib.hid (show ∀ e ∈ es, e < 2 ^ n by simpa using hes); clear hes
  have HR := Lib.hid hr; clear hr
  have HC := Lib.hid hcc; clear hcc
  have HG := Lib.hid (GB.made w 24 (.int .i64 n) (.slice A len c))
  have HW := Lib.hid (al w (.cells #[.int .i64 n, .slice A len c] 24))
  go_enter Try.func27, Try.ntmps27
  go_wp2_with fail
  refine (check_any n A es len c _ (HR.out.new HW.out)).mono ?_
  rintro e w1 ⟨rfl, hb⟩
  rw [HC.out]
  have HB1 := Lib.hid (bthen HW.out hb (by simp))
  have HG1 := Lib.hid (HG.out.new hb); clear hb HG HW
  have g0 := HG1.out.c0; have g1 := HG1.out.c1; have lg := HG1.out.lt
  go_wp2_with fail
  refine (adjacency_any n (by omega) A es len c _ (HR.out.new HB1.out)).mono ?_
  rintro e w2 ⟨rfl, hb⟩
  have HB2 := Lib.hid (bthen HB1.out hb HB1.out.size)
  have HG2 := Lib.hid (HG1.out.new hb); clear hb HG1 HB1 g0 g1 lg
  have g0 := HG2.out.c0; have lg := HG2.out.lt
  have hZ := Blk.new w2 78 (urow (zer 32))
  have hA2 := al w2 (.cells (urow (zer 32)) 78)
  have LZ := Lib.hid lg
  clear g0 lg
  go_upto_region 5 with (refine wpList_store_blk rfl 78 (.tmp 3) (.tmp 14) rfl w2.heap.size _ _ (urow (adjRow n es)) hZ rfl rfl (by rw [size_urow, size_urow, adjRow_length, zer_length]) (arr_size (adjRow n es) (adjRow_length n es)) (one_urow (adjRow n es)) ?_; intro w3 hR3 hg3 hs3)
  have hb3 : Below w2.heap.size w2 w3 := hA2.grown hg3 hA2.size (fun k hk => by cases hk; exact Nat.le_refl _)
  have HG3 := Lib.hid (HG2.out.new hb3)
  have HB3 := Lib.hid (bthen HB2.out hb3 HB2.out.size)
  have HR3 := Lib.hid hR3
  have HGW := Lib.hid (show w.heap.size ≤ w2.heap.size from HB2.out.size)
  generalize w2.heap.size = g3 at *
  clear hg3 hs3 hb3 hR3 hZ hA2 HG2 HB2 LZ HC
  have g0 := HG3.out.c0; have lg := HG3.out.lt
  go_wp2_with fail
  refine (below_any n (by omega) _).mono ?_
  rintro e w' ⟨rfl, rfl⟩
  have HES32 := Lib.hid (lt32_of (by omega) HES.out)
  clear g0 lg
  go_wp2_with fail
  go_loopw [4, 5] (fun rv lv wr => ∃ (L : List Nat) (left : Nat), lv = .int .u32 left ∧ left < 4294967296 ∧ Hid (Cmp n es left L ∧ wr.ownsRow w.heap.size 36 1 rv L.length (U32 L) ∧ L.length + bitsOf n left ≤ n ∧ (∀ x ∈ L, x < 2 ^ 32) ∧
      GB wr w.heap.size 24 (.int .i64 n) (.slice A len c) ∧ Blk wr g3 78 (urow (adjRow n es)) ∧ Below w.heap.size w wr)) (fun _ lv _ => (intOf lv).toNat)
  case atStart =>
    refine ⟨[], 2 ^ n - 1, rfl, ?_, Lib.hid ⟨Cmp.init, own_nil _ _ _, ?_, by simp, HG3.out, HR3.out, HB3.out⟩⟩
    · have := two_pow_le (show n ≤ 32 by omega); have := pow2_pos n; omega
    · have := bitsOf_le n (2 ^ n - 1); simpa using this
  case round =>
    obtain ⟨L, left, rfl, hl32, HJ⟩ := hrel
    by_cases h0 : left = 0
    · have t0 : ((left : Int) != 0) = false := by simp [h0]
      have HD := Lib.hid (show IsComps n es L by have := HJ.out.1; rw [h0] at this; exact this.done (by omega) HES.out)
      obtain ⟨Ao, co, rfl⟩ := own_form HJ.out.2.1
      clear h0
      go_wp2_with fail
      go_ret
      exact ⟨Ao, L, co, rfl, HD.out, HJ.out.2.1, HJ.out.2.2.2.1, HJ.out.2.2.2.2.2.2⟩
    · have t0 : ((left : Int) != 0) = true := by simp; omega
      obtain ⟨v, hv, hlow⟩ := low_bit h0
      have HV := Lib.hid (And.intro hv hlow)
      have hand := low_bits hl32 h0 (low_and hl32 hv hlow)
      have hvn : v < n := testBit_lt HJ.out.1.lt hv
      obtain ⟨Ao, co, rfl⟩ := own_form HJ.out.2.1
      have hlen : L.length ≤ 32 := by have := HJ.out.2.2.1; omega
      clear hv hlow h0
      have HBF := Lib.hid (Bfs.init (es := es) hvn)
      generalize 2 ^ v = b0 at hand HBF
      have g0 := HJ.out.2.2.2.2.1.c0; have lg := HJ.out.2.2.2.2.1.lt
      go_wp2_with fail
      clear hand
      go_loop [6, 7] (fun cv bv => ∃ cc b : Nat, cv = .int .u32 cc ∧ bv = .int .u32 b ∧ cc < 4294967296 ∧ b < 4294967296 ∧ Hid (Bfs n es v cc b)) (fun cv _ => n - bitsOf n (intOf cv).toNat)
      case atStart => exact ⟨0, b0, rfl, rfl, by omega, HBF.out.blt (by omega), HBF⟩
      case round =>
        obtain ⟨cc, b, rfl, rfl, hc32, hb32, HB⟩ := hrel
        by_cases hb0 : b = 0
        · have tb : ((b : Int) != 0) = false := by simp [hb0]
          have HCL := Lib.hid (show IsCls n es v cc by have := HB.out; rw [hb0] at this; exact this.done)
          have hst := HJ.out.1.step (by omega) HES.out HV.out.1 HV.out.2 HCL.out
          have HBT := Lib.hid (andn_less (n := n) hl32 hc32 hvn HV.out.1 ((HCL.out v).2 ⟨hvn, .refl _⟩))
          have eand := bits_andNot left cc hl32 hc32
          obtain ⟨nl, hnl⟩ : ∃ nl, nl = andn left cc := ⟨_, rfl⟩
          have hnl32 : nl < 4294967296 := by rw [hnl]; exact andn_lt hl32
          rw [← hnl] at hst HBT eand
          have HST := Lib.hid hst; clear hst hnl hb0
          go_wp2_with (at_builtin; refine app_u32 rfl (.tmp 48) (.tmp 50) rfl w.heap.size _ L.length L rfl (HJ.out.2.1.alloc _) wr.heap.size cc rfl (Blk.new wr 36 _) (by omega) (by have := HJ.out.2.2.2.2.2.2.size; simp; omega) ?_; intro v' w4 hown4 hg4 hat4; have H4 := Lib.hid (And.intro hown4 hg4); clear hown4 hg4 hat4)
          have hsz := HJ.out.2.2.2.2.2.2.size
          have hB4 := Below.appended (HJ.out.2.2.2.2.2.2.alloc hsz (.cells #[.int .u32 (cc : Int)] 36)) (HJ.out.2.1.alloc _) H4.out.2 (by simp; omega) (Nat.le_refl _)
          have hG4 := Blk.grown (GB.blk (HJ.out.2.2.2.2.1.alloc (.cells #[.int .u32 (cc : Int)] 36))) H4.out.2 (Ne.symm (own_blk_ne (HJ.out.2.1.alloc _) (GB.blk (HJ.out.2.2.2.2.1.alloc (.cells #[.int .u32 (cc : Int)] 36))) (by decide)))
          have hR4 := Blk.grown (HJ.out.2.2.2.2.2.1.alloc (.cells #[.int .u32 (cc : Int)] 36)) H4.out.2 (Ne.symm (own_blk_ne (HJ.out.2.1.alloc _) (HJ.out.2.2.2.2.2.1.alloc (.cells #[.int .u32 (cc : Int)] 36)) (by decide)))
          have hin : ∀ x ∈ L ++ [cc], x < 2 ^ 32 := fun x hx => by
            rcases List.mem_append.1 hx with h | h
            · exact HJ.out.2.2.2.1 x h
            · have : x = cc := by simpa using h
              omega
          refine ⟨⟨L ++ [cc], nl, rfl, hnl32, Lib.hid ⟨HST.out.1, by simpa using H4.out.1, ?_, hin, hG4, hR4, hB4⟩⟩, ?_⟩
          · have h1 := HJ.out.2.2.1; have h2 := HBT.out; simp; omega
          · have := HST.out.2; simp [intOf]; omega
        · have tb : ((b : Int) != 0) = true := by simp; omega
          have eor := bits_or cc b hc32 hb32
          have HST := Lib.hid (HB.out.step (by omega) HES.out)
          have HMO := Lib.hid (HB.out.more hb0)
          have hor : cc ||| b < 4294967296 := Nat.or_lt_two_pow (n := 32) hc32 hb32
          obtain ⟨cb, hcb⟩ : ∃ cb, cb = cc ||| b := ⟨_, rfl⟩
          rw [← hcb] at eor HST HMO hor
          clear hcb hb0
          go_wp2_with fail
          go_loop [8, 31] (fun nv kv => ∃ k x : Nat, k ≤ n ∧ kv = .int .i64 k ∧ nv = .int .u32 x ∧ x < 4294967296 ∧ Hid (x = nxt es b k)) (fun _ kv => n - (intOf kv).toNat)
          case atStart => exact ⟨0, 0, Nat.zero_le _, rfl, rfl, by omega, Lib.hid rfl⟩
          case round =>
            obtain ⟨k, x, hk, rfl, rfl, hx32, HX⟩ := hrel
            by_cases hkn : k < n
            · have i1 : (0 : Int) ≤ (k : Int) := by omega
              have i2 : (k : Int) < 32 := by omega
              have hbt := bit_test b k hb32
              have hcell : wr.cell? ⟨g3, k, none⟩ = some (.int .u32 (adj es k : Int)) := by
                rw [HJ.out.2.2.2.2.2.1.cell, urow_get (by rw [adjRow_length]; omega), nth_adjRow (by omega), if_pos hkn]
              have ha32 : adj es k < 4294967296 := adj_lt HES32.out k
              have eor2 := bits_or x (adj es k) hx32 ha32
              cases hbk : b.testBit k with
              | true =>
                rw [hbk] at hbt
                have HNX := Lib.hid (show x ||| adj es k = nxt es b (k + 1) by rw [nxt, if_pos hbk, HX.out])
                have hlt2 : x ||| adj es k < 4294967296 := Nat.or_lt_two_pow (n := 32) hx32 ha32
                clear hbk
                go_wp2_with fail
                exact ⟨⟨k + 1, x ||| adj es k, by omega, by go_num, rfl, hlt2, HNX⟩, by simp [intOf]; omega⟩
              | false =>
                rw [hbk] at hbt
                have HNX := Lib.hid (show x = nxt es b (k + 1) by rw [nxt, if_neg (by simp [hbk]), HX.out])
                clear hbk
                go_wp2_with fail
                exact ⟨⟨k + 1, x, by omega, by go_num, rfl, hx32, HNX⟩, by simp [intOf]; omega⟩
            · obtain rfl : k = n := by omega
              have eand := bits_andNot x cb hx32 hor
              have HNB := Lib.hid (show Bfs k es v cb (andn x cb) by rw [HX.out]; exact HST.out)
              have hlt2 : andn x cb < 4294967296 := andn_lt hx32
              generalize andn x cb = nb at *
              go_wp2_with fail
              exact ⟨⟨cb, nb, rfl, rfl, hor, hlt2, HNB⟩, by have := HMO.out; simpa [intOf] using this⟩
end Go.Proofs.Ytkiahnffepbgpaa
