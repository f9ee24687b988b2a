/-
Contracts of hypergraph.adjacency and hypergraph.Neighbors.
Plain: the chapter's examples, reckoned.
Contract of hypergraph.Inside.
Plain: hypergraph.CheckObstruction as a function.
A range over a function whose iterator hands over known values in a known order and whose body is left at its end alone: the law by the number of the round.
Plain: the edges that no other edge contains.
Contracts of connex: below, checkFree, container; of law31: wrong, Great.
Contracts of hypergraph.Neighbors and trio.valid.
Plain: walks within a set, and what hypergraph.distance says of them.
-/
import Derived.Test.YtjofdlafblpclaaDoorK1
import Derived.Test.YtjofdlafblpclaaDoorK2
import Derived.Test.YtjofdlafblpclaaDoorK4
import Derived.Test.YtjofdlafblpclaaDoorK3
import Derived.RangeFuncNested
import Derived.RangeFuncBound
import Derived.RangeFuncCalls
import Derived.RangeFuncLeaves
import Derived.Shelf.Abstract
import Derived.WalkKit
import Derived.OwnWalkIn
import Derived.TacticsInMore
import Derived.LoopNIn
import Derived.LoopIn
namespace Go.Proofs.YtjofdlafblpclaaDoor
open Go.RowKit

/-- The row of neighbors that adjacency returns. -/
def adjRow (n : Nat) (es : List Nat) : List Nat := (List.range 32).map fun v => if v < n then adj es v else 0
theorem adjRow_length (n : Nat) (es : List Nat) : (adjRow n es).length = 32 := by simp [adjRow]
theorem nth_adjRow {n : Nat} {es : List Nat} {v : Nat} (hv : v < 32) : nth (adjRow n es) v = if v < n then adj es v else 0 := by
  rw [nth_eq (by rw [adjRow_length]; exact hv)]; simp [adjRow]
theorem arr_size (l : List Nat) (h : l.length = 32) : (Tryd.prog.info? 58).map (·.size) = some (urow l).size := by
  rw [size_urow, h]; kernel_rfl

set_option maxRecDepth 100000 in
set_option maxHeartbeats 1000000 in
theorem adjacency_any (n : Nat) (hn : n ≤ 32) (A : Option Addr) (es : List Nat) (len c : Nat) (w : World) (hr : Es w w.heap.size A len es) :
    Calls Tryd.prog 55 #[.agg #[.int .i64 n, .slice A len c]] w fun e w' => e = .returned (.agg (urow (adjRow n es))) ∧ Below w.heap.size w w' := by
  have hle := hr.le
  have HR := Lib.hid hr; clear hr
  go_enter Tryd.func55, Tryd.ntmps55
  go_wp2_with fail
  go_loopw [5, 6, 10] (fun _ _ i wr => ∃ (k : Nat) (L : List Nat), k ≤ len ∧ i = .int .i64 k ∧ Hid ((L.length = 32 ∧ ∀ v, v < 32 → nth L v = if v < n then adj (es.take k) v else 0) ∧
      GB wr w.heap.size 24 (.int .i64 n) (.slice A len c) ∧ Blk wr (w.heap.size + 1) 58 (urow (zer 32)) ∧ Blk wr (w.heap.size + 1 + 1) 58 (urow L) ∧ Below w.heap.size w wr)) (fun _ _ i _ => len - (intOf i).toNat)
  case atStart =>
    refine ⟨0, zer 32, Nat.zero_le _, rfl, Lib.hid ⟨⟨zer_length 32, fun v _ => by simp [nth_zer, adj]⟩, ?_, ?_, ?_, ?_⟩⟩
    · exact GB.alloc (GB.alloc (GB.made _ _ _ _) _) _
    · have h := Blk.alloc (Blk.new (w.alloc (Obj.cells #[Value.int IntKind.i64 n, Value.slice A len c] 24)) 58 (urow (zer 32))) (.cells (urow (zer 32)) 58)
      rw [World.size_alloc] at h
      exact h
    · have h := (Blk.new ((w.alloc (Obj.cells #[Value.int IntKind.i64 n, Value.slice A len c] 24)).alloc (.cells (urow (zer 32)) 58)) 58 (urow (zer 32)))
      rw [World.size_alloc, World.size_alloc] at h
      exact h
    · exact (((Below.refl _ _).alloc (Nat.le_refl _) _).alloc (by simp) _).alloc (by simp; omega) _
  case round =>
    obtain ⟨k, L, hk, rfl, HI⟩ := hrel
    by_cases hlt : k < len
    · obtain ⟨ad, rfl, hb1, hcell⟩ := (HR.out.below HI.out.2.2.2.2).at_ hlt
      have hek := HR.out.lt hlt
      have hlk : k < es.length := by have := HR.out.len; omega
      have c0 := HI.out.2.1.c0
      obtain ⟨wo, rfl⟩ : ∃ wo : World, wo = wr := ⟨_, rfl⟩
      go_wp2_with fail
      clear c0
      go_loopw [6, 16] (fun _ i wr => ∃ (j : Nat) (L : List Nat), j ≤ n ∧ i = .int .i64 j ∧ Hid ((L.length = 32 ∧ ∀ v, v < 32 → nth L v = if v < n then (if v < j then adj (es.take (k + 1)) v else adj (es.take k) v) else 0) ∧
          GB wr w.heap.size 24 (.int .i64 n) (.slice (some ad) len c) ∧ Blk wr (w.heap.size + 1) 58 (urow (zer 32)) ∧ Blk wr (w.heap.size + 1 + 1) 58 (urow L) ∧ Below w.heap.size w wr)) (fun _ i _ => n - (intOf i).toNat)
      case atStart => exact ⟨0, L, Nat.zero_le _, rfl, Lib.hid ⟨⟨HI.out.1.1, fun v hv => by rw [HI.out.1.2 v hv]; simp⟩, HI.out.2⟩⟩
      case round =>
        obtain ⟨j, L, hj, rfl, HJ⟩ := hrel
        by_cases hjn : j < n
        · have hj32 : j < 32 := by omega
          have hjL : j < L.length := by rw [HJ.out.1.1]; exact hj32
          have cR : wr.cell? ⟨w.heap.size + 1 + 1, j, none⟩ = some (.int .u32 (nth L j : Int)) := by rw [HJ.out.2.2.2.1.cell, urow_get hjL]
          have fR : wr.frozen? ⟨w.heap.size + 1 + 1, j, none⟩ = false := HJ.out.2.2.2.1.frozen j
          clear hjL
          have i1 : (0 : Int) ≤ (j : Int) := by omega
          have i2 : (j : Int) < 32 := by omega
          go_wp2_with fail
          · go_region
            go_wp2_with fail
            have ht : (bits .and .u32 ((nth es k : Int) / 2 ^ j) 1 == 1) = true := by assumption
            rw [bit_test _ _ hek] at ht
            have hall : ∀ e ∈ es.take k, e < 2 ^ 32 := fun e he => HR.out.2.2 e (List.mem_of_mem_take he)
            have hLj : nth L j = adj (es.take k) j := by rw [HJ.out.1.2 j hj32, if_pos hjn, if_neg (by omega)]
            rw [hLj, adj_step _ _ _ (adj_lt hall j) hek hj32, show adj (es.take k) j ||| andn (nth es k) (2 ^ j) = adj (es.take (k + 1)) j by rw [adj_take hlk, if_pos ht]]
            refine ⟨⟨j + 1, L.set j (adj (es.take (k + 1)) j), by omega, by go_num, Lib.hid ⟨⟨?_, fun v hv => ?_⟩, ?_, ?_, ?_, ?_⟩⟩, by simp [intOf]; omega⟩
            · rw [List.length_set]; exact HJ.out.1.1
            · rw [nth_set (by rw [HJ.out.1.1]; omega)]
              by_cases hvj : v = j
              · subst hvj; rw [if_pos rfl, if_pos hjn, if_pos (by omega)]
              · rw [if_neg hvj, HJ.out.1.2 v hv]
                by_cases h : v < n
                · rw [if_pos h, if_pos h]
                  by_cases h' : v < j
                  · rw [if_pos h', if_pos (by omega)]
                  · rw [if_neg h', if_neg (by omega)]
                · rw [if_neg h, if_neg h]
            · exact (HJ.out.2.1.far (p := ⟨w.heap.size + 1 + 1, j, none⟩) (by show w.heap.size ≠ w.heap.size + 1 + 1; omega) _).drew
            · exact (HJ.out.2.2.1.far (p := ⟨w.heap.size + 1 + 1, j, none⟩) (by show w.heap.size + 1 ≠ w.heap.size + 1 + 1; omega) _).drew
            · have := HJ.out.2.2.2.1.set_ j (.int .u32 (adj (es.take (k + 1)) j : Int))
              rw [urow_set] at this
              exact this.drew
            · exact (HJ.out.2.2.2.2.setCell (p := ⟨w.heap.size + 1 + 1, j, none⟩) (by show w.heap.size ≤ w.heap.size + 1 + 1; omega) _).drew
          · have ht : (bits .and .u32 ((nth es k : Int) / 2 ^ j) 1 == 1) = false := by assumption
            rw [bit_test _ _ hek] at ht
            refine ⟨⟨j + 1, L, by omega, by go_num, Lib.hid ⟨⟨HJ.out.1.1, fun v hv => ?_⟩, HJ.out.2⟩⟩, by simp [intOf]; omega⟩
            rw [HJ.out.1.2 v hv]
            by_cases h : v < n
            · rw [if_pos h, if_pos h]
              by_cases h' : v < j
              · rw [if_pos h', if_pos (by omega)]
              · rw [if_neg h']
                by_cases hvj : v = j
                · subst hvj; rw [if_pos (by omega), adj_take hlk, ht, if_neg (by simp)]
                · rw [if_neg (by omega)]
            · rw [if_neg h, if_neg h]
        · go_wp2_with fail
          refine ⟨⟨k + 1, L, by omega, by go_num, Lib.hid ⟨⟨HJ.out.1.1, fun i hi => ?_⟩, HJ.out.2⟩⟩, by simp [intOf]; omega⟩
          rw [HJ.out.1.2 i hi]
          by_cases h : i < n
          · rw [if_pos h, if_pos h, if_pos (by omega)]
          · rw [if_neg h, if_neg h]
    · have hL : L = adjRow n es := by
        obtain ⟨⟨h1, h2⟩, _⟩ := HI.out
        have hlen := HR.out.len
        apply List.ext_getElem
        · rw [h1, adjRow_length]
        · intro i h3 h4
          rw [← nth_eq h3, ← nth_eq h4, h2 i (by omega), nth_adjRow (by omega), List.take_of_length_le (by omega)]
      have HL := Lib.hid hL; clear hL
      go_wp2_with (first
        | (refine wpList_load_blk rfl 58 (.tmp 3) rfl (w.heap.size + 1 + 1) _ (urow L) _ HI.out.2.2.2.1 rfl Tryd.underlying58 rfl (arr_size L HI.out.1.1) ?_)
        | (refine wpList_store_blk rfl 58 (.tmp 2) (.tmp 35) rfl (w.heap.size + 1) _ _ (urow L) HI.out.2.2.1 rfl rfl (by rw [size_urow, size_urow, HI.out.1.1, zer_length]) (arr_size L HI.out.1.1) (one_urow L) ?_; intro w1 hb1 hg1 hs1))
      refine bodyPost_ret (v := .agg (urow L)) ?_ rfl ⟨by rw [HL.out], ?_⟩
      · exact results_cell_row Tryd.results55 _ _ _ _ _ (0, 0) _ rfl hb1 Tryd.underlying58 rfl (arr_size L HI.out.1.1)
      · exact HI.out.2.2.2.2.grown hg1 HI.out.2.2.2.2.size (fun k hk => by cases hk; omega)

end Go.Proofs.YtjofdlafblpclaaDoor
namespace Go.Proofs.YtjofdlafblpclaaDoor

theorem ak1 : checkCode (3 : Nat) [3, 6, 5] = 0 := by decide
theorem ak2 : checkCode (3 : Nat) [3, 6, 5, 7] = 0 := by decide
theorem ak3 : checkCode (4 : Nat) [3, 6, 12, 9] = 0 := by decide
theorem ak4 : obsF (adjRow 3 [3, 6, 5]) 3 [3, 6, 5] = ([0, 1, 2], true) := by decide +kernel
theorem ak5 : obsF (adjRow 4 [3, 6, 12, 9]) 4 [3, 6, 12, 9] = ([0, 1, 2, 3], true) := by decide +kernel
def absT (r : List Nat) (g : List Bool) (e f : Nat) : Bool := absorbs r g e f && (decide (e < r.length) && (decide (f < r.length) && ((List.range e).all (fun e' => (List.range r.length).all fun f' => !absorbs r g e' f') && (List.range f).all fun f' => !absorbs r g e f')))
theorem absT_spec {r : List Nat} {g : List Bool} {e f : Nat} (h : absT r g e f = true) : AbsSpec r g (some (e, f)) := by
  simp only [absT, Bool.and_eq_true, decide_eq_true_eq, List.all_eq_true, List.mem_range, Bool.not_eq_true'] at h
  exact ⟨h.2.1, h.2.2.1, h.1, fun e' f' h1 h2 => h.2.2.2.1 e' h1 f' h2, h.2.2.2.2⟩
def absN (r : List Nat) (g : List Bool) : Bool := (List.range r.length).all fun e => (List.range r.length).all fun f => !absorbs r g e f
theorem absN_spec {r : List Nat} {g : List Bool} (h : absN r g = true) : AbsSpec r g none := by
  simp only [absN, List.all_eq_true, List.mem_range, Bool.not_eq_true'] at h
  exact fun e f h1 h2 => h e h1 f h2
def isoT (n : Nat) (r : List Nat) (e v : Nat) : Bool := decide (v < n) && (decide (e < r.length) && ((nth r e).testBit v && (decide (occ r v = 1) && (List.range v).all fun v' => decide (occ r v' ≠ 1))))
theorem isoT_spec {n : Nat} {r : List Nat} {e v : Nat} (h : isoT n r e v = true) : IsoSpec n r (some (e, v)) := by
  simp only [isoT, Bool.and_eq_true, decide_eq_true_eq, List.all_eq_true, List.mem_range] at h
  exact ⟨h.1, h.2.1, h.2.2.1, h.2.2.2.1, h.2.2.2.2⟩
def isoN (n : Nat) (r : List Nat) : Bool := (List.range n).all fun v => decide (occ r v ≠ 1)
theorem isoN_spec {n : Nat} {r : List Nat} (h : isoN n r = true) : IsoSpec n r none := by
  simp only [isoN, decide_eq_true_eq, List.all_eq_true, List.mem_range] at h
  exact fun v hv => h v hv
theorem ak6 : ∃ l g, Run 3 [3, 6, 5, 7] (List.replicate 4 false) l [0, 0, 0, 0] g ∧ Fin 3 [0, 0, 0, 0] g ∧ l.length = 6 := by
  have h0 : Run 3 [3, 6, 5, 7] (List.replicate 4 false) [] [3, 6, 5, 7] [false, false, false, false] := .nil
  have h1 := h0.abs (absT_spec (e := 0) (f := 3) (by decide +kernel))
  have h2 := h1.abs (absT_spec (e := 1) (f := 3) (by decide +kernel))
  have h3 := h2.abs (absT_spec (e := 2) (f := 3) (by decide +kernel))
  have h4 := h3.iso (absN_spec (by decide +kernel)) (isoT_spec (e := 3) (v := 0) (by decide +kernel))
  have h5 := h4.iso (absN_spec (by decide +kernel)) (isoT_spec (e := 3) (v := 1) (by decide +kernel))
  have h6 := h5.iso (absN_spec (by decide +kernel)) (isoT_spec (e := 3) (v := 2) (by decide +kernel))
  exact ⟨_, _, h6, ⟨absN_spec (by decide +kernel), isoN_spec (by decide +kernel)⟩, rfl⟩
theorem ak7 {l : List (Int × Int × Int)} {r : List Nat} {g : List Bool} (h : Run 3 [3, 6, 5, 7] (List.replicate [3, 6, 5, 7].length false) l r g) (h1 : AbsSpec r g none) (h2 : IsoSpec 3 r none) : l.length = 6 := by
  obtain ⟨l', g', k1, k2, k3⟩ := ak6
  have := Run.final h ⟨h1, h2⟩ k1 k2
  rw [← k3, this.1]
theorem ak8 : Acyc 3 [3, 6, 5, 7] := by
  obtain ⟨l', g', k1, k2, k3⟩ := ak6
  exact ⟨l', _, g', k1, k2, by decide⟩
end Go.Proofs.YtjofdlafblpclaaDoor
namespace Go.Proofs.YtjofdlafblpclaaDoor
open Go.RowKit

/-- An edge contains a set. -/
def holdsB (set e : Nat) : Bool := decide (andn set e = 0)
set_option maxHeartbeats 1000000 in
theorem insideF (g set e : Nat) (w : World) (hg : w.cell? ⟨g, 0, none⟩ = some (.int .u32 (set : Int))) (hs : set < 2 ^ 32) (he : e < 2 ^ 32) :
    Calls Tryd.prog 39 #[.int .u32 e, .pointer (some ⟨g, 0, none⟩)] w fun e' w' => e' = .returned (.bool (holdsB set e)) ∧ w = w' := by
  have hand := bits_andNot set e hs he
  have hz : (((andn set e : Nat) : Int) == 0) = holdsB set e := by
    unfold holdsB
    rw [Bool.eq_iff_iff, beq_iff_eq, decide_eq_true_eq]; omega
  obtain ⟨x, hx⟩ : ∃ x, x = andn set e := ⟨_, rfl⟩
  obtain ⟨b, hb⟩ : ∃ b, b = holdsB set e := ⟨_, rfl⟩
  rw [← hx] at hand hz
  rw [← hb] at hz ⊢
  clear hx hb
  go_enter Tryd.func39, Tryd.ntmps39
  go_wp2_with fail
  go_ret
  exact ⟨rfl, rfl⟩
theorem callIn (args : Array Value) (W : World) : (callFunc 39 args).run Tryd.prog W = .ok (.enter 39 args) W := by
  kernel_rfl
theorem firstAt_ge (p : Nat → Bool) (l : List Nat) : (decide (0 ≤ firstAt p l)) = l.any p := by
  unfold firstAt
  cases h : l.findIdx? p with
  | none =>
    rw [List.findIdx?_eq_none_iff] at h
    symm
    simp only [show decide ((0 : Int) ≤ -1) = false from rfl]
    rw [List.any_eq_false]
    intro x hx; simpa using h x hx
  | some i =>
    rw [List.findIdx?_eq_some_iff_getElem] at h
    obtain ⟨hi, h1, _⟩ := h
    have : l.any p = true := List.any_eq_true.2 ⟨_, List.getElem_mem hi, h1⟩
    rw [this]; simp
theorem firstAt_max (p : Nat → Bool) (l : List Nat) : -1 ≤ firstAt p l ∧ firstAt p l < l.length := by
  unfold firstAt
  cases h : l.findIdx? p with
  | none => simp; omega
  | some i =>
    rw [List.findIdx?_eq_some_iff_getElem] at h
    obtain ⟨hi, _⟩ := h
    simp; omega
set_option maxHeartbeats 2000000 in
theorem inside_ok (n set : Nat) (A : Option Addr) (es : List Nat) (len c : Nat) (w : World) (hr : Es w w.heap.size A len es) (hcc : checkCode n es = 0) (hs : set < 2 ^ 32) :
    Calls Tryd.prog 21 #[.agg #[.int .i64 n, .slice A len c], .int .u32 set] w fun e w' => e = .returned (.tuple #[.int .i64 (max (firstAt (holdsB set) es) 0), .bool (es.any (holdsB set))]) ∧ Below w.heap.size w w' := by
  have hlt : ∀ e ∈ es, e < 2 ^ 32 := fun e he => hr.2.2 e he
  have HLT := Lib.hid hlt; clear hlt
  have HR := Lib.hid hr; clear hr
  have HC := Lib.hid hcc; clear hcc
  have hG := (GB.made w 24 (.int .i64 n) (.slice A len c)).alloc (.cells #[.int .u32 (set : Int)] 42)
  have hS := Blk.new (w.alloc (.cells #[.int .i64 n, .slice A len c] 24)) 42 #[.int .u32 (set : Int)]
  have hW : Below w.heap.size w ((w.alloc (.cells #[.int .i64 n, .slice A len c] 24)).alloc (.cells #[.int .u32 (set : Int)] 42)) := (al w _).alloc (by simp) _
  rw [show (w.alloc (.cells #[.int .i64 n, .slice A len c] 24)).heap.size = w.heap.size + 1 by simp] at hS
  have hm := firstAt_max (holdsB set) es
  have hge := firstAt_ge (holdsB set) es
  have hmx : max (firstAt (holdsB set) es) 0 = if firstAt (holdsB set) es < 0 then 0 else firstAt (holdsB set) es := by
    split <;> omega
  go_enter Tryd.func21, Tryd.ntmps21
  go_wp2_with fail
  generalize (w.alloc (.cells #[.int .i64 n, .slice A len c] 24)).alloc (.cells #[.int .u32 (set : Int)] 42) = w0 at hG hS hW ⊢
  have HG := Lib.hid hG; have HS := Lib.hid hS; have HW := Lib.hid hW; clear hG hS hW
  refine (check_any n A es len c _ (HR.out.new HW.out)).mono ?_
  rintro e w1 ⟨rfl, hb⟩
  rw [HC.out]
  replace HG := Lib.hid (HG.out.new hb); replace HS := Lib.hid (HS.out.below hb HS.out.lt); replace HW := Lib.hid (bthen HW.out hb HW.out.size); clear hb
  have g1 := HG.out.c1; have lg := HG.out.lt
  have HMX := Lib.hid hmx; have HGE := Lib.hid hge; have HM := Lib.hid hm; clear hmx hge hm
  go_wp2_with fail
  clear g1 lg
  refine (indexFunc_any A es len c 39 #[.pointer (some ⟨w.heap.size + 1, 0, none⟩)] (holdsB set) _ (HR.out.new HW.out) callIn (fun x W hx hbW => (insideF (w.heap.size + 1) set x W (by rw [(HS.out.below hbW HS.out.lt).cell]; rfl) hs (HLT.out x hx)).mono (by rintro e W' ⟨rfl, rfl⟩; exact ⟨rfl, Below.refl _ _⟩))).mono ?_
  rintro e w2 ⟨rfl, hb⟩
  replace HW := Lib.hid (bthen HW.out hb HW.out.size); clear hb
  obtain ⟨k, hk0⟩ : ∃ k, k = firstAt (holdsB set) es := ⟨_, rfl⟩
  rw [← hk0]
  have hm := HM.out
  rw [← hk0] at hm
  have HK0 := Lib.hid hk0
  have HMK := Lib.hid (show max (firstAt (holdsB set) es) 0 = max k 0 by rw [hk0])
  have HGK := Lib.hid (show decide (0 ≤ k) = es.any (holdsB set) by rw [hk0]; exact HGE.out)
  clear HMX HGE HM hk0
  by_cases hk : k < 0
  · have e1 : max k 0 = 0 := by omega
    have e2 : decide (0 ≤ k) = false := by simp; omega
    have HA := Lib.hid (show es.any (holdsB set) = false by rw [← HGK.out, e2])
    have HX := Lib.hid (show max (firstAt (holdsB set) es) 0 = 0 by rw [HMK.out, e1])
    clear HK0 HMK HGK hm
    go_wp2_with fail
    all_goals first | (exfalso; omega) | (go_ret2; exact ⟨by rw [HA.out, HX.out]; rfl, HW.out⟩)
  · have e1 : max k 0 = k := by omega
    have e2 : decide (0 ≤ k) = true := by simp; omega
    have HA := Lib.hid (show es.any (holdsB set) = true by rw [← HGK.out, e2])
    have HX := Lib.hid (show max (firstAt (holdsB set) es) 0 = k by rw [HMK.out, e1])
    clear HK0 HMK HGK hm
    go_wp2_with fail
    all_goals first | (exfalso; omega) | (go_ret2; exact ⟨by rw [HA.out, HX.out]; rfl, HW.out⟩)
end Go.Proofs.YtjofdlafblpclaaDoor
namespace Go.Proofs.YtjofdlafblpclaaDoor

theorem all_range_succ (f : Nat → Bool) (k : Nat) : (List.range (k + 1)).all f = ((List.range k).all f && f k) := by
  rw [List.range_succ, List.all_append]; simp
theorem any_range_succ (f : Nat → Bool) (k : Nat) : (List.range (k + 1)).any f = ((List.range k).any f || f k) := by
  rw [List.range_succ, List.any_append]; simp
def okAt (n : Nat) (l : List Int) (i : Nat) : Bool := decide (0 ≤ inth l i) && (decide (inth l i < n) && (List.range i).all fun j => inth l j != inth l i)
def okTo (n : Nat) (l : List Int) (k : Nat) : Bool := (List.range k).all (okAt n l)
def setTo (l : List Int) : Nat → Nat
  | 0 => 0
  | k + 1 => setTo l k ||| 2 ^ (inth l k).toNat
theorem setTo_lt {n : Nat} {l : List Int} : ∀ {k : Nat}, okTo n l k = true → setTo l k < 2 ^ n
  | 0, _ => pow2_pos n
  | k + 1, h => by
    rw [okTo, all_range_succ, Bool.and_eq_true] at h
    have h2 := h.2
    simp only [okAt, Bool.and_eq_true, decide_eq_true_eq] at h2
    rw [setTo]
    exact Nat.or_lt_two_pow (setTo_lt h.1) (Nat.pow_lt_pow_right (by omega) (by omega))
theorem setTo_bit {n : Nat} {l : List Int} : ∀ {k : Nat}, okTo n l k = true → ∀ {v : Int}, 0 ≤ v → (setTo l k).testBit v.toNat = (List.range k).any fun j => inth l j == v
  | 0, _, v, _ => by simp [setTo]
  | k + 1, h, v, hv => by
    rw [okTo, all_range_succ, Bool.and_eq_true] at h
    have h2 := h.2
    simp only [okAt, Bool.and_eq_true, decide_eq_true_eq] at h2
    rw [setTo, Nat.testBit_or, setTo_bit h.1 hv, any_range_succ, Nat.testBit_two_pow]
    congr 1
    rw [Bool.eq_iff_iff]
    simp
    omega
theorem okAt_iff {n : Nat} {l : List Int} {k : Nat} (h : okTo n l k = true) (h0 : 0 ≤ inth l k) (h1 : inth l k < n) : okAt n l k = !(setTo l k).testBit (inth l k).toNat := by
  rw [setTo_bit h h0, okAt, decide_eq_true h0, decide_eq_true h1, Bool.true_and, Bool.true_and, List.not_any_eq_all_not]
  simp [bne]
def linkL (R : List Nat) (l : List Int) (i j : Nat) : Bool := (nth R (inth l i).toNat).testBit (inth l j).toNat
def nearL (len i j : Nat) : Bool := decide (j + 1 = i) || (decide (j = 0) && decide (i + 1 = len))
def cliRow (R : List Nat) (l : List Int) (i m : Nat) : Bool := (List.range m).all fun j => linkL R l i j
def cliTo (R : List Nat) (l : List Int) (k : Nat) : Bool := decide (3 ≤ l.length) && (List.range k).all fun i => cliRow R l i i
def cycRow (R : List Nat) (l : List Int) (i m : Nat) : Bool := (List.range m).all fun j => linkL R l i j == nearL l.length i j
def cycTo (R : List Nat) (l : List Int) (k : Nat) : Bool := decide (4 ≤ l.length) && (List.range k).all fun i => cycRow R l i i
theorem cliTo_succ (R : List Nat) (l : List Int) (k : Nat) : cliTo R l (k + 1) = (cliTo R l k && cliRow R l k k) := by
  rw [cliTo, all_range_succ, ← Bool.and_assoc]; rfl
theorem cycTo_succ (R : List Nat) (l : List Int) (k : Nat) : cycTo R l (k + 1) = (cycTo R l k && cycRow R l k k) := by
  rw [cycTo, all_range_succ, ← Bool.and_assoc]; rfl
theorem cli_step {R : List Nat} {l : List Int} {i j : Nat} {cb lb : Bool} (h : cb = (cliTo R l i && cliRow R l i j)) (hl : lb = linkL R l i j) : (cb && lb) = (cliTo R l i && cliRow R l i (j + 1)) := by
  rw [h, hl, cliRow, cliRow, all_range_succ, Bool.and_assoc]
theorem cyc_step {R : List Nat} {l : List Int} {i j : Nat} {cb lb nb : Bool} (h : cb = (cycTo R l i && cycRow R l i j)) (hl : lb = linkL R l i j) (hn : nb = nearL l.length i j) : (cb && (lb == nb)) = (cycTo R l i && cycRow R l i (j + 1)) := by
  rw [h, hl, hn, cycRow, cycRow, all_range_succ, Bool.and_assoc]
theorem ok_nat {n : Nat} {l : List Int} {k : Nat} (h : okTo n l l.length = true) (hk : k < l.length) : ∃ y : Nat, inth l k = (y : Int) ∧ y < n := by
  rw [okTo, List.all_eq_true] at h
  have := h k (by simp [hk])
  simp only [okAt, Bool.and_eq_true, decide_eq_true_eq] at this
  obtain ⟨y, hy⟩ := Int.eq_ofNat_of_zero_le this.1
  exact ⟨y, hy, by omega⟩
/-- hypergraph.CheckObstruction of a correct graph. -/
def chkB (R : List Nat) (n : Nat) (es : List Nat) (l : List Int) : Bool :=
  okTo n l l.length && (if cliTo R l l.length = true then !es.any (holdsB (setTo l l.length)) else cycTo R l l.length)
end Go.Proofs.YtjofdlafblpclaaDoor
namespace Go.Proofs.YtjofdlafblpclaaDoor
open Go.RowKit Go.Shelf
set_option linter.unusedSimpArgs false
set_option linter.unusedVariables false

/-- The iterator calls yield N times, the k-th time with the arguments argsAt k. -/
def SeqIx (F : Fence) (n : Nat) (P : Program) (g : Nat) (lb : Array Value) (argsAt : Nat → Array Value) (Kp : World → World → Prop) (N : Nat) (w : World) : Prop :=
  ∀ (l : Nat) (J : Nat → World → Prop) (W : World), Below w.heap.size w W →
    (∀ k W1, J k W1 → k < N → YieldAt F (n - 1) P l (argsAt k) W1 fun e W' => e = .returned (.bool true) ∧ J (k + 1) W' ∧ Kp W1 W') →
    J 0 W → CallsIn F n P g (#[.func (.yield l) #[] #[]] ++ lb) W fun e W' => (∃ v, e = .returned v) ∧ J N W'

/-- How a round's body is left: at its end. -/
def postIx (B : Nat) (Kp : World → World → Prop) (I : Nat → World → Prop) (k : Nat) (W : World) : Exit → Act → World → Prop
  | .normal, _, W' => KeepsFrom B W W' ∧ Kp W W' ∧ I k W'
  | .ret, _, _ => False
  | .exit _, _, _ => False
  | .goto _, _, _ => False
  | .panic _, _, _ => False
  | .outgrown, _, _ => False

theorem wpIn_rangeFunc_ix {F : Fence} {n : Nat} {P : Program} {g : Operand} {ps : Array Tmp} {assign body : Code} {Q : Exit → Act → World → Prop} {a : Act} {w : World}
    (hro : F.round = none) (h1 : 1 ≤ n) {gf : Nat} {lb : Array Value} (hg : a.eval g = .func (.func gf) #[] lb) (hFg : F.fn gf) (eg : ∀ args w, (callFunc gf args).run P w = .ok (.enter gf args) w)
    {argsAt : Nat → Array Value} {Kp : World → World → Prop} {N : Nat} {w0 : World} (hseq : SeqIx F (n - 1) P gf lb argsAt Kp N w0)
    (hKt : ∀ {A B C : World}, Kp A B → Kp B C → Kp A C) (hKb : ∀ (W : World) (l : Nat) (o o' : Obj), w.heap.size ≤ l → W.heap[l]? = some o → o.isCells = false → o.isWalk = false → Kp W (W.putObj l o')) (hb0 : Below w0.heap.size w0 w) (hps : ∀ k, (argsAt k).size = ps.size)
    (I : Nat → World → Prop) (hI : OwnFrom w.heap.size I) (h0 : I 0 w) (a₁ : Nat → Act)
    (hassign : ∀ (l : Nat) (k : Nat) (W : World) (K : Act → World → Prop), K (a₁ k) W →
      assign.wpIn (F.inRound l) (n - 1 - 1) P (Exit.then K (fun _ _ _ => False)) { tmps := (ps.zip (argsAt k)).foldl (fun t (p, v) => t.setIfInBounds p v) a.tmps, defers := [] } W)
    (hbody : ∀ (l : Nat) (k : Nat) (W : World), I k W → k < N → body.wpIn (F.inRound l) (n - 1 - 1) P (postIx w.heap.size Kp I (k + 1) W) (a₁ k) W)
    (hdone : ∀ (D : Nat) (W : World), w.heap.size ≤ D → I N W → W.heap[D]? = some (.deferred (some [])) → Q .normal { a with defers := { target := .collected D, args := #[] } :: a.defers } W) :
    (Code.rangeFunc g ps assign body).wpIn F n P Q a w := by
  refine wpIn_rangeFunc ?_
  intro fn hfn
  rw [hro]
  obtain ⟨rec, hrec⟩ : ∃ rec : LoopState → Option Code → Loop, rec = fun st pe => { state := st, pending := pe, fn, tmps := a.tmps, params := ps, assign, body, defers := w.heap.size } := ⟨_, rfl⟩
  obtain ⟨W1, hW1⟩ : ∃ W1, (w.alloc (.deferred (some []))).alloc (.loop (rec .ready none)) = W1 := ⟨_, rfl⟩
  have hL1 : W1.heap[w.heap.size + 1]? = some (.loop (rec .ready none)) := by
    rw [← hW1]; have := World.alloc_heap_new (w.alloc (.deferred (some []))) (.loop (rec .ready none)); rwa [World.size_alloc] at this
  have hK1 : W1.heap[w.heap.size]? = some (.deferred (some [])) := by
    rw [← hW1]; exact (Below.heap_alloc _ _ _ (by simp)).trans (World.alloc_heap_new w _)
  have hI1 : I 0 W1 := by rw [← hW1]; exact hI.alloc _ (hI.alloc _ h0)
  have hb1 : Below w0.heap.size w0 W1 := by
    rw [← hW1]; exact hb0.trans ((((Below.refl _ w).alloc (Nat.le_refl _) _).alloc (by simp) _).mono hb0.size)
  refine ⟨w.heap.size + 1, [{ target := .collected w.heap.size, args := #[] }], W1, { target := .fn (.func gf) lb, args := #[.func (.yield (w.heap.size + 1)) #[] #[]] }, W1, gf,
    #[.func (.yield (w.heap.size + 1)) #[] #[]] ++ lb, W1, ?_, ?_, ?_, ?_, fun _ => h1, ?_⟩
  · rw [← hW1, hrec]; exact run_enterLoop_outer _ _ _ _ _
  · simp only [resolve, hg]
    simp [go_sem]
  · intro f' hf'; simp [Target.leads] at hf'; subst hf'; exact hFg
  · simp [invoke, go_sem, eg]
  · refine (hseq (w.heap.size + 1)
      (fun k W => I k W ∧ W.heap[w.heap.size + 1]? = some (.loop (rec .ready none)) ∧ W.heap[w.heap.size]? = some (.deferred (some [])))
      W1 hb1 ?_ ⟨hI1, hL1, hK1⟩).mono ?_
    · rintro k W ⟨hi, hl, hk⟩ hlen
      have hlt : w.heap.size + 1 < W.heap.size := (Array.getElem?_eq_some_iff.1 hl).1
      have hy := run_yield (P := P) (args := argsAt k) hl (by rw [hrec]; exact hps k)
      rw [hrec] at hy
      refine ⟨fn, _, assign, body, hy, roundIn_of_wpIn hfn (hassign _ k W _ ⟨_, run_beginRound hl (by rw [hrec]), ?_⟩)⟩
      have hl2 : (W.putObj (w.heap.size + 1) (.loop { rec .ready none with state := .busy })).heap[w.heap.size + 1]? = some (.loop { rec .ready none with state := .busy }) := World.putObj_heap_same hlt
      have hk2 : (W.putObj (w.heap.size + 1) (.loop { rec .ready none with state := .busy })).heap[w.heap.size]? = some (.deferred (some [])) := (World.putObj_heap_other (by omega)).trans hk
      have hw2 : Kp W (W.putObj (w.heap.size + 1) (.loop { rec .ready none with state := .busy })) := hKb _ _ _ _ (by omega) hl rfl rfl
      refine wpIn_mono (hbody _ k _ (hI.putObj _ hi (by omega) hl rfl) hlen) ?_
      rintro e a3 W3 hp
      cases e with
      | normal =>
        obtain ⟨hk3, hkp3, hi3⟩ := hp
        have hl3 := hk3.same _ _ (by omega) hl2 rfl
        have hr := run_endRound (P := P) none hl3
        rw [hrec] at hr hl3
        refine ⟨_, _, hr, rfl, ⟨hI.putObj _ hi3 (by omega) hl3 rfl, ?_, (World.putObj_heap_other (by omega)).trans (hk3.same _ _ (Nat.le_refl _) hk2 rfl)⟩, hKt (hKt hw2 hkp3) (hKb _ _ _ _ (by omega) hl3 rfl rfl)⟩
        rw [World.putObj_heap_same (Array.getElem?_eq_some_iff.1 hl3).1, hrec]; rfl
      | ret => exact hp.elim
      | exit id => exact hp.elim
      | goto t => exact hp.elim
      | panic ch => exact hp.elim
      | outgrown => exact hp.elim
    · rintro e W2 ⟨⟨v, rfl⟩, hi, hl, hk⟩
      exact ⟨none, _, by have := run_endLoop (P := P) hl (by rw [hrec]; simp); rw [hrec] at this; exact this, hdone _ _ (Nat.le_refl _) (hI.putObj _ hi (by omega) hl rfl) ((World.putObj_heap_other (by omega)).trans hk)⟩

end Go.Proofs.YtjofdlafblpclaaDoor
namespace Go.Proofs.YtjofdlafblpclaaDoor
set_option linter.unusedVariables false

def contStep (es : List Nat) (b i : Nat) : Nat := if (decide (andn (nth es b) (nth es i) = 0) && (decide (nth es i ≠ nth es b) || decide (i < b))) = true then i else b
/-- Where connex.container stands after k edges. -/
def contTo (es : List Nat) (e : Nat) : Nat → Nat
  | 0 => e
  | k + 1 => contStep es (contTo es e k) k
def contF (es : List Nat) (e : Nat) : Nat := contTo es e es.length
def keptI (es : List Nat) : List Nat := (List.range es.length).filter fun i => contF es i == i
def keptE (es : List Nat) : List Nat := (keptI es).map (nth es)
section
variable {n : Nat} {es : List Nat}
/-- No edge but itself contains the edge, none of equal ones lies ahead. -/
def TopE (es : List Nat) (j k : Nat) : Prop := ∀ m, m < k → ¬ (sub (nth es j) (nth es m) ∧ (nth es m ≠ nth es j ∨ m < j))
theorem cont_test (hb : ∀ x ∈ es, x < 2 ^ 32) {b i : Nat} (h1 : b < es.length) (h2 : i < es.length) : (decide (andn (nth es b) (nth es i) = 0) && (decide (nth es i ≠ nth es b) || decide (i < b))) = true ↔ (sub (nth es b) (nth es i) ∧ (nth es i ≠ nth es b ∨ i < b)) := by
  rw [Bool.and_eq_true, Bool.or_eq_true, decide_eq_true_eq, decide_eq_true_eq, decide_eq_true_eq]
  have x1 := hb _ (nth_mem h1)
  have x2 := hb _ (nth_mem h2)
  exact ⟨fun h => ⟨sub_of_andn x1 x2 h.1, h.2⟩, fun h => ⟨andn_of_sub x1 x2 h.1, h.2⟩⟩
theorem sub_trans {a b c : Nat} (h1 : sub a b) (h2 : sub b c) : sub a c := fun v hv => h2 v (h1 v hv)
theorem sub_anti {a b : Nat} (h1 : sub a b) (h2 : sub b a) : a = b := by
  apply Nat.eq_of_testBit_eq
  intro v
  rw [Bool.eq_iff_iff]
  exact ⟨h1 v, h2 v⟩
theorem cont_inv (hb : ∀ x ∈ es, x < 2 ^ 32) {e : Nat} (he : e < es.length) : ∀ k, k ≤ es.length → contTo es e k < es.length ∧ sub (nth es e) (nth es (contTo es e k)) ∧ TopE es (contTo es e k) k
  | 0, _ => ⟨he, fun v hv => hv, fun m hm => by omega⟩
  | k + 1, hk => by
    obtain ⟨h1, h2, h3⟩ := cont_inv hb he k (by omega)
    rw [contTo]
    generalize contTo es e k = b at *
    unfold contStep
    by_cases hc : (decide (andn (nth es b) (nth es k) = 0) && (decide (nth es k ≠ nth es b) || decide (k < b))) = true
    · rw [if_pos hc]
      obtain ⟨c1, c2⟩ := (cont_test hb h1 (show k < es.length by omega)).1 hc
      refine ⟨by omega, sub_trans h2 c1, fun m hm => ?_⟩
      rintro ⟨d1, d2⟩
      rcases Nat.lt_or_ge m k with h4 | h4
      · have h5 := h3 m h4
        have h6 : nth es m = nth es b := by
          refine Classical.byContradiction fun hne => h5 ⟨sub_trans c1 d1, .inl hne⟩
        have h7 : ¬ m < b := fun h => h5 ⟨sub_trans c1 d1, .inr h⟩
        have h8 : nth es k = nth es b := sub_anti (h6 ▸ d1) c1
        rcases c2 with c2 | c2
        · exact c2 h8
        · omega
      · obtain rfl : m = k := by omega
        rcases d2 with d2 | d2
        · exact d2 rfl
        · omega
    · rw [if_neg hc]
      refine ⟨h1, h2, fun m hm => ?_⟩
      rcases Nat.lt_or_ge m k with h4 | h4
      · exact h3 m h4
      · obtain rfl : m = k := by omega
        exact fun h => hc ((cont_test hb h1 (show m < es.length by omega)).2 h)
theorem cont_lt (hb : ∀ x ∈ es, x < 2 ^ 32) {e : Nat} (he : e < es.length) : contF es e < es.length := (cont_inv hb he _ (Nat.le_refl _)).1
/-- The container is kept, and contains the edge. -/
theorem cont_top (hb : ∀ x ∈ es, x < 2 ^ 32) {e : Nat} (he : e < es.length) : sub (nth es e) (nth es (contF es e)) ∧ contF es (contF es e) = contF es e := by
  obtain ⟨h1, h2, h3⟩ := cont_inv hb he _ (Nat.le_refl _)
  rw [show contTo es e es.length = contF es e from rfl] at h1 h2 h3
  refine ⟨h2, ?_⟩
  show contTo es (contF es e) es.length = contF es e
  have : ∀ k, k ≤ es.length → contTo es (contF es e) k = contF es e := by
    intro k
    induction k with
    | zero => intro _; rfl
    | succ k ih =>
      intro hk
      rw [contTo, ih (by omega)]
      unfold contStep
      rw [if_neg fun hc => h3 k (by omega) ((cont_test hb h1 (show k < es.length by omega)).1 hc)]
  exact this _ (Nat.le_refl _)
theorem keptE_sub (hb : ∀ x ∈ es, x < 2 ^ 32) : ∀ x ∈ es, ∃ y ∈ keptE es, sub x y := by
  intro x hx
  obtain ⟨i, hi, rfl⟩ := List.getElem_of_mem hx
  rw [← nth_eq hi]
  obtain ⟨h1, h2⟩ := cont_top hb hi
  refine ⟨_, List.mem_map.2 ⟨contF es i, List.mem_filter.2 ⟨?_, ?_⟩, rfl⟩, h1⟩
  · rw [List.mem_range]; exact cont_lt hb hi
  · rw [beq_iff_eq]; exact h2
theorem keptI_lt : ∀ i ∈ keptI es, i < es.length := fun i hi => by
  have := (List.mem_filter.1 hi).1
  simpa using this
theorem keptE_mem : ∀ x ∈ keptE es, x ∈ es := by
  intro x hx
  obtain ⟨i, hi, rfl⟩ := List.mem_map.1 hx
  exact nth_mem (keptI_lt i hi)
theorem keptI_len : (keptI es).length ≤ es.length := by
  have := List.length_filter_le (fun i => contF es i == i) (List.range es.length)
  rwa [List.length_range] at this
theorem keptE_len : (keptE es).length ≤ es.length := by
  rw [keptE, List.length_map]; exact keptI_len
theorem map_nth : (List.range es.length).map (nth es) = es := by
  apply List.ext_getElem (by simp)
  intro i h1 h2
  simp [nth, List.getD, h2]
theorem rip_extra {l : List Nat} : ∀ xs : List Nat, (∀ x ∈ xs, ∃ y ∈ l, sub x y) → (Rip (xs ++ l) ↔ Rip l)
  | [], _ => Iff.rfl
  | x :: xs, h => by
    have ih := rip_extra xs fun y hy => h y (by simp [hy])
    obtain ⟨y, hy, hs⟩ := h x (by simp)
    rw [← ih, List.cons_append]
    exact ⟨fun h => h.del (by simp [hy]) hs, fun h => h.add (by simp [hy]) hs⟩
/-- Only the kept edges matter. -/
theorem rip_kept (hb : ∀ x ∈ es, x < 2 ^ 32) (b : Nat) : Rip (keptE es ++ [b]) ↔ Rip (es ++ [b]) := by
  have hp : (((List.range es.length).filter fun i => !(contF es i == i)).map (nth es) ++ (keptE es ++ [b])).Perm (es ++ [b]) := by
    rw [← List.append_assoc]
    refine List.Perm.append_right [b] ?_
    have h1 := (List.filter_append_perm (fun i => contF es i == i) (List.range es.length)).map (nth es)
    rw [map_nth, List.map_append] at h1
    exact (List.perm_append_comm).trans h1
  have h2 := rip_extra (l := keptE es ++ [b]) (((List.range es.length).filter fun i => !(contF es i == i)).map (nth es)) (fun x hx => by
    obtain ⟨i, hi, rfl⟩ := List.mem_map.1 hx
    have hil : i < es.length := by have := (List.mem_filter.1 hi).1; simpa using this
    obtain ⟨y, hy, hs⟩ := keptE_sub hb _ (nth_mem hil)
    exact ⟨y, by simp [hy], hs⟩)
  rw [← h2]
  exact ⟨fun h => Rip.perm hp h, fun h => Rip.perm hp.symm h⟩
theorem acyc_kept (hn : n ≤ 32) (hb : ∀ x ∈ es, x < 2 ^ n) {b : Nat} (h : b < 2 ^ n) : Acyc n (keptE es ++ [b]) ↔ Acyc n (es ++ [b]) := by
  rw [acyc_iff hn (fun x hx => ?_), acyc_iff hn (fun x hx => ?_)]
  · exact rip_kept (fun x hx => Nat.lt_of_lt_of_le (hb x hx) (two_pow_le hn)) b
  · rw [List.mem_append, List.mem_singleton] at hx
    rcases hx with h1 | rfl
    · exact hb x h1
    · exact h
  · rw [List.mem_append, List.mem_singleton] at hx
    rcases hx with h1 | rfl
    · exact hb x (keptE_mem x h1)
    · exact h
theorem keptI_take {k : Nat} (h : k < es.length) : (List.range (k + 1)).filter (fun i => contF es i == i) = (List.range k).filter (fun i => contF es i == i) ++ (if contF es k = k then [k] else []) := by
  rw [List.range_succ, List.filter_append]
  by_cases h0 : contF es k = k
  · simp [h0]
  · simp [h0]
end
end Go.Proofs.YtjofdlafblpclaaDoor
namespace Go.Proofs.YtjofdlafblpclaaDoor
open Go.RowKit
set_option linter.unusedSimpArgs false
set_option linter.unusedVariables false

set_option maxHeartbeats 400000 in
theorem cxbelow_any (n : Nat) (hn : n ≤ 32) (w : World) :
    Calls Tryd.prog 33 #[.int .i64 n] w fun e w' => e = .returned (.int .u32 ((2^n - 1 : Nat) : Int)) ∧ w = w' := by
  go_enter Tryd.func33, Tryd.ntmps33
  go_wp2_with fail
  go_ret
  exact ⟨ret_int (below_val n hn), rfl⟩

/-- The error of a hypergraph or of a number of free variables. -/
def freeCode (n : Int) (es : List Nat) (f : Int) : Int := if checkCode n es = 0 then (if f < 0 ∨ n < f then 3 else 0) else checkCode n es
set_option maxHeartbeats 1000000 in
theorem checkFree_any (n : Int) (A : Option Addr) (es : List Nat) (len c : Nat) (f : Int) (w : World) (hr : Es w w.heap.size A len es) :
    Calls Tryd.prog 26 #[.agg #[.int .i64 n, .slice A len c], .int .i64 f] w fun e w' => e = .returned (.int .i64 (freeCode n es f)) ∧ Below w.heap.size w w' := by
  have HR := Lib.hid hr; clear hr
  have HW := Lib.hid (al w (.cells #[.int .i64 n, .slice A len c] 24))
  have HG := Lib.hid (GB.made w 24 (.int .i64 n) (.slice A len c))
  go_enter Tryd.func26, Tryd.ntmps26
  go_wp2_with fail
  refine (check_any n A es len c _ (HR.out.new HW.out)).mono ?_
  rintro e w1 ⟨rfl, hb⟩
  have HB := Lib.hid (bthen HW.out hb (by simp))
  have HG1 := Lib.hid (HG.out.new hb); clear hb
  have g0 := HG1.out.c0
  obtain ⟨cc, hcc⟩ : ∃ x, x = checkCode n es := ⟨_, rfl⟩
  have HC := Lib.hid (show freeCode n es f = if cc = 0 then (if f < 0 ∨ n < f then 3 else 0) else cc by rw [freeCode, hcc])
  rw [← hcc]; clear hcc
  by_cases h0 : cc = 0
  · have t0 : (cc != 0) = false := by simp [h0]
    by_cases h1 : f < 0
    · have t1 : decide (f < 0) = true := by simp [h1]
      have HF := Lib.hid (show freeCode n es f = 3 by rw [HC.out, if_pos h0, if_pos (.inl h1)]); clear h0 h1
      go_wp2_with fail
      go_ret
      exact ⟨ret_int HF.out.symm, HB.out⟩
    · have t1 : decide (f < 0) = false := by simp; omega
      by_cases h2 : n < f
      · have t2 : decide (f > n) = true := by simp [h2]
        have HF := Lib.hid (show freeCode n es f = 3 by rw [HC.out, if_pos h0, if_pos (.inr h2)]); clear h0 h1 h2
        go_wp2_with fail
        go_ret
        exact ⟨ret_int HF.out.symm, HB.out⟩
      · have t2 : decide (f > n) = false := by simp; omega
        have HF := Lib.hid (show freeCode n es f = 0 by rw [HC.out, if_pos h0, if_neg (by omega)]); clear h0 h1 h2
        go_wp2_with fail
        go_ret
        exact ⟨ret_int HF.out.symm, HB.out⟩
  · have t0 : (cc != 0) = true := by simp [h0]
    have HF := Lib.hid (show freeCode n es f = cc by rw [HC.out, if_neg h0]); clear h0
    go_wp2_with fail
    go_ret
    exact ⟨ret_int HF.out.symm, HB.out⟩
set_option maxHeartbeats 1000000 in
theorem wrong_any (n : Int) (A : Option Addr) (es : List Nat) (len c : Nat) (f : Int) (w : World) (hr : Es w w.heap.size A len es) :
    Calls Tryd.prog 13 #[.agg #[.int .i64 n, .slice A len c], .int .i64 f] w fun e w' => e = .returned (.int .i64 (freeCode n es f)) ∧ Below w.heap.size w w' := by
  have HR := Lib.hid hr; clear hr
  have HW := Lib.hid (al w (.cells #[.int .i64 n, .slice A len c] 24))
  have HG := Lib.hid (GB.made w 24 (.int .i64 n) (.slice A len c))
  go_enter Tryd.func13, Tryd.ntmps13
  go_wp2_with fail
  refine (check_any n A es len c _ (HR.out.new HW.out)).mono ?_
  rintro e w1 ⟨rfl, hb⟩
  have HB := Lib.hid (bthen HW.out hb (by simp))
  have HG1 := Lib.hid (HG.out.new hb); clear hb
  have g0 := HG1.out.c0
  obtain ⟨cc, hcc⟩ : ∃ x, x = checkCode n es := ⟨_, rfl⟩
  have HC := Lib.hid (show freeCode n es f = if cc = 0 then (if f < 0 ∨ n < f then 3 else 0) else cc by rw [freeCode, hcc])
  rw [← hcc]; clear hcc
  by_cases h0 : cc = 0
  · have t0 : (cc != 0) = false := by simp [h0]
    by_cases h1 : f < 0
    · have t1 : decide (f < 0) = true := by simp [h1]
      have HF := Lib.hid (show freeCode n es f = 3 by rw [HC.out, if_pos h0, if_pos (.inl h1)]); clear h0 h1
      go_wp2_with fail
      go_ret
      exact ⟨ret_int HF.out.symm, HB.out⟩
    · have t1 : decide (f < 0) = false := by simp; omega
      by_cases h2 : n < f
      · have t2 : decide (f > n) = true := by simp [h2]
        have HF := Lib.hid (show freeCode n es f = 3 by rw [HC.out, if_pos h0, if_pos (.inr h2)]); clear h0 h1 h2
        go_wp2_with fail
        go_ret
        exact ⟨ret_int HF.out.symm, HB.out⟩
      · have t2 : decide (f > n) = false := by simp; omega
        have HF := Lib.hid (show freeCode n es f = 0 by rw [HC.out, if_pos h0, if_neg (by omega)]); clear h0 h1 h2
        go_wp2_with fail
        go_ret
        exact ⟨ret_int HF.out.symm, HB.out⟩
  · have t0 : (cc != 0) = true := by simp [h0]
    have HF := Lib.hid (show freeCode n es f = cc by rw [HC.out, if_neg h0]); clear h0
    go_wp2_with fail
    go_ret
    exact ⟨ret_int HF.out.symm, HB.out⟩
def greatB (n : Int) (es : List Nat) : Bool := decide ((checkCode n es = 0 ∧ (6 < n ∨ 8 < es.length)) ∨ 70 < es.length)
set_option maxHeartbeats 2000000 in
theorem great_any (n : Int) (A : Option Addr) (es : List Nat) (len c : Nat) (w : World) (hr : Es w w.heap.size A len es) :
    Calls Tryd.prog 10 #[.agg #[.int .i64 n, .slice A len c]] w fun e w' => e = .returned (.bool (greatB n es)) ∧ Below w.heap.size w w' := by
  have hlen := hr.len
  have hle := hr.le
  subst hlen
  have HR := Lib.hid hr; clear hr
  have HW := Lib.hid (al w (.cells #[.int .i64 n, .slice A es.length c] 24))
  have HG := Lib.hid (GB.made w 24 (.int .i64 n) (.slice A es.length c))
  go_enter Tryd.func10, Tryd.ntmps10
  go_wp2_with fail
  refine (check_any n A es es.length c _ (HR.out.new HW.out)).mono ?_
  rintro e w1 ⟨rfl, hb⟩
  have HB := Lib.hid (bthen HW.out hb (by simp))
  have HG1 := Lib.hid (HG.out.new hb); clear hb
  have g0 := HG1.out.c0; have g1 := HG1.out.c1
  obtain ⟨cc, hcc⟩ : ∃ x, x = checkCode n es := ⟨_, rfl⟩
  have HC := Lib.hid (show greatB n es = decide ((cc = 0 ∧ (6 < n ∨ 8 < es.length)) ∨ 70 < es.length) by rw [greatB, hcc])
  rw [← hcc]; clear hcc
  have fin : ∀ b : Bool, (b = true ↔ ((cc = 0 ∧ (6 < n ∨ 8 < es.length)) ∨ 70 < es.length)) → (fun e w' => e = Ending.returned (.bool (greatB n es)) ∧ Below w.heap.size w w') (.returned (.bool b)) w1 := by
    intro b hb
    refine ⟨ret_bool ?_, HB.out⟩
    rw [HC.out, Bool.eq_iff_iff, hb, decide_eq_true_eq]
  have FIN := Lib.hid fin; clear fin
  by_cases h7 : 70 < es.length
  · have t7 : decide ((es.length : Int) > 70) = true := by simp; omega
    have t8 : decide ((es.length : Int) > 8) = true := by simp; omega
    have HF := Lib.hid (FIN.out true (by simp [h7]))
    by_cases h0 : cc = 0
    · have t0 : (cc == 0) = true := by simp [h0]
      by_cases h6 : 6 < n
      · have t6 : decide (n > 6) = true := by simp [h6]
        go_wp2_with fail
        go_ret
        exact HF.out
      · have t6 : decide (n > 6) = false := by simp; omega
        go_wp2_with fail
        go_ret
        exact HF.out
    · have t0 : (cc == 0) = false := by simp [h0]
      go_wp2_with fail
      go_ret
      exact HF.out
  · have t7 : decide ((es.length : Int) > 70) = false := by simp; omega
    by_cases h0 : cc = 0
    · have t0 : (cc == 0) = true := by simp [h0]
      by_cases h6 : 6 < n
      · have t6 : decide (n > 6) = true := by simp [h6]
        have HF := Lib.hid (FIN.out true (by simp [h0, h6]))
        go_wp2_with fail
        go_ret
        exact HF.out
      · have t6 : decide (n > 6) = false := by simp; omega
        by_cases h8 : 8 < es.length
        · have t8 : decide ((es.length : Int) > 8) = true := by simp; omega
          have HF := Lib.hid (FIN.out true (by simp [h0, h8]))
          go_wp2_with fail
          go_ret
          exact HF.out
        · have t8 : decide ((es.length : Int) > 8) = false := by simp; omega
          have HF := Lib.hid (FIN.out false (by simp; omega))
          go_wp2_with fail
          go_ret
          exact HF.out
    · have t0 : (cc == 0) = false := by simp [h0]
      have HF := Lib.hid (FIN.out false (by simp [h0]; omega))
      go_wp2_with fail
      go_ret
      exact HF.out

set_option maxRecDepth 100000 in
set_option maxHeartbeats 2000000 in
theorem container_any (n : Int) (A : Option Addr) (es : List Nat) (len c k : Nat) (w : World) (hr : Es w w.heap.size A len es) (hk : k < len) :
    Calls Tryd.prog 42 #[.agg #[.int .i64 n, .slice A len c], .int .i64 k] w fun e w' => e = .returned (.int .i64 (contF es k : Nat)) ∧ Below w.heap.size w w' := by
  have hlen := hr.len
  have hle := hr.le
  subst hlen
  have HR := Lib.hid hr; clear hr
  have HW := Lib.hid (al w (.cells #[.int .i64 n, .slice A es.length c] 24))
  have HG := Lib.hid (GB.made w 24 (.int .i64 n) (.slice A es.length c))
  have HCL := Lib.hid (fun j (hj : j ≤ es.length) => (cont_inv (es := es) HR.out.2.2 hk j hj).1)
  go_enter Tryd.func42, Tryd.ntmps42
  have g1 := HG.out.c1; have gl := HG.out.lt
  go_wp2_with fail
  go_loop [5, 12] (fun bv iv => ∃ j : Nat, iv = .int .i64 j ∧ j ≤ es.length ∧ bv = .int .i64 (contTo es k j : Nat)) (fun _ iv => es.length - (intOf iv).toNat)
  case atStart => exact ⟨0, rfl, Nat.zero_le _, rfl⟩
  case round =>
    obtain ⟨j, rfl, hj, rfl⟩ := hrel
    by_cases hjl : j < es.length
    · have hbl := HCL.out j (by omega)
      have HST := Lib.hid (show contTo es k (j + 1) = contStep es (contTo es k j) j from rfl)
      generalize contTo es k j = b at *
      obtain ⟨ad, rfl, hb1, cj⟩ := (HR.out.new HW.out).at_ hjl
      obtain ⟨ad2, he, _, cb⟩ := (HR.out.new HW.out).at_ hbl
      injection he with he; subst he
      have hej := HR.out.lt hjl
      have heb := HR.out.lt hbl
      have hand := bits_andNot _ _ heb hej
      have i1 : (0 : Int) ≤ (b : Int) := by omega
      have i2 : (b : Int) < (es.length : Int) := by omega
      have i3 : (0 : Int) ≤ (j : Int) := by omega
      have i4 : (j : Int) < (es.length : Int) := by omega
      have HSE := Lib.hid (show contStep es b j = if (decide (andn (nth es b) (nth es j) = 0) && (decide (nth es j ≠ nth es b) || decide (j < b))) = true then j else b from rfl)
      rw [HSE.out] at HST
      clear HSE
      generalize nth es b = x at *
      generalize nth es j = y at *
      by_cases h1 : andn x y = 0
      · rw [h1] at hand HST
        by_cases h2 : y = x
        · have t2 : ((y : Int) != (x : Int)) = false := by simp [h2]
          by_cases h3 : j < b
          · have t3 : decide (j < b) = true := by simp [h3]
            have HN := Lib.hid (show contTo es k (j + 1) = j by rw [HST.out, if_pos (by rw [t3]; simp)]); clear h1 h2 h3
            go_wp2_with fail
            exact ⟨⟨j + 1, by go_num, by omega, by rw [HN.out]⟩, by simp [intOf]; omega⟩
          · have t3 : decide (j < b) = false := by simp; omega
            have HN := Lib.hid (show contTo es k (j + 1) = b by rw [HST.out, t3, if_neg (by rw [h2]; simp)]); clear h1 h2 h3
            go_wp2_with fail
            exact ⟨⟨j + 1, by go_num, by omega, by rw [HN.out]⟩, by simp [intOf]; omega⟩
        · have t2 : ((y : Int) != (x : Int)) = true := by simp; omega
          have HN := Lib.hid (show contTo es k (j + 1) = j by rw [HST.out, if_pos (by simp [h2])]); clear h1 h2
          go_wp2_with fail
          exact ⟨⟨j + 1, by go_num, by omega, by rw [HN.out]⟩, by simp [intOf]; omega⟩
      · have t1 : (((andn x y : Nat) : Int) == 0) = false := by simp; omega
        have HN := Lib.hid (show contTo es k (j + 1) = b by rw [HST.out, if_neg (by simp [h1])])
        generalize andn x y = z at *
        go_wp2_with fail
        exact ⟨⟨j + 1, by go_num, by omega, by rw [HN.out]⟩, by simp [intOf]; omega⟩
    · obtain rfl : j = es.length := by omega
      go_wp2_with fail
      go_ret
      exact ⟨rfl, HW.out⟩
end Go.Proofs.YtjofdlafblpclaaDoor
namespace Go.Proofs.YtjofdlafblpclaaDoor
open Go.RowKit

theorem run_index_row (l : List Nat) (hl : l.length = 32) (v : Nat) (hv : v < 32) (w : World) :
    (Instr.index 58 (.agg (urow l)) (.int .i64 (v : Int))).run Tryd.prog w = .ok (.int .u32 (nth l v : Int)) w := by
  have h1 := urow_get (l := l) (k := v) (by omega)
  obtain ⟨i, hi, hz, hs, hb⟩ := info_parts info_u32
  simp [Instr.index, run_underlying Tryd.underlying58, asIntOf]
  rw [if_pos hv]
  simp [part, isAgg, run_underlying Tryd.underlying42, h1]

/-- The neighbors of a vertex as Neighbors answers. -/
def nbr (n : Int) (es : List Nat) (v : Int) : Nat := if checkCode n es ≠ 0 ∨ v < 0 ∨ n ≤ v then 0 else adj es v.toNat

set_option maxHeartbeats 1000000 in
theorem neighbors_bad (n v : Int) (A : Option Addr) (es : List Nat) (len c : Nat) (w : World) (hr : Es w w.heap.size A len es) (hbad : checkCode n es ≠ 0 ∨ v < 0 ∨ n ≤ v) :
    Calls Tryd.prog 49 #[.agg #[.int .i64 n, .slice A len c], .int .i64 v] w fun e w' => e = .returned (.int .u32 0) ∧ Below w.heap.size w w' := by
  have HR := Lib.hid hr; clear hr
  by_cases h1 : checkCode n es = 0
  · have h2 : v < 0 ∨ n ≤ v := by omega
    clear hbad
    have H1 := Lib.hid h1; clear h1
    by_cases h3 : v < 0
    · go_enter Tryd.func49, Tryd.ntmps49
      go_wp2_with fail
      refine (check_any n A es len c _ ?_).mono ?_
      · exact ((HR.out.alloc (Nat.le_refl _) _).more (by simp))
      rintro e w1 ⟨rfl, hb⟩
      rw [H1.out]
      have HB := Lib.hid hb; clear hb
      go_wp2_with fail
      go_ret
      exact ⟨rfl, ((Below.refl _ _).alloc (Nat.le_refl _) _).trans (HB.out.mono (by simp))⟩
    · have h4 : n ≤ v := by omega
      go_enter Tryd.func49, Tryd.ntmps49
      go_wp2_with fail
      refine (check_any n A es len c _ ?_).mono ?_
      · exact ((HR.out.alloc (Nat.le_refl _) _).more (by simp))
      rintro e w1 ⟨rfl, hb⟩
      rw [H1.out]
      have c0 := (GB.new (GB.made _ _ _ _) hb).c0
      have HB := Lib.hid hb; clear hb
      go_wp2_with fail
      go_ret
      exact ⟨rfl, ((Below.refl _ _).alloc (Nat.le_refl _) _).trans (HB.out.mono (by simp))⟩
  · have hb1 : (checkCode n es != 0) = true := by simp [h1]
    clear hbad h1
    go_enter Tryd.func49, Tryd.ntmps49
    go_wp2_with fail
    refine (check_any n A es len c _ ?_).mono ?_
    · exact ((HR.out.alloc (Nat.le_refl _) _).more (by simp))
    rintro e w1 ⟨rfl, hb⟩
    have HB := Lib.hid hb; clear hb
    go_wp2_with fail
    go_ret
    exact ⟨rfl, ((Below.refl _ _).alloc (Nat.le_refl _) _).trans (HB.out.mono (by simp))⟩

set_option maxHeartbeats 1000000 in
theorem neighbors_ok (n v : Nat) (A : Option Addr) (es : List Nat) (len c : Nat) (w : World) (hr : Es w w.heap.size A len es) (hgood : checkCode n es = 0) (hv : v < n) :
    Calls Tryd.prog 49 #[.agg #[.int .i64 n, .slice A len c], .int .i64 v] w fun e w' => e = .returned (.int .u32 (adj es v : Int)) ∧ Below w.heap.size w w' := by
  obtain ⟨_, hn, _, _⟩ := checkCode_zero hgood
  have HR := Lib.hid hr; clear hr
  have HG := Lib.hid hgood; clear hgood
  have hix := run_index_row (adjRow n es) (adjRow_length _ _) v (by omega)
  go_enter Tryd.func49, Tryd.ntmps49
  go_wp2_with fail
  refine (check_any n A es len c _ ?_).mono ?_
  · exact ((HR.out.alloc (Nat.le_refl _) _).more (by simp))
  rintro e w1 ⟨rfl, hb⟩
  rw [HG.out]
  have hg0 := GB.new (GB.made _ _ _ _) hb
  have c0 := hg0.c0
  have c1 := hg0.c1
  have hB : Below w.heap.size w w1 := ((Below.refl _ _).alloc (Nat.le_refl _) _).trans (hb.mono (by simp))
  have HB := Lib.hid hB; clear hb hB hg0
  go_wp2_with fail
  refine (adjacency_any n (by omega) A es len c _ ?_).mono ?_
  · exact HR.out.new HB.out
  rintro e w2 ⟨rfl, hb⟩
  have HB2 := Lib.hid (HB.out.trans (hb.mono HB.out.size)); clear hb HB
  go_wp2_with fail
  go_ret
  refine ⟨ret_int ?_, HB2.out⟩
  rw [nth_adjRow (by omega), if_pos hv]

end Go.Proofs.YtjofdlafblpclaaDoor
namespace Go.Proofs.YtjofdlafblpclaaDoor

/-- A walk of k edges from a to b; all its vertices but the first lie in I. -/
inductive Wk (G : Nat → Nat → Prop) (I : Nat → Prop) : Nat → Nat → Nat → Prop
  | nil (a : Nat) : Wk G I 0 a a
  | snoc {k a u v : Nat} : Wk G I k a u → G u v → I v → Wk G I (k + 1) a v
section
variable {G : Nat → Nat → Prop} {I J : Nat → Prop}
theorem Wk.mono (h : ∀ v, I v → J v) {k a b : Nat} (w : Wk G I k a b) : Wk G J k a b := by
  induction w with
  | nil a => exact .nil a
  | snoc _ g i ih => exact .snoc ih g (h _ i)
theorem Wk.cat {k l a b c : Nat} (w : Wk G I k a b) (w2 : Wk G I l b c) : Wk G I (k + l) a c := by
  induction w2 with
  | nil _ => exact w
  | snoc _ g i ih => exact .snoc (ih w) g i
theorem Wk.cons {k a b c : Nat} (g : G a b) (i : I b) (w : Wk G I k b c) : Wk G I (k + 1) a c := by
  have := (Wk.snoc (.nil a) g i).cat w
  rwa [Nat.add_comm] at this
theorem Wk.uncons {k a c : Nat} (w : Wk G I (k + 1) a c) : ∃ b, G a b ∧ I b ∧ Wk G I k b c := by
  generalize hm : k + 1 = m at w
  induction w generalizing k with
  | nil a => omega
  | @snoc j a u v w g i ih =>
    obtain rfl : j = k := by omega
    cases j with
    | zero =>
      cases w
      exact ⟨v, g, i, .nil v⟩
    | succ j =>
      obtain ⟨b, g1, i1, w1⟩ := ih rfl
      exact ⟨b, g1, i1, .snoc w1 g i⟩
theorem Wk.zero {a b : Nat} (w : Wk G I 0 a b) : a = b := by cases w; rfl
/-- Backwards, if the start lies in the set too. -/
theorem Wk.rev (hs : ∀ u v, G u v → G v u) {k a b : Nat} (w : Wk G I k a b) (ha : I a) : Wk G I k b a := by
  induction w with
  | nil a => exact .nil a
  | snoc _ g i ih =>
    rename_i k a u v w
    cases k with
    | zero => cases w; exact .snoc (.nil _) (hs _ _ g) ha
    | succ k =>
      cases w with
      | snoc w g' i' => exact Wk.cons (hs _ _ g) i' (ih ha)
/-- The start of a shortest walk is shortest. -/
theorem least_wk {a b k : Nat} (w : Wk G I k a b) : ∃ m, m ≤ k ∧ Wk G I m a b ∧ ∀ j, j < m → ¬ Wk G I j a b := by
  obtain ⟨m, h1, h2⟩ := least (P := fun k => Wk G I k a b) w
  refine ⟨m, ?_, h1, h2⟩
  rcases Nat.lt_or_ge k m with h | h
  · exact absurd w (h2 k h)
  · exact h
end
/-- The walk's graph and set, out of rows and a number. -/
def GR (R : List Nat) (u v : Nat) : Prop := (nth R u).testBit v = true
def InS (s v : Nat) : Prop := s.testBit v = true
section
variable {R : List Nat} {n : Nat}
theorem orTo_bit {f v : Nat} : ∀ {k : Nat}, (orTo R f k).testBit v = true ↔ ∃ u, u < k ∧ f.testBit u = true ∧ GR R u v
  | 0 => by simp [orTo]
  | k + 1 => by
    rw [orTo]
    split
    · rename_i h
      rw [Nat.testBit_or, Bool.or_eq_true, orTo_bit]
      constructor
      · rintro (⟨u, h1, h2, h3⟩ | h1)
        · exact ⟨u, by omega, h2, h3⟩
        · exact ⟨k, by omega, h, h1⟩
      · rintro ⟨u, h1, h2, h3⟩
        by_cases hu : u = k
        · subst hu; exact .inr h3
        · exact .inl ⟨u, by omega, h2, h3⟩
    · rename_i h
      rw [orTo_bit]
      constructor
      · rintro ⟨u, h1, h2, h3⟩; exact ⟨u, by omega, h2, h3⟩
      · rintro ⟨u, h1, h2, h3⟩
        have : u ≠ k := fun e => h (e ▸ h2)
        exact ⟨u, by omega, h2, h3⟩
theorem nextL_bit (hn : n ≤ 32) (hR : ∀ x ∈ R, x < 2 ^ n) {ins seen front v : Nat} (hs : seen < 2 ^ n) (hf : front < 2 ^ n) : (nextL R n ins seen front).testBit v = true ↔ (∃ u, front.testBit u = true ∧ GR R u v) ∧ ins.testBit v = true ∧ seen.testBit v = false ∧ front.testBit v = false := by
  unfold nextL
  have h1 : seen ||| front < 2 ^ 32 := Nat.lt_of_lt_of_le (Nat.or_lt_two_pow hs hf) (two_pow_le hn)
  have h2 : orTo R front n &&& ins < 2 ^ 32 := Nat.lt_of_le_of_lt Nat.and_le_left (Nat.lt_of_lt_of_le (orTo_lt hR front n) (two_pow_le hn))
  rw [testBit_andn h1 h2, Bool.and_eq_true, Nat.testBit_and, Bool.and_eq_true, orTo_bit, Nat.testBit_or, Bool.not_eq_true', Bool.or_eq_false_iff]
  constructor
  · rintro ⟨⟨⟨u, _, h3, h4⟩, h5⟩, h6, h7⟩; exact ⟨⟨u, h3, h4⟩, h5, h6, h7⟩
  · rintro ⟨⟨u, h3, h4⟩, h5, h6, h7⟩; exact ⟨⟨⟨u, testBit_lt hf h3, h3, h4⟩, h5⟩, h6, h7⟩
/-- At length m, exactly. -/
def Exact (R : List Nat) (ins a m v : Nat) : Prop := Wk (GR R) (InS ins) m a v ∧ ∀ j, j < m → ¬ Wk (GR R) (InS ins) j a v
theorem exact_before {ins a : Nat} : ∀ {m v : Nat}, Exact R ins a m v → ∀ j, j ≤ m → ∃ u, Exact R ins a j u
  | 0, v, h, j, hj => by
    obtain rfl : j = 0 := by omega
    exact ⟨v, h⟩
  | m + 1, v, h, j, hj => by
    rcases Nat.lt_or_ge j (m + 1) with h1 | h1
    · obtain ⟨w, hw⟩ := h
      cases w with
      | snoc w g i =>
        rename_i u
        exact exact_before (m := m) (v := u) ⟨w, fun j hj w2 => hw (j + 1) (by omega) (.snoc w2 g i)⟩ j (by omega)
    · obtain rfl : j = m + 1 := by omega
      exact ⟨v, h⟩
theorem dist_inv (hn : n ≤ 32) (hR : ∀ x ∈ R, x < 2 ^ n) {a b ins : Nat} (_ : a ≠ b) : ∀ (f seen front l d : Nat), distO R n b ins f seen front (l + 1) = some d → seen < 2 ^ n → front < 2 ^ n →
    (∀ v, seen.testBit v = true ↔ ∃ j, j < l ∧ Exact R ins a j v) → (∀ v, front.testBit v = true ↔ Exact R ins a l v) → (∀ j, j ≤ l → ¬ Exact R ins a j b) →
    (d = 0 ∧ ∀ k, ¬ Wk (GR R) (InS ins) k a b) ∨ (0 < d ∧ Exact R ins a d b) := by
  intro f
  induction f with
  | zero => intro seen front l d h; simp [distO] at h
  | succ f ih =>
    intro seen front l d h hs hf hS hF hB
    rw [distO] at h
    have hnext : ∀ v, (nextL R n ins seen front).testBit v = true ↔ Exact R ins a (l + 1) v := by
      intro v
      rw [nextL_bit hn hR hs hf]
      constructor
      · rintro ⟨⟨u, h1, h2⟩, h3, h4, h5⟩
        refine ⟨.snoc ((hF u).1 h1).1 h2 h3, fun j hj w => ?_⟩
        obtain ⟨m, hm, h6, h7⟩ := least_wk w
        rcases Nat.lt_or_ge m l with h8 | h8
        · have := (hS v).2 ⟨m, h8, h6, h7⟩
          rw [h4] at this; cases this
        · obtain rfl : m = l := by omega
          have := (hF v).2 ⟨h6, h7⟩
          rw [h5] at this; cases this
      · rintro ⟨w, hw⟩
        cases w with
        | snoc w g i =>
          rename_i u
          refine ⟨⟨u, (hF u).2 ⟨w, fun j hj w2 => hw (j + 1) (by omega) (.snoc w2 g i)⟩, g⟩, i, ?_, ?_⟩
          · cases h1 : seen.testBit v with
            | false => rfl
            | true =>
              obtain ⟨j, hj, w2, _⟩ := (hS v).1 h1
              exact absurd w2 (hw j (by omega))
          · cases h1 : front.testBit v with
            | false => rfl
            | true => exact absurd ((hF v).1 h1).1 (hw l (by omega))
    by_cases h0 : front = 0
    · rw [if_pos h0] at h
      injection h with h
      left
      refine ⟨h.symm, fun k w => ?_⟩
      obtain ⟨m, _, h6, h7⟩ := least_wk w
      rcases Nat.lt_or_ge l m with h8 | h8
      · obtain ⟨u, hu⟩ := exact_before (⟨h6, h7⟩ : Exact R ins a m b) l (by omega)
        have := (hF u).2 hu
        rw [h0] at this; simp at this
      · exact hB m h8 ⟨h6, h7⟩
    · rw [if_neg h0] at h
      by_cases h1 : (nextL R n ins seen front).testBit b = true
      · rw [if_pos h1] at h
        injection h with h
        right
        rw [← h]
        exact ⟨by omega, (hnext b).1 h1⟩
      · rw [if_neg h1] at h
        refine ih _ _ (l + 1) d h (Nat.or_lt_two_pow hs hf) (nextL_lt hR ins seen front) ?_ hnext ?_
        · intro v
          rw [Nat.testBit_or, Bool.or_eq_true, hS, hF]
          constructor
          · rintro (⟨j, h2, h3⟩ | h2)
            · exact ⟨j, by omega, h3⟩
            · exact ⟨l, by omega, h2⟩
          · rintro ⟨j, h2, h3⟩
            rcases Nat.lt_or_ge j l with h4 | h4
            · exact .inl ⟨j, h4, h3⟩
            · obtain rfl : j = l := by omega
              exact .inr h3
        · intro j hj h2
          rcases Nat.lt_or_ge j (l + 1) with h4 | h4
          · exact hB j (by omega) h2
          · obtain rfl : j = l + 1 := by omega
            exact h1 ((hnext b).2 h2)
/-- What the distance says. -/
theorem dist_spec (hn : n ≤ 32) (hR : ∀ x ∈ R, x < 2 ^ n) {a b : Nat} (ins : Nat) (ha : a < n) (hab : a ≠ b) :
    (distF R n a b ins = 0 ∧ ∀ k, ¬ Wk (GR R) (InS ins) k a b) ∨ (0 < distF R n a b ins ∧ Exact R ins a (distF R n a b ins) b) := by
  obtain ⟨⟨f, hf⟩, _⟩ := distF_spec hn hR ha b ins
  have hz : ∀ v, Exact R ins a 0 v ↔ v = a := by
    intro v
    constructor
    · rintro ⟨w, _⟩; exact w.zero.symm
    · rintro rfl; exact ⟨.nil _, fun j hj => by omega⟩
  refine dist_inv hn hR hab f 0 (2 ^ a) 0 _ hf (pow2_pos n) (Nat.pow_lt_pow_right (by omega) ha) ?_ ?_ ?_
  · intro v; simp
  · intro v
    rw [hz, Nat.testBit_two_pow, decide_eq_true_eq]; exact eq_comm
  · intro j hj h
    obtain rfl : j = 0 := by omega
    exact hab ((hz b).1 h).symm
theorem dist_of_exact (hn : n ≤ 32) (hR : ∀ x ∈ R, x < 2 ^ n) {a b ins d : Nat} (ha : a < n) (hab : a ≠ b) (h : Exact R ins a d b) : distF R n a b ins = d := by
  rcases dist_spec hn hR ins ha hab with ⟨_, h1⟩ | ⟨_, h1⟩
  · exact absurd h.1 (h1 d)
  · rcases Nat.lt_trichotomy (distF R n a b ins) d with h2 | h2 | h2
    · exact absurd h1.1 (h.2 _ h2)
    · exact h2
    · exact absurd h.1 (h1.2 _ h2)
end
end Go.Proofs.YtjofdlafblpclaaDoor
