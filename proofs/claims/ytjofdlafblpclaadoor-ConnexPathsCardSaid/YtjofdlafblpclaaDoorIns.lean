/-
  Contract of hypergraph.Inside.
-/
import Derived.Test.YtjofdlafblpclaaDoorAcy
namespace Go.Proofs.YtjofdlafblpclaaDoor
open Go.RowKit

/-- An edge contains a set. -/
def holdsB (set e : Nat) : Bool := decide (andn set e = 0)
set_option maxHeartbeats 1000000 in
theorem insideF (g set e : Nat) (w : World) (hg : w.cell? ⟨g, 0, none⟩ = some (.int .u32 (set : Int))) (hs : set < 2 ^ 32) (he : e < 2 ^ 32) :
    Calls Tryd.prog 39 #[.int .u32 e, .pointer (some ⟨g, 0, none⟩)] w fun e' w' => e' = .returned (.bool (holdsB set e)) ∧ w = w' := by
  have hand := bits_andNot set e hs he
  have hz : (((andn set e : Nat) : Int) == 0) = holdsB set e := by
    unfold holdsB
    rw [Bool.eq_iff_iff, beq_iff_eq, decide_eq_true_eq]; omega
  obtain ⟨x, hx⟩ : ∃ x, x = andn set e := ⟨_, rfl⟩
  obtain ⟨b, hb⟩ : ∃ b, b = holdsB set e := ⟨_, rfl⟩
  rw [← hx] at hand hz
  rw [← hb] at hz ⊢
  clear hx hb
  go_enter Tryd.func39, Tryd.ntmps39
  go_wp2_with fail
  go_ret
  exact ⟨rfl, rfl⟩
theorem callIn (args : Array Value) (W : World) : (callFunc 39 args).run Tryd.prog W = .ok (.enter 39 args) W := by
  kernel_rfl
theorem firstAt_ge (p : Nat → Bool) (l : List Nat) : (decide (0 ≤ firstAt p l)) = l.any p := by
  unfold firstAt
  cases h : l.findIdx? p with
  | none =>
    rw [List.findIdx?_eq_none_iff] at h
    symm
    simp only [show decide ((0 : Int) ≤ -1) = false from rfl]
    rw [List.any_eq_false]
    intro x hx; simpa using h x hx
  | some i =>
    rw [List.findIdx?_eq_some_iff_getElem] at h
    obtain ⟨hi, h1, _⟩ := h
    have : l.any p = true := List.any_eq_true.2 ⟨_, List.getElem_mem hi, h1⟩
    rw [this]; simp
theorem firstAt_max (p : Nat → Bool) (l : List Nat) : -1 ≤ firstAt p l ∧ firstAt p l < l.length := by
  unfold firstAt
  cases h : l.findIdx? p with
  | none => simp; omega
  | some i =>
    rw [List.findIdx?_eq_some_iff_getElem] at h
    obtain ⟨hi, _⟩ := h
    simp; omega
set_option maxHeartbeats 2000000 in
theorem inside_ok (n set : Nat) (A : Option Addr) (es : List Nat) (len c : Nat) (w : World) (hr : Es w w.heap.size A len es) (hcc : checkCode n es = 0) (hs : set < 2 ^ 32) :
    Calls Tryd.prog 21 #[.agg #[.int .i64 n, .slice A len c], .int .u32 set] w fun e w' => e = .returned (.tuple #[.int .i64 (max (firstAt (holdsB set) es) 0), .bool (es.any (holdsB set))]) ∧ Below w.heap.size w w' := by
  have hlt : ∀ e ∈ es, e < 2 ^ 32 := fun e he => hr.2.2 e he
  have HLT := Lib.hid hlt; clear hlt
  have HR := Lib.hid hr; clear hr
  have HC := Lib.hid hcc; clear hcc
  have hG := (GB.made w 24 (.int .i64 n) (.slice A len c)).alloc (.cells #[.int .u32 (set : Int)] 42)
  have hS := Blk.new (w.alloc (.cells #[.int .i64 n, .slice A len c] 24)) 42 #[.int .u32 (set : Int)]
  have hW : Below w.heap.size w ((w.alloc (.cells #[.int .i64 n, .slice A len c] 24)).alloc (.cells #[.int .u32 (set : Int)] 42)) := (al w _).alloc (by simp) _
  rw [show (w.alloc (.cells #[.int .i64 n, .slice A len c] 24)).heap.size = w.heap.size + 1 by simp] at hS
  have hm := firstAt_max (holdsB set) es
  have hge := firstAt_ge (holdsB set) es
  have hmx : max (firstAt (holdsB set) es) 0 = if firstAt (holdsB set) es < 0 then 0 else firstAt (holdsB set) es := by
    split <;> omega
  go_enter Tryd.func21, Tryd.ntmps21
  go_wp2_with fail
  generalize (w.alloc (.cells #[.int .i64 n, .slice A len c] 24)).alloc (.cells #[.int .u32 (set : Int)] 42) = w0 at hG hS hW ⊢
  have HG := Lib.hid hG; have HS := Lib.hid hS; have HW := Lib.hid hW; clear hG hS hW
  refine (check_any n A es len c _ (HR.out.new HW.out)).mono ?_
  rintro e w1 ⟨rfl, hb⟩
  rw [HC.out]
  replace HG := Lib.hid (HG.out.new hb); replace HS := Lib.hid (HS.out.below hb HS.out.lt); replace HW := Lib.hid (bthen HW.out hb HW.out.size); clear hb
  have g1 := HG.out.c1; have lg := HG.out.lt
  have HMX := Lib.hid hmx; have HGE := Lib.hid hge; have HM := Lib.hid hm; clear hmx hge hm
  go_wp2_with fail
  clear g1 lg
  refine (indexFunc_any A es len c 39 #[.pointer (some ⟨w.heap.size + 1, 0, none⟩)] (holdsB set) _ (HR.out.new HW.out) callIn (fun x W hx hbW => (insideF (w.heap.size + 1) set x W (by rw [(HS.out.below hbW HS.out.lt).cell]; rfl) hs (HLT.out x hx)).mono (by rintro e W' ⟨rfl, rfl⟩; exact ⟨rfl, Below.refl _ _⟩))).mono ?_
  rintro e w2 ⟨rfl, hb⟩
  replace HW := Lib.hid (bthen HW.out hb HW.out.size); clear hb
  obtain ⟨k, hk0⟩ : ∃ k, k = firstAt (holdsB set) es := ⟨_, rfl⟩
  rw [← hk0]
  have hm := HM.out
  rw [← hk0] at hm
  have HK0 := Lib.hid hk0
  have HMK := Lib.hid (show max (firstAt (holdsB set) es) 0 = max k 0 by rw [hk0])
  have HGK := Lib.hid (show decide (0 ≤ k) = es.any (holdsB set) by rw [hk0]; exact HGE.out)
  clear HMX HGE HM hk0
  by_cases hk : k < 0
  · have e1 : max k 0 = 0 := by omega
    have e2 : decide (0 ≤ k) = false := by simp; omega
    have HA := Lib.hid (show es.any (holdsB set) = false by rw [← HGK.out, e2])
    have HX := Lib.hid (show max (firstAt (holdsB set) es) 0 = 0 by rw [HMK.out, e1])
    clear HK0 HMK HGK hm
    go_wp2_with fail
    all_goals first | (exfalso; omega) | (go_ret2; exact ⟨by rw [HA.out, HX.out]; rfl, HW.out⟩)
  · have e1 : max k 0 = k := by omega
    have e2 : decide (0 ≤ k) = true := by simp; omega
    have HA := Lib.hid (show es.any (holdsB set) = true by rw [← HGK.out, e2])
    have HX := Lib.hid (show max (firstAt (holdsB set) es) 0 = k by rw [HMK.out, e1])
    clear HK0 HMK HGK hm
    go_wp2_with fail
    all_goals first | (exfalso; omega) | (go_ret2; exact ⟨by rw [HA.out, HX.out]; rfl, HW.out⟩)
end Go.Proofs.YtjofdlafblpclaaDoor
