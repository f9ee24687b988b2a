/-
  Contract of trio.Find.
-/
import Derived.Test.YtdagdamliggfmaaFind
namespace Go.Proofs.Ytdagdamliggfmaa
open Go.RowKit

def tcells : Option (Nat × Nat × Nat) → Array Value
  | none => #[.int .i64 0, .int .i64 0, .int .i64 0]
  | some t => #[.int .i64 t.1, .int .i64 t.2.1, .int .i64 t.2.2]
theorem tcells_form (o : Option (Nat × Nat × Nat)) : ∃ a b c : Int, tcells o = #[.int .i64 a, .int .i64 b, .int .i64 c] := by
  cases o with
  | none => exact ⟨_, _, _, rfl⟩
  | some t => exact ⟨_, _, _, rfl⟩

set_option maxHeartbeats 1000000 in
theorem find1_any (t : Nat × Nat × Nat) (g1 g2 B h0 : Nat) (o : Option (Nat × Nat × Nat)) (f : Bool) (w : World) (h1 : Blk w g1 40 (tcells o)) (h2 : Blk w g2 4 #[.bool f]) (hne : g1 ≠ g2) (hg1 : B ≤ g1 ∧ g1 < h0) (hg2 : B ≤ g2 ∧ g2 < h0) :
    Calls Try.prog 37 #[TV t, .pointer (some ⟨g1, 0, none⟩), .pointer (some ⟨g2, 0, none⟩)] w fun e w' => e = .returned (.bool false) ∧ (Blk w' g1 40 (tcells (some t)) ∧ Blk w' g2 4 #[.bool true]) ∧ Keep B h0 w w' := by
  obtain ⟨a, b, c⟩ := t
  unfold TV
  obtain ⟨x, y, z, hx⟩ := tcells_form o
  rw [hx] at h1
  have hl1 := h1.lt
  have hl2 := h2.lt
  have k0 : w.cell? ⟨g1, 0, none⟩ = some (.int .i64 x) := by rw [h1.cell]; rfl
  have k1 : w.cell? ⟨g1, 1, none⟩ = some (.int .i64 y) := by rw [h1.cell]; rfl
  have k2 : w.cell? ⟨g1, 2, none⟩ = some (.int .i64 z) := by rw [h1.cell]; rfl
  have f0 := h1.frozen 0
  have f1 := h1.frozen 1
  have f2 := h1.frozen 2
  have k3 : w.cell? ⟨g2, 0, none⟩ = some (.bool f) := by rw [h2.cell]; rfl
  have f3 := h2.frozen 0
  have H1 := Lib.hid h1; clear h1 hx
  have H2 := Lib.hid h2; clear h2
  go_enter Try.func37, Try.ntmps37
  go_wp2_with fail
  go_ret
  refine ⟨rfl, ⟨?_, ?_⟩, ?_⟩
  · have h := (((H1.out.set_ 0 (.int .i64 a)).set_ 1 (.int .i64 b)).set_ 2 (.int .i64 c)).far (p := ⟨g2, 0, none⟩) hne (.bool true)
    exact h.alloc _
  · have h := (((H2.out.far (p := ⟨g1, 0, none⟩) (Ne.symm hne) (.int .i64 a)).far (p := ⟨g1, 1, none⟩) (Ne.symm hne) (.int .i64 b)).far (p := ⟨g1, 2, none⟩) (Ne.symm hne) (.int .i64 c)).set_ 0 (.bool true)
    exact h.alloc _
  · exact (((((Keep.refl _ _ _).setCell hg1.1 hg1.2 _).setCell hg1.1 hg1.2 _).setCell hg1.1 hg1.2 _).setCell hg2.1 hg2.2 _).alloc (by omega) _

/-- The first trio that Find answers. -/
def firstTrio (n : Int) (es : List Nat) (v : Int) : Option (Nat × Nat × Nat) := if validB n es v then (trios es v.toNat).head? else none

theorem callF1 (args : Array Value) (W : World) : (callFunc 37 args).run Try.prog W = .ok (.enter 37 args) W := by
  kernel_rfl

set_option maxHeartbeats 1000000 in
theorem find_any (n v : Int) (A : Option Addr) (es : List Nat) (len c : Nat) (w : World) (hr : Es w w.heap.size A len es) :
    Calls Try.prog 17 #[.agg #[.int .i64 n, .slice A len c], .int .i64 v] w fun e w' => e = .returned (.tuple #[.agg (tcells (firstTrio n es v)), .bool (firstTrio n es v).isSome]) ∧ Below w.heap.size w w' := by
  have HR := Lib.hid hr; clear hr
  go_enter Try.func17, Try.ntmps17
  go_wp2_with fail
  have key : Calls Try.prog 35 #[.agg #[.int .i64 n, .slice A len c], .int .i64 v, .func (.func 37) #[] #[.pointer (some ⟨w.heap.size + 1 + 1, 0, none⟩), .pointer (some ⟨w.heap.size + 1 + 1 + 1, 0, none⟩)]]
      ((((w.alloc (Obj.cells #[Value.int IntKind.i64 n, Value.slice A len c] 24)).alloc (Obj.cells (tcells none) 40)).alloc (Obj.cells (tcells none) 40)).alloc (Obj.cells #[Value.bool false] 4))
      fun e w' => e = .returned (.tuple #[]) ∧ (Blk w' (w.heap.size + 1) 40 (tcells none) ∧ Blk w' (w.heap.size + 1 + 1) 40 (tcells (firstTrio n es v)) ∧ Blk w' (w.heap.size + 1 + 1 + 1) 4 #[.bool (firstTrio n es v).isSome]) ∧ Below w.heap.size w w' := by
    have e1 : (w.alloc (Obj.cells #[Value.int IntKind.i64 n, Value.slice A len c] 24)).heap.size = w.heap.size + 1 := by simp
    generalize hw1 : w.alloc (Obj.cells #[Value.int IntKind.i64 n, Value.slice A len c] 24) = w1 at *
    have hb1 : Below w.heap.size w w1 := by rw [← hw1]; exact (Below.refl _ _).alloc (Nat.le_refl _) _
    have b1 : Blk (((w1.alloc (Obj.cells (tcells none) 40)).alloc (Obj.cells (tcells none) 40)).alloc (Obj.cells #[Value.bool false] 4)) (w.heap.size + 1) 40 (tcells none) := by
      rw [← e1]; exact ((Blk.new _ _ _).alloc _).alloc _
    have b2 : Blk (((w1.alloc (Obj.cells (tcells none) 40)).alloc (Obj.cells (tcells none) 40)).alloc (Obj.cells #[Value.bool false] 4)) (w.heap.size + 1 + 1) 40 (tcells none) := by
      have h := Blk.alloc (Blk.new (w1.alloc (Obj.cells (tcells none) 40)) 40 (tcells none)) (Obj.cells #[Value.bool false] 4)
      rw [World.size_alloc, e1] at h; exact h
    have b3 : Blk (((w1.alloc (Obj.cells (tcells none) 40)).alloc (Obj.cells (tcells none) 40)).alloc (Obj.cells #[Value.bool false] 4)) (w.heap.size + 1 + 1 + 1) 4 #[.bool false] := by
      have h := Blk.new ((w1.alloc (Obj.cells (tcells none) 40)).alloc (Obj.cells (tcells none) 40)) 4 #[.bool false]
      rw [World.size_alloc, World.size_alloc, e1] at h; exact h
    have hb2 : Below w.heap.size w (((w1.alloc (Obj.cells (tcells none) 40)).alloc (Obj.cells (tcells none) 40)).alloc (Obj.cells #[Value.bool false] 4)) :=
      ((hb1.alloc (by omega) _).alloc (by simp; omega) _).alloc (by simp; omega) _
    have hs : (((w1.alloc (Obj.cells (tcells none) 40)).alloc (Obj.cells (tcells none) 40)).alloc (Obj.cells #[Value.bool false] 4)).heap.size = w.heap.size + 1 + 1 + 1 + 1 := by simp; omega
    generalize ((w1.alloc (Obj.cells (tcells none) 40)).alloc (Obj.cells (tcells none) 40)).alloc (Obj.cells #[Value.bool false] 4) = w4 at *
    cases hv : validB n es v with
    | false =>
      refine (visit_bad n v A es len c w4 (HR.out.new hb2) _ hv).mono ?_
      rintro e w5 ⟨rfl, hb5⟩
      have hf : firstTrio n es v = none := by simp [firstTrio, hv]
      rw [hf]
      exact ⟨rfl, ⟨b1.below hb5 b1.lt, b2.below hb5 b2.lt, b3.below hb5 b3.lt⟩, hb2.trans (hb5.mono hb2.size)⟩
    | true =>
      obtain ⟨hg, h0, hvn⟩ := of_decide_eq_true hv
      obtain ⟨hn0, _, _, _⟩ := checkCode_zero hg
      obtain ⟨n, rfl⟩ := Int.eq_ofNat_of_zero_le hn0
      obtain ⟨m, rfl⟩ := Int.eq_ofNat_of_zero_le h0
      have hne : w.heap.size + 1 + 1 ≠ w.heap.size + 1 + 1 + 1 := by omega
      refine (visit_ok n m A es len c (w.heap.size + 1 + 1) w4 (by omega) ((HR.out.below hb2).more (by omega)) 37 _ hv callF1 false
        (fun l W => (Blk W (w.heap.size + 1 + 1) 40 (tcells l.getLast?) ∧ Blk W (w.heap.size + 1 + 1 + 1) 4 #[.bool l.getLast?.isSome]))
        (fun W' hb => ⟨b2.below hb b2.lt, b3.below hb b3.lt⟩) (fun l W k h => ⟨h.1.drewN k, h.2.drewN k⟩) ?_).mono ?_
      · intro l t W _ h hW
        refine (find1_any t _ _ (w.heap.size + 1 + 1) w4.heap.size _ _ W h.1 h.2 hne (by omega) (by omega)).mono ?_
        rintro e W' ⟨rfl, ⟨h1, h2⟩, hk⟩
        exact ⟨rfl, ⟨by simpa using h1, by simpa using h2⟩, hk⟩
      · rintro e w5 ⟨rfl, hI, hb5⟩
        have hf : firstTrio n es m = (seenOf false (trios es m)).getLast? := by
          simp only [firstTrio, hv, if_true, seenOf, Int.toNat_natCast]
          cases trios es m <;> simp
        rw [hf]
        exact ⟨rfl, ⟨b1.below hb5 (by omega), hI⟩, hb2.trans (hb5.mono (by omega))⟩
  refine key.mono ?_
  rintro e w1 ⟨rfl, ⟨b1, b2, b3⟩, hb⟩
  clear key
  generalize ho : firstTrio n es v = o at *
  have HO := Lib.hid ho; clear ho
  obtain ⟨x, y, z, hx⟩ := tcells_form o
  rw [hx] at b2
  have k0 : w1.cell? ⟨w.heap.size + 1 + 1, 0, none⟩ = some (.int .i64 x) := by rw [b2.cell]; rfl
  have k1 : w1.cell? ⟨w.heap.size + 1 + 1, 1, none⟩ = some (.int .i64 y) := by rw [b2.cell]; rfl
  have k2 : w1.cell? ⟨w.heap.size + 1 + 1, 2, none⟩ = some (.int .i64 z) := by rw [b2.cell]; rfl
  have k3 : w1.cell? ⟨w.heap.size + 1 + 1 + 1, 0, none⟩ = some (.bool o.isSome) := by rw [b3.cell]; rfl
  have m0 : w1.cell? ⟨w.heap.size + 1, 0, none⟩ = some (.int .i64 0) := by rw [b1.cell]; rfl
  have m1 : w1.cell? ⟨w.heap.size + 1, 1, none⟩ = some (.int .i64 0) := by rw [b1.cell]; rfl
  have m2 : w1.cell? ⟨w.heap.size + 1, 2, none⟩ = some (.int .i64 0) := by rw [b1.cell]; rfl
  have f0 := b1.frozen 0
  have f1 := b1.frozen 1
  have f2 := b1.frozen 2
  have hr1 := b1.set_ 0 (.int .i64 x)
  have r0 : (w1.setCell ⟨w.heap.size + 1, 0, none⟩ (.int .i64 x)).cell? ⟨w.heap.size + 1, 0, none⟩ = some (.int .i64 x) := by rw [hr1.cell]; rfl
  have hr2 := hr1.set_ 1 (.int .i64 y)
  have r1 : ((w1.setCell ⟨w.heap.size + 1, 0, none⟩ (.int .i64 x)).setCell ⟨w.heap.size + 1, 1, none⟩ (.int .i64 y)).cell? ⟨w.heap.size + 1, 1, none⟩ = some (.int .i64 y) := by rw [hr2.cell]; rfl
  have hr3 := hr2.set_ 2 (.int .i64 z)
  have r2 : (((w1.setCell ⟨w.heap.size + 1, 0, none⟩ (.int .i64 x)).setCell ⟨w.heap.size + 1, 1, none⟩ (.int .i64 y)).setCell ⟨w.heap.size + 1, 2, none⟩ (.int .i64 z)).cell? ⟨w.heap.size + 1, 2, none⟩ = some (.int .i64 z) := by rw [hr3.cell]; rfl
  have H1 := Lib.hid hb; clear hb b1 b2 b3 hr1 hr2 hr3
  have HX := Lib.hid hx; clear hx
  go_wp2_with fail
  go_region
  go_wp2_with fail
  refine bodyPost_ret (v := .tuple #[.agg #[.int .i64 x, .int .i64 y, .int .i64 z], .bool o.isSome]) (by simp [results, Try.results17, go_sem, r0, r1, r2]) rfl ⟨by rw [HO.out, HX.out], ?_⟩
  exact (((H1.out.setCell (by simp) _).setCell (by simp) _).setCell (by simp) _).drew

end Go.Proofs.Ytdagdamliggfmaa
