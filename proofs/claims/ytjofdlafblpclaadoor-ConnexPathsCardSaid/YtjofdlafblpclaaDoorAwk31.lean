/-
  awake of layer 31 returns true.
-/
import Derived.Test.YtjofdlafblpclaaDoorAwk26P
import Derived.Test.YtjofdlafblpclaaDoorCxK
import Derived.Test.YtjofdlafblpclaaDoorCxC
import Derived.Test.YtjofdlafblpclaaDoorEqI
namespace Go.Proofs.YtjofdlafblpclaaDoor

theorem aw1 : checkCode (3 : Nat) [5, 6] = 0 := by decide
theorem aw2 : Acyc 3 [5, 6] := by
  have h0 : Run 3 [5, 6] (List.replicate 2 false) [] [5, 6] [false, false] := .nil
  have h1 := h0.iso (absN_spec (by decide +kernel)) (isoT_spec (e := 0) (v := 0) (by decide +kernel))
  have h2 := h1.abs (absT_spec (e := 0) (f := 1) (by decide +kernel))
  have h3 := h2.iso (absN_spec (by decide +kernel)) (isoT_spec (e := 1) (v := 1) (by decide +kernel))
  have h4 := h3.iso (absN_spec (by decide +kernel)) (isoT_spec (e := 1) (v := 2) (by decide +kernel))
  exact ⟨_, _, _, h4, ⟨absN_spec (by decide +kernel), isoN_spec (by decide +kernel)⟩, by decide⟩
theorem aw3 : Acyc 3 [5, 6, 1] := by
  have h0 : Run 3 [5, 6, 1] (List.replicate 3 false) [] [5, 6, 1] [false, false, false] := .nil
  have h9 := h0.abs (absT_spec (e := 2) (f := 0) (by decide +kernel))
  have h1 := h9.iso (absN_spec (by decide +kernel)) (isoT_spec (e := 0) (v := 0) (by decide +kernel))
  have h2 := h1.abs (absT_spec (e := 0) (f := 1) (by decide +kernel))
  have h3 := h2.iso (absN_spec (by decide +kernel)) (isoT_spec (e := 1) (v := 1) (by decide +kernel))
  have h4 := h3.iso (absN_spec (by decide +kernel)) (isoT_spec (e := 1) (v := 2) (by decide +kernel))
  exact ⟨_, _, _, h4, ⟨absN_spec (by decide +kernel), isoN_spec (by decide +kernel)⟩, by decide⟩
theorem aw4 : ¬ Acyc 3 [5, 6, 3] := by
  rintro ⟨l, r, g, h1, h2, h3⟩
  have h0 : Run 3 [5, 6, 3] (List.replicate 3 false) [] [5, 6, 3] [false, false, false] := .nil
  obtain ⟨_, rfl, _⟩ := Run.final h1 h2 h0 ⟨absN_spec (by decide +kernel), isoN_spec (by decide +kernel)⟩
  exact absurd (h3 5 (by simp)) (by decide)
theorem aw5 : FreeCon 3 [5, 6] 1 := ⟨aw2, aw3⟩
theorem aw6 : ¬ FreeCon 3 [5, 6] 2 := fun h => aw4 h.2
theorem aw7 : pathF 3 [5, 6] 2 = some [0, 2, 1] := by decide +kernel
theorem aw8 : chkW (adjRow 3 [5, 6]) 3 2 [0, 2, 1] = true := by decide +kernel
end Go.Proofs.YtjofdlafblpclaaDoor
namespace Go.Proofs.YtjofdlafblpclaaDoor
open Go.RowKit
set_option linter.unusedSimpArgs false
set_option linter.unusedVariables false

theorem own_some9 {w : World} {base : Nat} {e : TypeId} {n : Nat} {v : Value} {xs : List Value} (h : w.ownsRow base e 1 v n xs) (hn : 0 < n) : ∃ g c, v = .slice (some ⟨g, 0, none⟩) n c ∧ base ≤ g := by
  rcases h.2 with ⟨_, h0⟩ | ⟨g, cap, cur, rfl, h1, _⟩
  · omega
  · exact ⟨g, cap, rfl, h1⟩
theorem Xs.of_own9 {w : World} {base c n : Nat} {A : Option Addr} {e : TypeId} {l : List Nat} (hn : n ≤ 32) (hl : ∀ x ∈ l, x < n) (h : w.ownsRow base e 1 (.slice A l.length c) l.length (I64 (ints l))) : Xs w w.heap.size A l.length (ints l) := by
  obtain ⟨A', c', e1, hx⟩ := Xs.of_own (L := ints l) h (fun x hx => by
    simp only [ints, List.mem_map] at hx
    obtain ⟨y, hy, rfl⟩ := hx
    have := hl y hy
    omega)
  injection e1 with e2 _ _
  rw [e2]; exact hx
set_option maxRecDepth 100000 in
set_option maxHeartbeats 8000000 in
theorem awake31_any (w : World) (hG0 : GTab w) : Calls Tryd.prog 11 #[] w fun e w' => e = .returned (.bool true) ∧ Below w.heap.size w w' := by
  have HGT := Lib.hid hG0; clear hG0
  go_enter Tryd.func11, Tryd.ntmps11
  go_wp2_with fail
  have hE : Es ((w.alloc (.cells #[.int .u32 5, .int .u32 6] 42)).alloc (.cells #[.int .i64 3, .slice (some ⟨w.heap.size, 0, none⟩) 2 2] 24)) ((w.alloc (.cells #[.int .u32 5, .int .u32 6] 42)).alloc (.cells #[.int .i64 3, .slice (some ⟨w.heap.size, 0, none⟩) 2 2] 24)).heap.size (some ⟨w.heap.size, 0, none⟩) 2 [5, 6] :=
    Es.of_blk (l := [5, 6]) (Blk.alloc (Blk.new w 42 (urow [5, 6])) _) (by decide) (by decide)
  have hG : GB ((w.alloc (.cells #[.int .u32 5, .int .u32 6] 42)).alloc (.cells #[.int .i64 3, .slice (some ⟨w.heap.size, 0, none⟩) 2 2] 24)) (w.heap.size + 1) 24 (.int .i64 3) (.slice (some ⟨w.heap.size, 0, none⟩) 2 2) := by
    simpa using GB.made (w.alloc (.cells #[.int .u32 5, .int .u32 6] 42)) 24 (.int .i64 3) (.slice (some ⟨w.heap.size, 0, none⟩) 2 2)
  have hB : Below w.heap.size w ((w.alloc (.cells #[.int .u32 5, .int .u32 6] 42)).alloc (.cells #[.int .i64 3, .slice (some ⟨w.heap.size, 0, none⟩) 2 2] 24)) := bthen (al w _) (al _ _) (by simp)
  have HE := Lib.hid hE; have HG := Lib.hid hG; have HB := Lib.hid hB
  refine (connex_ok 3 2 _ [5, 6] 2 2 _ hE aw1 (by decide) (by decide)).mono ?_
  clear hE hG hB
  rintro e w1 ⟨b, hb0, rfl, hb⟩
  obtain rfl : b = false := by cases b with
    | false => rfl
    | true => exact absurd (hb0.1 rfl) aw6
  replace HE := Lib.hid (HE.out.new hb)
  replace HG := Lib.hid (HG.out.new hb)
  replace HB := Lib.hid (bthen HB.out hb HB.out.size)
  clear hb hb0
  have c0 := HG.out.c0; have c1' := HG.out.c1; have hgl := HG.out.lt
  go_wp2_with fail
  refine (connex_ok 3 1 _ [5, 6] 2 2 _ HE.out aw1 (by decide) (by decide)).mono ?_
  rintro e w2 ⟨b, hb0, rfl, hb⟩
  obtain rfl : b = true := hb0.2 aw5
  replace HE := Lib.hid (HE.out.new hb)
  replace HG := Lib.hid (HG.out.new hb)
  replace HB := Lib.hid (bthen HB.out hb HB.out.size)
  clear hb hb0 c0 c1' hgl
  have c0 := HG.out.c0; have c1' := HG.out.c1; have hgl := HG.out.lt
  go_wp2_with fail
  refine (path_ok 3 _ [5, 6] 2 2 2 _ HE.out aw1 (by decide) (HGT.out.new HB.out)).mono ?_
  rintro e w3 ⟨v3, rfl, hown3, _, hb⟩
  rw [aw7] at hown3 ⊢
  obtain ⟨g3, c3, rfl, hg3⟩ := own_some9 hown3 (by decide)
  replace HE := Lib.hid (HE.out.new hb)
  replace HG := Lib.hid (HG.out.new hb)
  replace HB := Lib.hid (bthen HB.out hb HB.out.size)
  have HO3 := Lib.hid hown3
  clear hb hown3 c0 c1' hgl
  have c0 := HG.out.c0; have c1' := HG.out.c1; have hgl := HG.out.lt
  go_wp2_with fail
  refine (equal_int _ _ [0, 2, 1] [0, 2, 1] 3 3 c3 3 _ (Xs.of_own9 (n := 32) (l := [0, 2, 1]) (Nat.le_refl _) (by decide) (World.ownsRow.alloc HO3.out _)) ?_).mono ?_
  · exact Xs.of_blk (l := [0, 2, 1]) (Blk.new w3 3 (irow [0, 2, 1])) (by decide) (by decide)
  rintro e w5 ⟨rfl, hb⟩
  rw [show (([0, 2, 1] : List Int) == [0, 2, 1]) = true from by decide]
  have hx := bthen (al w3 (.cells #[.int .i64 0, .int .i64 2, .int .i64 1] 3)) hb (by simp)
  replace HE := Lib.hid (HE.out.new hx)
  replace HG := Lib.hid (HG.out.new hx)
  replace HO3 := Lib.hid (own_below HO3.out hx)
  replace HB := Lib.hid (bthen HB.out hx HB.out.size)
  clear hx hb c0 c1' hgl
  have c0 := HG.out.c0; have c1' := HG.out.c1; have hgl := HG.out.lt
  go_wp2_with fail
  refine (chkp_ok 3 _ [5, 6] 2 2 2 _ [0, 2, 1] 3 c3 _ HE.out aw1 (by decide) (Xs.of_own9 (n := 32) (l := [0, 2, 1]) (Nat.le_refl _) (by decide) HO3.out)).mono ?_
  rintro e w6 ⟨rfl, hb⟩
  rw [aw8]
  replace HB := Lib.hid (bthen HB.out hb HB.out.size)
  clear hb
  go_wp2_with fail
  go_ret
  exact ⟨rfl, HB.out⟩
end Go.Proofs.YtjofdlafblpclaaDoor
