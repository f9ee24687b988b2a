/-
  The walk of RatBack.
-/
import Derived.Test.YtifnbpkcnkfanaaQBackW
namespace Go.Proofs.Ytifnbpkcnkfanaa
open Go.RowKit
set_option linter.unusedSimpArgs false

set_option maxRecDepth 100000 in
set_option maxHeartbeats 8000000 in
theorem back_near {w : World} {s0 : Bool} {A0 B0 : Option Addr} {n0 c0 m0 d0 : Nat} {ds0 fs0 : List Nat} (h0 : Bg w A0 n0 c0 B0 m0 d0 ds0 fs0) (hn0 : n0 ≤ 8) (hm0 : m0 ≤ 8) :
    Calls Try.prog 9 #[.agg #[.bool s0, .slice A0 n0 c0, .slice B0 m0 d0]] w fun e w' => e = .returned (.bool true) ∧ Below w.heap.size w w' := by
  have H0 := Lib.hid h0; clear h0
  go_enter Try.func9, Try.ntmps9
  go_upto_region 1 with (fail)
  obtain ⟨X0, hX0⟩ : ∃ X : Array Value, X = #[.bool s0, .slice A0 n0 c0, .slice B0 m0 d0] := ⟨_, rfl⟩
  have hW : Below w.heap.size w (w.alloc (.cells X0 44)) := (al w _)
  have t0 : Blk (w.alloc (.cells X0 44)) (w.heap.size) 44 X0 := by
    have := Blk.new w 44 X0
    have := this
    simpa using this
  rw [hX0] at hW t0
  clear hX0
  generalize w.alloc (.cells #[.bool s0, .slice A0 n0 c0, .slice B0 m0 d0] 44) = w0 at hW t0 ⊢
  clear X0
  replace H0 := Lib.hid (H0.out.new hW)
  have HW := Lib.hid hW; clear hW
  have T0 : Hid (TB w0 (w.heap.size) 44 (.bool s0) (.slice A0 n0 c0) (.slice B0 m0 d0)) := Lib.hid t0
  clear t0
  have q00 := T0.out.c0; have q01 := T0.out.c1; have q02 := T0.out.c2
  go_wp2_with fail
  refine (gr_no hn0 hm0).mono ?_
  rintro e w1 ⟨rfl, hb⟩
  replace H0 := Lib.hid (H0.out.new hb)
  replace T0 := Lib.hid (T0.out.new hb)
  replace HW := Lib.hid (bthen HW.out hb HW.out.size)
  clear hb q00 q01 q02
  have q00 := T0.out.c0; have q01 := T0.out.c1; have q02 := T0.out.c2
  go_upto_region 3 with (fail)
  clear q00 q01 q02
  obtain ⟨x, e0⟩ : ∃ x, x = qv s0 (valB 4294967296 ds0) (valB 4294967296 fs0) := ⟨_, rfl⟩
  have C0 := Lib.hid (show ∀ W, Below w1.heap.size w1 W → ∀ v, v = .agg #[.bool s0, .slice A0 n0 c0, .slice B0 m0 d0] → Calls Try.prog 20 #[v] W (RV W (Rw 8 x)) from fun W hb v hv => by rw [e0]; exact rats_v (H0.out.new hb) hn0 hm0 v hv)
  clear H0 e0 hn0 hm0
  refine wp_region_joins (kss := [[], [(0, 9)], []]) [(1, .pointer (some ⟨w.heap.size, 0, none⟩))] [fun v _ => v = .agg #[.bool s0, .slice A0 n0 c0, .slice B0 m0 d0], Rw 8 x, Zb w1.heap.size] 3 (by kernel_rfl) ⟨rfl, trivial⟩ [false, false, true] ?_ ?_ ?_
  · exact ⟨fun _ _ _ h _ => h, fun _ _ _ h hb => Rw.new h hb, fun _ _ _ h hb => Zb.new h hb, trivial⟩
  · refine ⟨?_, ?_, ?_, trivial⟩
    · exact fun a w hb he _ => ob_plain rfl (load_big rfl he.1 (T0.out.new hb))
    · exact fun a w hb _ hd => ob_plain rfl (gives_call1 _ _ _ rfl call_rats (C0.out w hb _ hd.1))
    · exact fun a w hb _ _ => ⟨by simp [Region.wanted], alloc_rat rfl hb⟩
  intro vs w5 hb hR
  have r0 : Rw 8 x (vs 1) w5 := hR 1 (by omega)
  obtain ⟨g0, k0, z0⟩ : Zb w1.heap.size (vs 2) w5 := hR 2 (by omega)
  clear hR
  simp only [putsL, Nat.zero_add, Nat.reduceAdd, List.take_succ_cons, List.take_zero, Act.put, List.setIfInBounds_toArray, List.set_cons_zero, List.set_cons_succ]
  rw [k0]
  generalize vs 1 = u0 at *
  clear k0
  show wpOps _ _ _ [3] _ _
  refine wpOps_next rfl rfl (store_rat rfl rfl rfl rfl z0 r0 ?_)
  intro w6 x0 K0
  show Exit.then _ _ _ _ _
  have hb0 := K0.below z0.1 hb
  replace HW := Lib.hid (bthen HW.out hb0 HW.out.size)
  have BXx := Lib.hid x0
  have PX := Lib.hid r0.parts
  clear x0 hb0 r0 z0 K0 C0 T0 hb
  go_upto_region 4 with (fail)
  refine wp_region_joins (kss := [[], [(0, 12)], [(1, 13)], [(2, 14)], [(3, 11)], [(3, 11)], []]) [(3, .pointer (some ⟨g0, 0, none⟩))] [Rw 8 (x), fun v _ => v = .string (txt (x)), Dv 1201 (x), Dv 1201 (x), Rv 1201 (x), fun v _ => v = .int .i64 (0), Zb w6.heap.size] 7 (by kernel_rfl) ⟨rfl, trivial⟩ [false, false, false, false, false, false, true] ?_ ?_ ?_
  · exact ⟨fun _ _ _ h hb => Rw.new h hb, fun _ _ _ h _ => h, fun _ _ _ h hb => Dv.new h hb, fun _ _ _ h hb => Dv.new h hb, fun _ _ _ h hb => Rv.new h hb, fun _ _ _ h _ => h, fun _ _ _ h hb => Zb.new h hb, trivial⟩
  · refine ⟨?_, ?_, ?_, ?_, ?_, ?_, ?_, trivial⟩
    · exact fun _ _ hb he hd => ob_plain rfl (load_bx rfl he.1 (Bx.new BXx.out hb))
    · exact fun _ _ hb he hd => ob_plain rfl (gives_call1 _ _ _ rfl call_text (text_v hd.1 (by omega)))
    · exact fun _ _ hb he hd => ob_plain rfl (gives_call1 _ _ _ rfl call_parse (parse_v PX.out.1 PX.out.2.1 PX.out.2.2 (by omega) _ hd.1 _))
    · exact fun _ _ hb he hd => ob_plain rfl (gives_move _ rfl ⟨hd.1, Below.refl _ _⟩)
    · exact fun _ _ hb he hd => ob_plain rfl (ext_q rfl hd.1)
    · exact fun _ _ hb he hd => ob_plain rfl (ext_e rfl hd.1)
    · exact fun _ _ hb he hd => ⟨by simp [Region.wanted], alloc_rat rfl hb⟩
  intro vs w7 hb hR
  have rv : Rv 1201 x (vs 4) w7 := hR 4 (by decide)
  have e5 : vs 5 = .int .i64 0 := hR 5 (by decide)
  obtain ⟨g4, k4, z4⟩ : Zb w6.heap.size (vs 6) w7 := hR 6 (by decide)
  clear hR
  simp only [putsL, Nat.zero_add, Nat.reduceAdd, List.take_succ_cons, List.take_zero, Act.put, List.setIfInBounds_toArray, List.set_cons_zero, List.set_cons_succ]
  rw [e5, k4]
  clear e5 k4
  generalize vs 4 = u4 at *
  show wpOps _ _ _ [7, 8] _ _
  refine wpOps_next rfl rfl (store_rv rfl rfl rfl rfl z4 rv ?_)
  rintro w8 ⟨y1, y2, y3, rfl, hT⟩ rv1 hG hB
  have hb5 := hB _ _ z4.1 hb
  refine wpOps_next rfl rfl (wp_assign 5 (.tmp 16) rfl rfl (.int .i64 0) rfl ?_)
  simp only [Act.put, List.setIfInBounds_toArray, List.set_cons_zero, List.set_cons_succ]
  show Exit.then _ _ _ _ _
  replace HW := Lib.hid (bthen HW.out hb5 HW.out.size)
  replace BXx := Lib.hid (Bx.new BXx.out hb5)
  have B4 := Lib.hid (bn_of rv1 hT)
  clear hT hB hb hb5 z4 rv1 hG rv
  go_upto_region 5 with (fail)
  refine wp_region_each (kss := [[], [(0, 17)], [(1, 18)], [(2, 19)], [(2, 19)], [(2, 19), (4, 21)], [(2, 19), (3, 20), (5, 22)], [(2, 19), (6, 23)], [(7, 24)], [(8, 25)], [(8, 25), (9, 26)], [(10, 27)]]) [(5, .int .i64 (0)), (4, .pointer (some ⟨g4, 0, none⟩)), (3, .pointer (some ⟨g0, 0, none⟩))] [fun v _ => v = .int .i64 (0), fun v _ => v = .bool (true), fun v _ => v = .bool (true), Rv 1201 (x), Rw 8 (x), Rv 8 (x), fun v _ => v = .bool (true), fun v _ => v = .bool (true), fun v _ => v = .bool (true), fun v _ => v = .bool (true), fun v _ => v = .bool (true), fun v _ => v = .bool (true)] (by kernel_rfl) (by kernel_rfl) ⟨rfl, rfl, rfl, trivial⟩ ?_ ?_ ?_
  · exact ⟨fun _ _ _ h _ => h, fun _ _ _ h _ => h, fun _ _ _ h _ => h, fun _ _ _ h hb => Rv.new h hb, fun _ _ _ h hb => Rw.new h hb, fun _ _ _ h hb => Rv.new h hb, fun _ _ _ h _ => h, fun _ _ _ h _ => h, fun _ _ _ h _ => h, fun _ _ _ h _ => h, fun _ _ _ h _ => h, fun _ _ _ h _ => h, trivial⟩
  · refine ⟨?_, ?_, ?_, ?_, ?_, ?_, ?_, ?_, ?_, ?_, ?_, ?_, trivial⟩
    · exact fun _ _ hb he hd => ob_plain rfl (gives_move _ rfl ⟨he.1, Below.refl _ _⟩)
    · exact fun _ _ hb he hd => ob_plain rfl (gives_eq_int (0) (0) .i64 _ _ _ _ rfl hd.1 rfl ⟨congrArg Value.bool (by decide), Below.refl _ _⟩)
    · exact fun _ _ hb he hd => ob_plain rfl (gives_move _ rfl ⟨hd.1, Below.refl _ _⟩)
    · exact fun _ _ hb he hd => ob_on 19 rfl (by kernel_rfl) hd.1 (load_bn rfl he.2.1 (Bn.new B4.out hb))
    · exact fun _ _ hb he hd => ob_on 19 rfl (by kernel_rfl) hd.1 (load_bx rfl he.2.2.1 (Bx.new BXx.out hb))
    · exact fun _ _ hb he hd => ob_on 19 rfl (by kernel_rfl) hd.1 (gives_call1 _ _ _ rfl call_norm (norm_v hd.2.1 (by omega)))
    · exact fun _ _ hb he hd => ob_on 19 rfl (by kernel_rfl) hd.1 (gives_call2 _ _ _ _ rfl call_same (same_y hd.2.1 hd.2.2.1 (rfl)))
    · exact fun _ _ hb he hd => ob_plain rfl (gives_pick true _ _ _ rfl hd.1 ⟨hd.2.1, Below.refl _ _⟩)
    · exact fun _ _ hb he hd => ob_plain rfl (gives_move _ rfl ⟨hd.1, Below.refl _ _⟩)
    · exact fun _ _ hb he hd => ob_on 25 rfl (by kernel_rfl) hd.1 (gives_call0 _ _ rfl call_awake (awake_v _))
    · exact fun _ _ hb he hd => ob_plain rfl (gives_pick true _ _ _ rfl hd.1 ⟨hd.2.1, Below.refl _ _⟩)
    · exact fun _ _ hb he hd => ob_plain rfl (gives_assign _ rfl ⟨hd.1, Below.refl _ _⟩)
  intro vs w12 hb hR
  have e4 : vs 11 = .bool true := hR 11 (by decide)
  clear hR
  simp only [putsL, Nat.zero_add, Nat.reduceAdd, List.take_succ_cons, List.take_zero, Act.put, List.setIfInBounds_toArray, List.set_cons_zero, List.set_cons_succ]
  rw [e4]
  clear e4
  replace HW := Lib.hid (bthen HW.out hb HW.out.size)
  go_wp2_with fail
  go_ret
  exact ⟨rfl, HW.out⟩
set_option maxRecDepth 100000 in
set_option maxHeartbeats 8000000 in
theorem back_far0 {w : World} {s0 : Bool} {A0 B0 : Option Addr} {n0 c0 m0 d0 : Nat} {ds0 fs0 : List Nat} (h0 : Bg w A0 n0 c0 B0 m0 d0 ds0 fs0) (hf : 8 < n0 ∨ 8 < m0) :
    Calls Try.prog 9 #[.agg #[.bool s0, .slice A0 n0 c0, .slice B0 m0 d0]] w fun e w' => e = .returned (.bool true) ∧ Below w.heap.size w w' := by
  have l1 := h0.1.1.le; have l2 := h0.2.1.le
  have HF := Lib.hid hf; have L1 := Lib.hid l1; have L2 := Lib.hid l2; clear hf l1 l2
  have H0 := Lib.hid h0; clear h0
  go_enter Try.func9, Try.ntmps9
  go_upto_region 1 with (fail)
  obtain ⟨X0, hX0⟩ : ∃ X : Array Value, X = #[.bool s0, .slice A0 n0 c0, .slice B0 m0 d0] := ⟨_, rfl⟩
  have hW : Below w.heap.size w (w.alloc (.cells X0 44)) := (al w _)
  have t0 : Blk (w.alloc (.cells X0 44)) (w.heap.size) 44 X0 := by
    have := Blk.new w 44 X0
    have := this
    simpa using this
  rw [hX0] at hW t0
  clear hX0
  generalize w.alloc (.cells #[.bool s0, .slice A0 n0 c0, .slice B0 m0 d0] 44) = w0 at hW t0 ⊢
  clear X0
  replace H0 := Lib.hid (H0.out.new hW)
  have HW := Lib.hid hW; clear hW
  have T0 : Hid (TB w0 (w.heap.size) 44 (.bool s0) (.slice A0 n0 c0) (.slice B0 m0 d0)) := Lib.hid t0
  clear t0
  have q00 := T0.out.c0; have q01 := T0.out.c1; have q02 := T0.out.c2
  go_wp2_with fail
  refine (gr_yes L1.out L2.out HF.out).mono ?_
  rintro e w1 ⟨rfl, hb⟩
  replace H0 := Lib.hid (H0.out.new hb)
  replace T0 := Lib.hid (T0.out.new hb)
  replace HW := Lib.hid (bthen HW.out hb HW.out.size)
  clear hb q00 q01 q02
  have q00 := T0.out.c0; have q01 := T0.out.c1; have q02 := T0.out.c2
  go_wp2_with fail
  refine (qawake_any _).mono ?_
  rintro e v1 ⟨rfl, hb⟩
  replace HW := Lib.hid (bthen HW.out hb HW.out.size); clear hb
  go_wp2_with fail
  go_ret
  exact ⟨rfl, HW.out⟩
theorem ratBack_walk {s0 : Bool} {A0 B0 : Option Addr} {n0 c0 m0 d0 : Nat} {ds0 fs0 : List Nat} (w : World) (h0 : Bg w A0 n0 c0 B0 m0 d0 ds0 fs0) :
    Calls Try.prog 9 #[.agg #[.bool s0, .slice A0 n0 c0, .slice B0 m0 d0]] w fun e w' => e = .returned (.bool true) ∧ Below w.heap.size w w' := by
  by_cases f0 : 8 < n0 ∨ 8 < m0
  · exact back_far0 h0  f0
  exact back_near h0 (by omega) (by omega)
end Go.Proofs.Ytifnbpkcnkfanaa
