/-
Contracts of simplex.nonnegative and law28.least. Regions printed by gen/sx.py.
Contract of simplex.dot. Regions printed by gen/sx.py.
Contracts of simplex.feasible and bounds. Regions printed by gen/sc.py.
Plain: what certificates of linear programs say of each other.
Operations on problems and solutions: boxes, fields, makes, builds.
-/
import Derived.Test.YtamcibmjpmibdaaK10
import Derived.Test.YtamcibmjpmibdaaK11
namespace Go.Proofs.Ytamcibmjpmibdaa
open Go.RowKit
set_option linter.unusedVariables false
set_option linter.unusedSimpArgs false

theorem sign_lt {x : Rat} : decide (x.num.sign < 0) = decide (x < 0) := by
  rcases sign_cases x with ⟨h1, h2⟩ | ⟨h1, h2⟩ | ⟨h1, h2⟩ <;> rw [h2]
  · rw [decide_eq_true (show x < 0 by grind)]; rfl
  · rw [decide_eq_false (show ¬ x < 0 by grind)]; rfl
  · rw [decide_eq_false (show ¬ x < 0 by grind)]; rfl
/-- Whether no element is negative. -/
def NnRet (n : Nat) (f : Nat → Rat) (w : World) (e : Ending) (w' : World) : Prop := ∃ t : Bool, e = .returned (.bool t) ∧ Below w.heap.size w w' ∧ (t = true ↔ ∀ i, i < n → 0 ≤ f i)
set_option maxRecDepth 100000 in
set_option maxHeartbeats 8000000 in
theorem least_any (n c b : Nat) (A : Option Addr) (f : Nat → Rat) (w : World) (hA : Rs w w.heap.size A n (PW w b f)) (hn1 : n ≤ 1000000) :
    Calls Try.prog 76 #[.slice A n c] w (NnRet n f w) := by
  have HA := Lib.hid hA; clear hA
  go_enter Try.func76, Try.ntmps76
  go_wp2_with fail
  go_loopg [3] n (fun q iv wr => ∃ k : Nat, iv = .int .i64 k ∧ k + q = n ∧ Hid ((∀ i, i < k → 0 ≤ f i) ∧ Below w.heap.size w wr))
  case atStart => exact ⟨0, rfl, by omega, Lib.hid ⟨fun i hi => absurd hi (by omega), Below.refl _ _⟩⟩
  case round =>
    obtain ⟨k, rfl, hkn, HI⟩ := hrel
    have HP := Lib.hid HI.out.1
    have HB := Lib.hid HI.out.2
    clear HI
    by_cases hk : k < n
    · obtain ⟨ad, -, -, -, -, -, -, -, rfl, -⟩ := HA.out.at_ hk
      have i1 : ((k : Int) < (n : Int)) := by omega
      by_cases hp : 0 ≤ f k
      · have hs : decide ((f k).num.sign < 0) = false := sign_lt.trans (decide_eq_false (by grind))
        go_upto_region 4 with (fail)
-- %L4a
        refine wp_region_seq (kss := [[], [], [(0, 10), (1, 11)], [(2, 12)], [(3, 13)], [(4, 14)]]) [(0, .slice (some ad) n c), (3, .int .i64 ((k : Int)))] [fun zz _ => zz = .slice (some ad) n c, fun zz _ => zz = .int .i64 ((k : Int)), fun zz _ => zz = .pointer (some (Addr.add ad (k * 3))), Rw (b) (f k), fun zz _ => zz = .int .i64 ((f k).num.sign), fun zz _ => zz = .bool false] (by kernel_rfl) ⟨rfl, rfl, trivial⟩ ?_ ?_ ?_
        · exact ⟨fun _ _ _ h _ => h, fun _ _ _ h _ => h, fun _ _ _ h _ => h, fun _ _ _ h hb => h.new hb, fun _ _ _ h _ => h, fun _ _ _ h _ => h, trivial⟩
        · refine ⟨?_, ?_, ?_, ?_, ?_, ?_, trivial⟩
          · exact fun aa ww hb he hd => ob_plain rfl (gives_move _ rfl ⟨he.1, Below.refl _ _⟩)
          · exact fun aa ww hb he hd => ob_plain rfl (gives_move _ rfl ⟨he.2.1, Below.refl _ _⟩)
          · exact fun aa ww hb he hd => ob_plain rfl (idx_rs (by omega) rfl hd.1 hd.2.1)
          · exact fun aa ww hb he hd => ob_plain rfl (load_rw rfl hd.1 (Rs.newW HA.out (bthen HB.out hb HB.out.size)) (by omega))
          · exact fun aa ww hb he hd => ob_plain rfl (gives_call1 _ _ _ rfl (by kernel_rfl) (sign_v (hd.1)))
          · exact fun aa ww hb he hd => ob_plain rfl (gives_lt_int ((f k).num.sign) 0 .i64 _ _ _ _ rfl hd.1 rfl ⟨congrArg Value.bool (hs), Below.refl _ _⟩)
        intro vs w3 hb hR
        have e15 : vs 5 = .bool false := hR 5 (by decide)
        clear hR
        simp only [putsL, Nat.zero_add, Nat.reduceAdd, List.take_succ_cons, List.take_zero, Act.put, List.setIfInBounds_toArray, List.set_cons_zero, List.set_cons_succ]
        rw [e15]
        clear e15
-- %end L4a
        go_wp2_with fail
        go_roundg (gk - 1)
        case measure => omega
        case rel => exact ⟨k + 1, by go_num, by omega, Lib.hid ⟨fun i hi => by
          by_cases hik : i = k
          · rw [hik]; exact hp
          · exact HP.out i (by omega), bthen HB.out hb HB.out.size⟩⟩
      · have hs : decide ((f k).num.sign < 0) = true := sign_lt.trans (decide_eq_true (by grind))
        go_upto_region 4 with (fail)
-- %L4b
        refine wp_region_seq (kss := [[], [], [(0, 10), (1, 11)], [(2, 12)], [(3, 13)], [(4, 14)]]) [(0, .slice (some ad) n c), (3, .int .i64 ((k : Int)))] [fun zz _ => zz = .slice (some ad) n c, fun zz _ => zz = .int .i64 ((k : Int)), fun zz _ => zz = .pointer (some (Addr.add ad (k * 3))), Rw (b) (f k), fun zz _ => zz = .int .i64 ((f k).num.sign), fun zz _ => zz = .bool true] (by kernel_rfl) ⟨rfl, rfl, trivial⟩ ?_ ?_ ?_
        · exact ⟨fun _ _ _ h _ => h, fun _ _ _ h _ => h, fun _ _ _ h _ => h, fun _ _ _ h hb => h.new hb, fun _ _ _ h _ => h, fun _ _ _ h _ => h, trivial⟩
        · refine ⟨?_, ?_, ?_, ?_, ?_, ?_, trivial⟩
          · exact fun aa ww hb he hd => ob_plain rfl (gives_move _ rfl ⟨he.1, Below.refl _ _⟩)
          · exact fun aa ww hb he hd => ob_plain rfl (gives_move _ rfl ⟨he.2.1, Below.refl _ _⟩)
          · exact fun aa ww hb he hd => ob_plain rfl (idx_rs (by omega) rfl hd.1 hd.2.1)
          · exact fun aa ww hb he hd => ob_plain rfl (load_rw rfl hd.1 (Rs.newW HA.out (bthen HB.out hb HB.out.size)) (by omega))
          · exact fun aa ww hb he hd => ob_plain rfl (gives_call1 _ _ _ rfl (by kernel_rfl) (sign_v (hd.1)))
          · exact fun aa ww hb he hd => ob_plain rfl (gives_lt_int ((f k).num.sign) 0 .i64 _ _ _ _ rfl hd.1 rfl ⟨congrArg Value.bool (hs), Below.refl _ _⟩)
        intro vs w3 hb hR
        have e15 : vs 5 = .bool true := hR 5 (by decide)
        clear hR
        simp only [putsL, Nat.zero_add, Nat.reduceAdd, List.take_succ_cons, List.take_zero, Act.put, List.setIfInBounds_toArray, List.set_cons_zero, List.set_cons_succ]
        rw [e15]
        clear e15
-- %end L4b
        go_wp2_with fail
        go_ret
        exact ⟨false, rfl, bthen HB.out hb HB.out.size, by simp; exact ⟨k, hk, by grind⟩⟩
    · obtain rfl : n = k := by omega
      go_wp2_with fail
      go_ret
      exact ⟨true, rfl, HB.out, by simp; exact HP.out⟩
set_option maxRecDepth 100000 in
set_option maxHeartbeats 8000000 in
theorem nonneg_any (n c b : Nat) (A : Option Addr) (f : Nat → Rat) (w : World) (hA : Rs w w.heap.size A n (PW w b f)) (hn1 : n ≤ 1000000) :
    Calls Try.prog 78 #[.slice A n c] w (NnRet n f w) := by
  have HA := Lib.hid hA; clear hA
  go_enter Try.func78, Try.ntmps78
  go_wp2_with fail
  go_loopg [7] n (fun q iv wr => ∃ k : Nat, iv = .int .i64 k ∧ k + q = n ∧ Hid ((∀ i, i < k → 0 ≤ f i) ∧ Below w.heap.size w wr))
  case atStart => exact ⟨0, rfl, by omega, Lib.hid ⟨fun i hi => absurd hi (by omega), Below.refl _ _⟩⟩
  case round =>
    obtain ⟨k, rfl, hkn, HI⟩ := hrel
    have HP := Lib.hid HI.out.1
    have HB := Lib.hid HI.out.2
    clear HI
    by_cases hk : k < n
    · obtain ⟨ad, -, -, -, -, -, -, -, rfl, -⟩ := HA.out.at_ hk
      have i1 : ((k : Int) < (n : Int)) := by omega
      go_upto_region 3 with (fail)
-- %N3
      refine wp_region_joins (kss := [[], [(0, 9)], []]) [(5, .slice (some ad) n c), (7, .int .i64 ((k : Int)))] [fun zz _ => zz = .pointer (some (Addr.add ad (k * 3))), Rw (b) (f k), Zb wr.heap.size] 3 (by kernel_rfl) ⟨rfl, rfl, trivial⟩ [false, false, true] ?_ ?_ ?_
      · exact ⟨fun _ _ _ h _ => h, fun _ _ _ h hb => h.new hb, fun _ _ _ h hb => Zb.new h hb, trivial⟩
      · refine ⟨?_, ?_, ?_, trivial⟩
        · exact fun aa ww hb he hd => ob_plain rfl (idx_rs (by omega) rfl he.1 he.2.1)
        · exact fun aa ww hb he hd => ob_plain rfl (load_rw rfl hd.1 (Rs.newW HA.out (bthen HB.out hb HB.out.size)) (by omega))
        · exact fun aa ww hb he hd => ⟨by simp [Region.wanted], alloc_rat rfl hb⟩
      intro vs w2 hb hR
      have r10 : Rw (b) (f k) (vs 1) w2 := hR 1 (by decide)
      have r4 : Zb wr.heap.size (vs 2) w2 := hR 2 (by decide)
      clear hR
      simp only [putsL, Nat.zero_add, Nat.reduceAdd, List.take_succ_cons, List.take_zero, Act.put, List.setIfInBounds_toArray, List.set_cons_zero, List.set_cons_succ]
-- %end N3
      obtain ⟨g4, k4, z4⟩ := r4
      rw [k4]
      clear k4
      show wpOps _ _ _ [3] _ _
      refine wpOps_next rfl rfl (store_row (v := vs 1) (g := g4) (j := 0) (n := 1) (b := b) (x := f k) rfl rfl rfl rfl z4.rb (by omega) r10 ?_)
      intro wa kp hg hsz hR
      have HX := Lib.hid (RB.bx (hR (fun _ v => Rw b (f k) v wa) (fun l u hl hne _ => absurd hl (by omega)) (r10.keepN kp)))
      have hl : wr.heap.size ≤ g4 := z4.1
      have hlow : w.heap.size ≤ wr.heap.size := HB.out.size
      have HBa := Lib.hid (show Below w.heap.size w wa from (bthen HB.out hb HB.out.size).grown hg (bthen HB.out hb HB.out.size).size (fun x hx => by cases hx; omega))
      clear hb kp hg hsz hR r10 z4 hl hlow HB
      show Exit.then _ _ _ _ _
      by_cases hp : 0 ≤ f k
      · have hs : decide ((f k).num.sign < 0) = false := sign_lt.trans (decide_eq_false (by grind))
        go_upto_region 4 with (fail)
-- %N4a
        refine wp_region_seq (kss := [[], [(0, 11)], [(1, 12)]]) [(4, .pointer (some ⟨g4, 0, none⟩))] [Rw (b) (f k), fun zz _ => zz = .int .i64 ((f k).num.sign), fun zz _ => zz = .bool false] (by kernel_rfl) ⟨rfl, trivial⟩ ?_ ?_ ?_
        · exact ⟨fun _ _ _ h hb => h.new hb, fun _ _ _ h _ => h, fun _ _ _ h _ => h, trivial⟩
        · refine ⟨?_, ?_, ?_, trivial⟩
          · exact fun aa ww hb he hd => ob_plain rfl (load_bx rfl he.1 (Bx.new HX.out hb))
          · exact fun aa ww hb he hd => ob_plain rfl (gives_call1 _ _ _ rfl (by kernel_rfl) (sign_v (hd.1)))
          · exact fun aa ww hb he hd => ob_plain rfl (gives_lt_int ((f k).num.sign) 0 .i64 _ _ _ _ rfl hd.1 rfl ⟨congrArg Value.bool (hs), Below.refl _ _⟩)
        intro vs w3 hb hR
        have e13 : vs 2 = .bool false := hR 2 (by decide)
        clear hR
        simp only [putsL, Nat.zero_add, Nat.reduceAdd, List.take_succ_cons, List.take_zero, Act.put, List.setIfInBounds_toArray, List.set_cons_zero, List.set_cons_succ]
        rw [e13]
        clear e13
-- %end N4a
        go_wp2_with fail
        go_roundg (gk - 1)
        case measure => omega
        case rel => exact ⟨k + 1, by go_num, by omega, Lib.hid ⟨fun i hi => by
          by_cases hik : i = k
          · rw [hik]; exact hp
          · exact HP.out i (by omega), bthen HBa.out hb HBa.out.size⟩⟩
      · have hs : decide ((f k).num.sign < 0) = true := sign_lt.trans (decide_eq_true (by grind))
        go_upto_region 4 with (fail)
-- %N4b
        refine wp_region_seq (kss := [[], [(0, 11)], [(1, 12)]]) [(4, .pointer (some ⟨g4, 0, none⟩))] [Rw (b) (f k), fun zz _ => zz = .int .i64 ((f k).num.sign), fun zz _ => zz = .bool true] (by kernel_rfl) ⟨rfl, trivial⟩ ?_ ?_ ?_
        · exact ⟨fun _ _ _ h hb => h.new hb, fun _ _ _ h _ => h, fun _ _ _ h _ => h, trivial⟩
        · refine ⟨?_, ?_, ?_, trivial⟩
          · exact fun aa ww hb he hd => ob_plain rfl (load_bx rfl he.1 (Bx.new HX.out hb))
          · exact fun aa ww hb he hd => ob_plain rfl (gives_call1 _ _ _ rfl (by kernel_rfl) (sign_v (hd.1)))
          · exact fun aa ww hb he hd => ob_plain rfl (gives_lt_int ((f k).num.sign) 0 .i64 _ _ _ _ rfl hd.1 rfl ⟨congrArg Value.bool (hs), Below.refl _ _⟩)
        intro vs w3 hb hR
        have e13 : vs 2 = .bool true := hR 2 (by decide)
        clear hR
        simp only [putsL, Nat.zero_add, Nat.reduceAdd, List.take_succ_cons, List.take_zero, Act.put, List.setIfInBounds_toArray, List.set_cons_zero, List.set_cons_succ]
        rw [e13]
        clear e13
-- %end N4b
        go_wp2_with fail
        go_ret
        exact ⟨false, rfl, bthen HBa.out hb HBa.out.size, by simp; exact ⟨k, hk, by grind⟩⟩
    · obtain rfl : n = k := by omega
      go_wp2_with fail
      go_ret
      exact ⟨true, rfl, HB.out, by simp; exact HP.out⟩
end Go.Proofs.Ytamcibmjpmibdaa
namespace Go.Proofs.Ytamcibmjpmibdaa
open Go.RowKit
set_option linter.unusedVariables false
set_option linter.unusedSimpArgs false

set_option maxRecDepth 100000 in
set_option maxHeartbeats 8000000 in
theorem dot_any (n n' ca cb ba bb : Nat) (AA AB : Option Addr) (f g : Nat → Rat) (w : World) (hA : Rs w w.heap.size AA n (PW w ba f)) (hB : Rs w w.heap.size AB n' (PW w bb g)) (hn : n ≤ n') (hn1 : n ≤ 1000) (hba : ba ≤ 1400) (hbb : bb ≤ 1400) (hcap : n * (ba + bb + 1) ≤ 2000) :
    Calls Try.prog 47 #[.slice AA n ca, .slice AB n' cb] w (RV w (Rw (2 + n * (ba + bb + 1)) (sm (fun i => f i * g i) n))) := by
  have HA := Lib.hid hA; have HBB := Lib.hid hB; clear hA hB
  obtain ⟨c, hc⟩ : ∃ c, c = ba + bb + 1 := ⟨_, rfl⟩
  rw [← hc] at hcap ⊢
  have HC := Lib.hid hc; clear hc
  go_enter Try.func47, Try.ntmps47
  go_upto_region 1 with (fail)
  have HB0 := Lib.hid (al w (.cells #[.bool false, .slice none 0 0, .slice none 0 0] 41))
  have HZ0 := Lib.hid (Zx.rb (show Zx w.heap.size w.heap.size (w.alloc (.cells #[.bool false, .slice none 0 0, .slice none 0 0] 41)) from ⟨Nat.le_refl _, TB.made w _ _ _ _⟩))
  obtain ⟨g4, hg4⟩ : ∃ g4, g4 = w.heap.size := ⟨_, rfl⟩
  have HG4 := Lib.hid hg4
  rw [← hg4] at HZ0 ⊢
  clear hg4
  generalize w.alloc (.cells #[.bool false, .slice none 0 0, .slice none 0 0] 41) = w0 at *
-- %D1
  refine wp_region_joins (kss := [[], []]) [] [Rv (2) (((0 : Int) : Rat)), Zb w0.heap.size] 2 (by kernel_rfl) trivial [false, true] ?_ ?_ ?_
  · exact ⟨fun _ _ _ h hb => h.new hb, fun _ _ _ h hb => Zb.new h hb, trivial⟩
  · refine ⟨?_, ?_, trivial⟩
    · exact fun aa ww hb he hd => ob_plain rfl (gives_call1 _ _ _ rfl (by kernel_rfl) (int_w (0) (by omega) (by omega) _ rfl _))
    · exact fun aa ww hb he hd => ⟨by simp [Region.wanted], alloc_rat rfl hb⟩
  intro vs w2 hb hR
  have r7 : Rv (2) (((0 : Int) : Rat)) (vs 0) w2 := hR 0 (by decide)
  have r5 : Zb w0.heap.size (vs 1) w2 := hR 1 (by decide)
  clear hR
  simp only [putsL, Nat.zero_add, Nat.reduceAdd, List.take_succ_cons, List.take_zero, Act.put, List.setIfInBounds_toArray, List.set_cons_zero, List.set_cons_succ]
-- %end D1
  obtain ⟨g5, k5, z5⟩ := r5
  rw [k5]
  clear k5
  show wpOps _ _ _ [2] _ _
  refine wpOps_next rfl rfl (store_row (v := vs 0) (g := g5) (j := 0) (n := 1) (b := 2) (x := ((0 : Int) : Rat)) rfl rfl rfl rfl z5.rb (by omega) r7.rw ?_)
  intro w3 kp hg hsz hR5
  have HX := Lib.hid (RB.bx (hR5 (fun _ v => Rw 2 (sm (fun i => f i * g i) 0) v w3) (fun l u hl hne _ => absurd hl (by omega)) (by
    have h := r7.rw.keepN kp
    rw [show ((0 : Int) : Rat) = sm (fun i => f i * g i) 0 from by simp [sm]] at h
    exact h)))
  have h45 : g4 < g5 := by have := HZ0.out.lt; have := z5.1; omega
  have HW := Lib.hid (show w.heap.size ≤ g4 from by rw [HG4.out]; exact Nat.le_refl _)
  have HB3 := Lib.hid (show Below w.heap.size w w3 from (bthen HB0.out hb HB0.out.size).grown hg (bthen HB0.out hb HB0.out.size).size (fun x hx => by cases hx; have := HW.out; omega))
  have HZ := Lib.hid ((HZ0.out.below hb (Q := fun _ _ => True) (fun _ _ _ _ => trivial)).grown hg (show g4 ≠ g5 by omega) (Q := fun _ _ => True) (fun _ _ _ _ => trivial))
  clear kp hg hsz hR5 hb r7 z5 HB0 HZ0
  show Exit.then _ _ _ _ _
  go_wp2_with fail
  go_loopg [10] n (fun q iv wr => ∃ k : Nat, iv = .int .i64 k ∧ k + q = n ∧ Hid (Bx (2 + k * c) (sm (fun i => f i * g i) k) g5 wr ∧ RB wr g4 1 (fun _ _ => True) ∧ Below w.heap.size w wr))
  case atStart => exact ⟨0, rfl, by omega, Lib.hid ⟨by rw [Nat.zero_mul]; exact HX.out, HZ.out, HB3.out⟩⟩
  case round =>
    obtain ⟨k, rfl, hkn, HI⟩ := hrel
    clear HX HZ HB3
    obtain ⟨bk, hbk⟩ : ∃ bk, bk = 2 + k * c := ⟨_, rfl⟩
    have HX := Lib.hid HI.out.1
    rw [← hbk] at HX
    have HZ := Lib.hid HI.out.2.1
    have HB := Lib.hid HI.out.2.2
    clear HI
    have hkc : k * c ≤ n * c := Nat.mul_le_mul_right c (by omega)
    have hbk2 : bk ≤ 2002 := by omega
    have HBk := Lib.hid hbk; clear hbk hkc
    by_cases hk : k < n
    · obtain ⟨adA, -, -, -, -, -, -, -, rfl, -⟩ := HA.out.at_ hk
      obtain ⟨adB, -, -, -, -, -, -, -, rfl, -⟩ := HBB.out.at_ (show k < n' by omega)
      have i1 : ((k : Int) < (n : Int)) := by omega
      go_upto_region 5 with (fail)
-- %D5
      refine wp_region_join (kss := [[], [], [], [(1, 14), (2, 15)], [(3, 16)], [], [], [(5, 18), (6, 19)], [(7, 20)], [(4, 17), (8, 21)], [(0, 13), (9, 22)]]) [(5, .pointer (some ⟨g5, 0, none⟩)), (0, .slice (some adA) n ca), (6, .int .i64 ((k : Int))), (1, .slice (some adB) (n') cb)] [Rw (bk) (sm (fun i => f i * g i) k), fun zz _ => zz = .slice (some adA) n ca, fun zz _ => zz = .int .i64 ((k : Int)), fun zz _ => zz = .pointer (some (Addr.add adA (k * 3))), Rw (ba) (f k), fun zz _ => zz = .slice (some adB) (n') cb, fun zz _ => zz = .int .i64 ((k : Int)), fun zz _ => zz = .pointer (some (Addr.add adB (k * 3))), Rw (bb) (g k), Rv (ba + bb) ((f k) * (g k)), Rv (bk + (ba + bb) + 1) ((sm (fun i => f i * g i) k) + ((f k) * (g k)))] 11 [] (by kernel_rfl) (by kernel_rfl) ⟨rfl, rfl, rfl, rfl, trivial⟩ [false, false, false, false, false, false, false, false, false, false, false] ?_ ?_ ?_ ?_
      · exact fun i hi => absurd hi (by simp)
      · exact ⟨fun _ _ _ h hb => h.new hb, fun _ _ _ h _ => h, fun _ _ _ h _ => h, fun _ _ _ h _ => h, fun _ _ _ h hb => h.new hb, fun _ _ _ h _ => h, fun _ _ _ h _ => h, fun _ _ _ h _ => h, fun _ _ _ h hb => h.new hb, fun _ _ _ h hb => h.new hb, fun _ _ _ h hb => h.new hb, trivial⟩
      · refine ⟨?_, ?_, ?_, ?_, ?_, ?_, ?_, ?_, ?_, ?_, ?_, trivial⟩
        · exact fun aa ww hb he hd => ob_plain rfl (load_bx rfl he.1 (Bx.new HX.out hb))
        · exact fun aa ww hb he hd => ob_plain rfl (gives_move _ rfl ⟨he.2.1, Below.refl _ _⟩)
        · exact fun aa ww hb he hd => ob_plain rfl (gives_move _ rfl ⟨he.2.2.1, Below.refl _ _⟩)
        · exact fun aa ww hb he hd => ob_plain rfl (idx_rs (by omega) rfl hd.1 hd.2.1)
        · exact fun aa ww hb he hd => ob_plain rfl (load_rw rfl hd.1 (Rs.newW HA.out (bthen HB.out hb HB.out.size)) (by omega))
        · exact fun aa ww hb he hd => ob_plain rfl (gives_move _ rfl ⟨he.2.2.2.1, Below.refl _ _⟩)
        · exact fun aa ww hb he hd => ob_plain rfl (gives_move _ rfl ⟨he.2.2.1, Below.refl _ _⟩)
        · exact fun aa ww hb he hd => ob_plain rfl (idx_rs (by omega) rfl hd.1 hd.2.1)
        · exact fun aa ww hb he hd => ob_plain rfl (load_rw rfl hd.1 (Rs.newW HBB.out (bthen HB.out hb HB.out.size)) (by omega))
        · exact fun aa ww hb he hd => ob_plain rfl (gives_call2 _ _ _ _ rfl (by kernel_rfl) (mul_v (hd.1) (hd.2.1) (by omega)))
        · exact fun aa ww hb he hd => ob_plain rfl (gives_call2 _ _ _ _ rfl (by kernel_rfl) (add_v (hd.1) (hd.2.1.rw) (by omega)))
      intro vs w4 hb hR _
      have r23 : Rv (bk + (ba + bb) + 1) ((sm (fun i => f i * g i) k) + ((f k) * (g k))) (vs 10) w4 := hR 10 (by decide)
      clear hR
      simp only [putsL, Nat.zero_add, Nat.reduceAdd, List.take_succ_cons, List.take_zero, Act.put, List.setIfInBounds_toArray, List.set_cons_zero, List.set_cons_succ]
      show wpAny _ _ _ _ 1 _ _ _
      refine wpAny_next (i := 11) (by kernel_rfl) rfl rfl (store_row (v := vs 10) (g := g5) (j := 0) (n := 1) (b := bk + (ba + bb) + 1) (x := sm (fun i => f i * g i) k + f k * g k) rfl rfl rfl rfl (HX.out.new hb).rb (by omega) r23.rw ?_)
-- %end D5
      intro wa kp hg hsz hR
      have hbe : bk + (ba + bb) + 1 = 2 + (k + 1) * c := by rw [HBk.out, Nat.succ_mul, HC.out]; omega
      have HXa := Lib.hid (RB.bx (hR (fun _ v => Rw (2 + (k + 1) * c) (sm (fun i => f i * g i) (k + 1)) v wa) (fun l u hl hne _ => absurd hl (by omega)) (by
        have h := r23.rw.keepN kp
        rw [hbe] at h
        exact h)))
      have HZa := Lib.hid ((HZ.out.below hb (Q := fun _ _ => True) (fun _ _ _ _ => trivial)).grown hg (show g4 ≠ g5 by omega) (Q := fun _ _ => True) (fun _ _ _ _ => trivial))
      have HBa := Lib.hid (show Below w.heap.size w wa from (bthen HB.out hb HB.out.size).grown hg (bthen HB.out hb HB.out.size).size (fun x hx => by cases hx; have := HW.out; omega))
      clear hb kp hg hsz hR r23 hbe
      refine wpAny_end (by kernel_rfl) (calm_normal ?_) _
      go_wp2_with fail
      go_roundg (gk - 1)
      case measure => omega
      case rel => exact ⟨k + 1, by go_num, by omega, Lib.hid ⟨HXa.out, HZa.out, HBa.out⟩⟩
    · obtain rfl : n = k := by omega
      go_upto_region 7 with (fail)
-- %D7
      refine wp_region_joins (kss := [[]]) [(5, .pointer (some ⟨g5, 0, none⟩))] [Rw (bk) (sm (fun i => f i * g i) n)] 1 (by kernel_rfl) ⟨rfl, trivial⟩ [false] ?_ ?_ ?_
      · exact ⟨fun _ _ _ h hb => h.new hb, trivial⟩
      · refine ⟨?_, trivial⟩
        · exact fun aa ww hb he hd => ob_plain rfl (load_bx rfl he.1 (Bx.new HX.out hb))
      intro vs w4 hb hR
      have r25 : Rw (bk) (sm (fun i => f i * g i) n) (vs 0) w4 := hR 0 (by decide)
      clear hR
      simp only [putsL, Nat.zero_add, Nat.reduceAdd, List.take_succ_cons, List.take_zero, Act.put, List.setIfInBounds_toArray, List.set_cons_zero, List.set_cons_succ]
      show wpOps _ _ _ [1] _ _
      refine wpOps_next rfl rfl (store_row (v := vs 0) (g := g4) (j := 0) (n := 1) (b := bk) (x := sm (fun i => f i * g i) n) rfl rfl rfl rfl (HZ.out.below hb (Q := fun _ _ => True) (fun _ _ _ _ => trivial)) (by omega) r25 ?_)
-- %end D7
      intro wa kp hg hsz hR
      have HXa := Lib.hid (RB.bx (hR (fun _ v => Rw bk (sm (fun i => f i * g i) n) v wa) (fun l u hl hne _ => absurd hl (by omega)) (r25.keepN kp)))
      have HBa := Lib.hid (show Below w.heap.size w wa from (bthen HB.out hb HB.out.size).grown hg (bthen HB.out hb HB.out.size).size (fun x hx => by cases hx; exact HW.out))
      clear hb kp hg hsz hR r25
      unfold wpOps
      go_wp2_with fail
      obtain ⟨s, A, k1, c1, B, m1, d1, h1, h2⟩ := HXa.out
      refine bodyPost_ret (v := .agg #[.bool s, .slice A k1 c1, .slice B m1 d1]) (results_cell_row Try.results47 _ _ _ _ _ (0, 0) _ rfl h1 Try.underlying41 rfl rfl) rfl ?_
      exact ⟨_, rfl, by rw [← HBk.out]; exact ⟨s, A, k1, c1, B, m1, d1, rfl, h2⟩, HBa.out⟩
end Go.Proofs.Ytamcibmjpmibdaa
namespace Go.Proofs.Ytamcibmjpmibdaa
open Go.RowKit
set_option linter.unusedVariables false
set_option linter.unusedSimpArgs false

/-- A Bool that says P. -/
def BRet (P : Prop) (w : World) (e : Ending) (w' : World) : Prop := ∃ t : Bool, e = .returned (.bool t) ∧ Below w.heap.size w w' ∧ (t = true ↔ P)
theorem f_iff {P : Prop} (h : ¬ P) : false = true ↔ P := ⟨fun e => absurd e (by decide), fun e => absurd e h⟩
theorem t_iff {P : Prop} (h : P) : true = true ↔ P := ⟨fun _ => h, fun _ => rfl⟩
theorem ret_t {f : FuncId} {args : Array Value} {w : World} {P : Prop} {t : Bool} (h : Calls Try.prog f args w (BRet P w)) (ht : t = true ↔ P) : Calls Try.prog f args w (RV w (fun u _ => u = .bool t)) :=
  h.mono fun _ _ ⟨t', he, hb, hp⟩ => ⟨_, he, by
    have : t' = t := Bool.eq_iff_iff.2 (hp.trans ht.symm)
    rw [this], hb⟩
theorem rcq_gtb {x y : Rat} : decide (rcq x y > 0) = decide (y < x) := by
  by_cases h : x < y
  · rw [rcq_lt h, decide_eq_false (show ¬ y < x by grind)]; rfl
  · by_cases h2 : y < x
    · rw [rcq_gt h2, decide_eq_true h2]; rfl
    · rw [rcq_eq (by grind), decide_eq_false h2]; rfl
theorem rcq_ltd {x y : Rat} : decide (rcq x y < 0) = decide (x < y) := by
  by_cases h : x < y
  · rw [rcq_lt h, decide_eq_true h]; rfl
  · by_cases h2 : y < x
    · rw [rcq_gt h2, decide_eq_false h]; rfl
    · rw [rcq_eq (by grind), decide_eq_false h]; rfl
set_option maxRecDepth 100000 in
set_option maxHeartbeats 8000000 in
theorem sfeas_any (n m kX cC cA cB cX b bx : Nat) (AC AA AB AX : Option Addr) (Ar : Nat → Option Addr) (ln cp : Nat → Nat) (A : Nat → Nat → Rat) (C B X : Nat → Rat) (w : World) (hP : PrW w b n m m AC AA AB Ar ln cp A C B) (hl : ∀ i, i < m → ln i = n) (hX : Rs w w.heap.size AX kX (PW w bx X))
    (hn : n ≤ 1000) (hm : m ≤ 1000) (hb1 : b ≤ 1400) (hbx : bx ≤ 1400) (hcap : n * (b + bx + 1) ≤ 2000) :
    Calls Try.prog 45 #[.agg #[.slice AC n cC, .slice AA m cA, .slice AB m cB], .slice AX kX cX] w (BRet (kX = n ∧ Primal n m A B X) w) := by
  have HP := Lib.hid hP; have HX := Lib.hid hX; have HL := Lib.hid hl; have HCap := Lib.hid hcap; clear hP hX hl hcap
  go_enter Try.func45, Try.ntmps45
  go_upto_region 1 with (fail)
  have HQ := Lib.hid (Blk.new w 31 #[.slice AC n cC, .slice AA m cA, .slice AB m cB])
  have HB := Lib.hid (al w (.cells #[.slice AC n cC, .slice AA m cA, .slice AB m cB] 31))
  obtain ⟨gq, hgq⟩ : ∃ gq, gq = w.heap.size := ⟨_, rfl⟩
  rw [← hgq] at HQ ⊢
  clear hgq
  generalize w.alloc (.cells #[.slice AC n cC, .slice AA m cA, .slice AB m cB] 31) = w1 at *
  by_cases hk : kX = n
  rotate_left
  · have HK := Lib.hid hk; clear hk
-- %R1z
    refine wp_region_seq (kss := [[], [(0, 7)], [], [(2, 9)], [(3, 10)], [(1, 8), (4, 11)], [(5, 12)], [(6, 13)], [(6, 13), (7, 14)], [(6, 13), (8, 15)], [(6, 13), (9, 16)]]) [(1, .slice AX kX cX), (2, .pointer (some ⟨gq, 0, none⟩))] [fun zz _ => zz = .slice AX kX cX, fun zz _ => zz = .int .i64 ((kX : Int)), fun zz _ => zz = .pointer (some ⟨gq, 0, none⟩), fun zz _ => zz = .slice AC n cC, fun zz _ => zz = .int .i64 ((n : Int)), fun zz _ => zz = .bool true, fun zz _ => zz = .bool true, fun zz _ => zz = undef, fun zz _ => zz = undef, fun zz _ => zz = undef, fun zz _ => zz = .bool true] (by kernel_rfl) ⟨rfl, rfl, trivial⟩ ?_ ?_ ?_
    · exact ⟨fun _ _ _ h _ => h, fun _ _ _ h _ => h, fun _ _ _ h _ => h, fun _ _ _ h _ => h, fun _ _ _ h _ => h, fun _ _ _ h _ => h, fun _ _ _ h _ => h, fun _ _ _ h _ => h, fun _ _ _ h _ => h, fun _ _ _ h _ => h, fun _ _ _ h _ => h, trivial⟩
    · refine ⟨?_, ?_, ?_, ?_, ?_, ?_, ?_, ?_, ?_, ?_, ?_, trivial⟩
      · exact fun aa ww hb he hd => ob_plain rfl (gives_move _ rfl ⟨he.1, Below.refl _ _⟩)
      · exact fun aa ww hb he hd => ob_plain rfl (len_c Try.underlying28 rfl hd.1)
      · exact fun aa ww hb he hd => ob_plain rfl (fld_prb rfl (by decide) he.2.1)
      · exact fun aa ww hb he hd => ob_plain rfl (load_c28 rfl hd.1 (Blk.at0 HQ.out hb))
      · exact fun aa ww hb he hd => ob_plain rfl (len_c Try.underlying28 rfl hd.1)
      · exact fun aa ww hb he hd => ob_plain rfl (gives_ne_int ((kX : Int)) ((n : Int)) .i64 _ _ _ _ rfl hd.1 hd.2.1 ⟨congrArg Value.bool (by simp; have := HK.out; omega), Below.refl _ _⟩)
      · exact fun aa ww hb he hd => ob_plain rfl (gives_move _ rfl ⟨hd.1, Below.refl _ _⟩)
      · exact fun aa ww hb he hd => ob_off 13 rfl (by kernel_rfl) hd.1 rfl
      · exact fun aa ww hb he hd => ob_off 13 rfl (by kernel_rfl) hd.1 rfl
      · exact fun aa ww hb he hd => ob_off 13 rfl (by kernel_rfl) hd.1 rfl
      · exact fun aa ww hb he hd => ob_plain rfl (gives_pick true _ _ _ rfl hd.1 ⟨rfl, Below.refl _ _⟩)
    intro vs w2 hb hR
    have e17 : vs 10 = .bool true := hR 10 (by decide)
    clear hR
    simp only [putsL, Nat.zero_add, Nat.reduceAdd, List.take_succ_cons, List.take_zero, Act.put, List.setIfInBounds_toArray, List.set_cons_zero, List.set_cons_succ]
    rw [e17]
    clear e17
-- %end R1z
    go_wp2_with fail
    go_ret
    exact ⟨false, rfl, bthen HB.out hb HB.out.size, by simp; intro h; exact absurd h HK.out⟩
  · subst hk
    obtain ⟨n, hn'⟩ : ∃ n, n = kX := ⟨_, rfl⟩
    subst hn'
    by_cases hp : ∀ l, l < n → 0 ≤ X l
    rotate_left
    · have HPp := Lib.hid hp
-- %R1a
      refine wp_region_seq (kss := [[], [(0, 7)], [], [(2, 9)], [(3, 10)], [(1, 8), (4, 11)], [(5, 12)], [(6, 13)], [(6, 13), (7, 14)], [(6, 13), (8, 15)], [(6, 13), (9, 16)]]) [(1, .slice AX n cX), (2, .pointer (some ⟨gq, 0, none⟩))] [fun zz _ => zz = .slice AX n cX, fun zz _ => zz = .int .i64 ((n : Int)), fun zz _ => zz = .pointer (some ⟨gq, 0, none⟩), fun zz _ => zz = .slice AC n cC, fun zz _ => zz = .int .i64 ((n : Int)), fun zz _ => zz = .bool false, fun zz _ => zz = .bool false, fun zz _ => zz = .slice AX n cX, fun zz _ => zz = .bool false, fun zz _ => zz = .bool true, fun zz _ => zz = .bool true] (by kernel_rfl) ⟨rfl, rfl, trivial⟩ ?_ ?_ ?_
      · exact ⟨fun _ _ _ h _ => h, fun _ _ _ h _ => h, fun _ _ _ h _ => h, fun _ _ _ h _ => h, fun _ _ _ h _ => h, fun _ _ _ h _ => h, fun _ _ _ h _ => h, fun _ _ _ h _ => h, fun _ _ _ h _ => h, fun _ _ _ h _ => h, fun _ _ _ h _ => h, trivial⟩
      · refine ⟨?_, ?_, ?_, ?_, ?_, ?_, ?_, ?_, ?_, ?_, ?_, trivial⟩
        · exact fun aa ww hb he hd => ob_plain rfl (gives_move _ rfl ⟨he.1, Below.refl _ _⟩)
        · exact fun aa ww hb he hd => ob_plain rfl (len_c Try.underlying28 rfl hd.1)
        · exact fun aa ww hb he hd => ob_plain rfl (fld_prb rfl (by decide) he.2.1)
        · exact fun aa ww hb he hd => ob_plain rfl (load_c28 rfl hd.1 (Blk.at0 HQ.out hb))
        · exact fun aa ww hb he hd => ob_plain rfl (len_c Try.underlying28 rfl hd.1)
        · exact fun aa ww hb he hd => ob_plain rfl (gives_ne_int ((n : Int)) ((n : Int)) .i64 _ _ _ _ rfl hd.1 hd.2.1 ⟨congrArg Value.bool (by simp), Below.refl _ _⟩)
        · exact fun aa ww hb he hd => ob_plain rfl (gives_move _ rfl ⟨hd.1, Below.refl _ _⟩)
        · exact fun aa ww hb he hd => ob_on 13 rfl (by kernel_rfl) hd.1 (gives_move _ rfl ⟨he.1, Below.refl _ _⟩)
        · exact fun aa ww hb he hd => ob_on 13 rfl (by kernel_rfl) hd.1 (gives_call1 _ _ _ rfl (by kernel_rfl) (by rw [show aa.eval (.tmp 14) = .slice AX n cX from hd.2.1]; exact ret_t (nonneg_any n cX bx AX X _ (Rs.newW HX.out (bthen HB.out hb HB.out.size)) (by omega)) (f_iff hp)))
        · exact fun aa ww hb he hd => ob_on 13 rfl (by kernel_rfl) hd.1 (gives_not false _ _ rfl hd.2.1 ⟨rfl, Below.refl _ _⟩)
        · exact fun aa ww hb he hd => ob_plain rfl (gives_pick false _ _ _ rfl hd.1 ⟨hd.2.1, Below.refl _ _⟩)
      intro vs w2 hb hR
      have e17 : vs 10 = .bool true := hR 10 (by decide)
      clear hR
      simp only [putsL, Nat.zero_add, Nat.reduceAdd, List.take_succ_cons, List.take_zero, Act.put, List.setIfInBounds_toArray, List.set_cons_zero, List.set_cons_succ]
      rw [e17]
      clear e17
-- %end R1a
      clear hp
      go_wp2_with fail
      go_ret
      exact ⟨false, rfl, bthen HB.out hb HB.out.size, by simp; intro h; exact HPp.out h.nonneg⟩
    · have HPp := Lib.hid hp
-- %R1b
      refine wp_region_seq (kss := [[], [(0, 7)], [], [(2, 9)], [(3, 10)], [(1, 8), (4, 11)], [(5, 12)], [(6, 13)], [(6, 13), (7, 14)], [(6, 13), (8, 15)], [(6, 13), (9, 16)]]) [(1, .slice AX n cX), (2, .pointer (some ⟨gq, 0, none⟩))] [fun zz _ => zz = .slice AX n cX, fun zz _ => zz = .int .i64 ((n : Int)), fun zz _ => zz = .pointer (some ⟨gq, 0, none⟩), fun zz _ => zz = .slice AC n cC, fun zz _ => zz = .int .i64 ((n : Int)), fun zz _ => zz = .bool false, fun zz _ => zz = .bool false, fun zz _ => zz = .slice AX n cX, fun zz _ => zz = .bool true, fun zz _ => zz = .bool false, fun zz _ => zz = .bool false] (by kernel_rfl) ⟨rfl, rfl, trivial⟩ ?_ ?_ ?_
      · exact ⟨fun _ _ _ h _ => h, fun _ _ _ h _ => h, fun _ _ _ h _ => h, fun _ _ _ h _ => h, fun _ _ _ h _ => h, fun _ _ _ h _ => h, fun _ _ _ h _ => h, fun _ _ _ h _ => h, fun _ _ _ h _ => h, fun _ _ _ h _ => h, fun _ _ _ h _ => h, trivial⟩
      · refine ⟨?_, ?_, ?_, ?_, ?_, ?_, ?_, ?_, ?_, ?_, ?_, trivial⟩
        · exact fun aa ww hb he hd => ob_plain rfl (gives_move _ rfl ⟨he.1, Below.refl _ _⟩)
        · exact fun aa ww hb he hd => ob_plain rfl (len_c Try.underlying28 rfl hd.1)
        · exact fun aa ww hb he hd => ob_plain rfl (fld_prb rfl (by decide) he.2.1)
        · exact fun aa ww hb he hd => ob_plain rfl (load_c28 rfl hd.1 (Blk.at0 HQ.out hb))
        · exact fun aa ww hb he hd => ob_plain rfl (len_c Try.underlying28 rfl hd.1)
        · exact fun aa ww hb he hd => ob_plain rfl (gives_ne_int ((n : Int)) ((n : Int)) .i64 _ _ _ _ rfl hd.1 hd.2.1 ⟨congrArg Value.bool (by simp), Below.refl _ _⟩)
        · exact fun aa ww hb he hd => ob_plain rfl (gives_move _ rfl ⟨hd.1, Below.refl _ _⟩)
        · exact fun aa ww hb he hd => ob_on 13 rfl (by kernel_rfl) hd.1 (gives_move _ rfl ⟨he.1, Below.refl _ _⟩)
        · exact fun aa ww hb he hd => ob_on 13 rfl (by kernel_rfl) hd.1 (gives_call1 _ _ _ rfl (by kernel_rfl) (by rw [show aa.eval (.tmp 14) = .slice AX n cX from hd.2.1]; exact ret_t (nonneg_any n cX bx AX X _ (Rs.newW HX.out (bthen HB.out hb HB.out.size)) (by omega)) (t_iff hp)))
        · exact fun aa ww hb he hd => ob_on 13 rfl (by kernel_rfl) hd.1 (gives_not true _ _ rfl hd.2.1 ⟨rfl, Below.refl _ _⟩)
        · exact fun aa ww hb he hd => ob_plain rfl (gives_pick false _ _ _ rfl hd.1 ⟨hd.2.1, Below.refl _ _⟩)
      intro vs w2 hb hR
      have e17 : vs 10 = .bool false := hR 10 (by decide)
      clear hR
      simp only [putsL, Nat.zero_add, Nat.reduceAdd, List.take_succ_cons, List.take_zero, Act.put, List.setIfInBounds_toArray, List.set_cons_zero, List.set_cons_succ]
      rw [e17]
      clear e17
-- %end R1b
      clear hp
      have HQ2 := Lib.hid (HQ.out.keep hb)
      have HB2 := Lib.hid (bthen HB.out hb HB.out.size)
      clear HQ HB hb
      have c0 := HQ2.out.at0 (Below.refl _ _); have c1 := HQ2.out.at1 (Below.refl _ _); have c2 := HQ2.out.at2 (Below.refl _ _)
      go_wp2_with fail
      clear c0 c1 c2
      go_loopg [21] m (fun g iv wr => ∃ i : Nat, iv = .int .i64 i ∧ i + g = m ∧ Hid ((∀ l, l < i → sm (fun j => A l j * X j) n ≤ B l) ∧ Blk wr gq 31 #[.slice AC n cC, .slice AA m cA, .slice AB m cB] ∧ Below w.heap.size w wr))
      case atStart => exact ⟨0, rfl, by omega, Lib.hid ⟨fun l hl => absurd hl (by omega), HQ2.out, HB2.out⟩⟩
      case round =>
        obtain ⟨i, rfl, him, HI⟩ := hrel
        clear HQ2 HB2
        have HS := Lib.hid HI.out.1
        have HQ := Lib.hid HI.out.2.1
        have HB := Lib.hid HI.out.2.2
        clear HI
        by_cases hi : i < m
        · have i1 : ((i : Int) < (m : Int)) := by omega
          have i0 : (0 : Int) ≤ (i : Int) := by omega
          have hr0 := (HP.out.new HB.out).at_ hi
          rw [HL.out i hi] at hr0
          obtain ⟨ad, rfl, had, hr⟩ := hr0
          have HRow := Lib.hid (HP.out.row i hi)
          rw [HL.out i hi] at HRow
          have HBB := Lib.hid HP.out.bb
          obtain ⟨adb, -, -, -, -, -, -, -, rfl, -⟩ := HBB.out.at_ hi
          clear had
          generalize Ar i = Ai at hr HRow
          generalize cp i = ci at hr
          go_upto_region 6 with (fail)
          clear hr
          by_cases hq0 : B i < sm (fun j => A i j * X j) n
          · have hq : decide (rcq (sm (fun l => A i l * X l) n) (B i) > 0) = true := rcq_gtb.trans (decide_eq_true hq0)
-- %R6a
            refine wp_region_each (kss := [[], [], [(0, 26), (1, 27)], [], [(3, 29)], [], [(4, 30), (5, 31)], [(6, 32)], [(2, 28), (7, 33)], [(8, 34)]]) [(6, .slice Ai n ci), (1, .slice AX n cX), (2, .pointer (some ⟨gq, 0, none⟩)), (5, .int .i64 ((i : Int)))] [fun zz _ => zz = .slice Ai n ci, fun zz _ => zz = .slice AX n cX, Rw (2 + n * (b + bx + 1)) (sm (fun l => (A i) l * X l) n), fun zz _ => zz = .pointer (some ⟨gq, 2, none⟩), fun zz _ => zz = .slice (some adb) m cB, fun zz _ => zz = .int .i64 ((i : Int)), fun zz _ => zz = .pointer (some (Addr.add adb (i * 3))), Rw (b) (B i), fun zz _ => zz = .int .i64 (rcq (sm (fun l => (A i) l * X l) n) (B i)), fun zz _ => zz = .bool true] (by kernel_rfl) (by kernel_rfl) ⟨rfl, rfl, rfl, rfl, trivial⟩ ?_ ?_ ?_
            · exact ⟨fun _ _ _ h _ => h, fun _ _ _ h _ => h, fun _ _ _ h hb => h.new hb, fun _ _ _ h _ => h, fun _ _ _ h _ => h, fun _ _ _ h _ => h, fun _ _ _ h _ => h, fun _ _ _ h hb => h.new hb, fun _ _ _ h _ => h, fun _ _ _ h _ => h, trivial⟩
            · refine ⟨?_, ?_, ?_, ?_, ?_, ?_, ?_, ?_, ?_, ?_, trivial⟩
              · exact fun aa ww hb he hd => ob_plain rfl (gives_move _ rfl ⟨he.1, Below.refl _ _⟩)
              · exact fun aa ww hb he hd => ob_plain rfl (gives_move _ rfl ⟨he.2.1, Below.refl _ _⟩)
              · exact fun aa ww hb he hd => ob_plain rfl (gives_call2 _ _ _ _ rfl (by kernel_rfl) (by rw [show aa.eval (.tmp 26) = .slice Ai n ci from hd.1, show aa.eval (.tmp 27) = .slice AX n cX from hd.2.1]; exact dot_any n n ci cX b bx _ _ (A i) X _ (Rs.newW HRow.out (bthen HB.out hb HB.out.size)) (Rs.newW HX.out (bthen HB.out hb HB.out.size)) (by omega) (by omega) (by omega) (by omega) HCap.out))
              · exact fun aa ww hb he hd => ob_plain rfl (fld_prb rfl (by decide) he.2.2.1)
              · exact fun aa ww hb he hd => ob_plain rfl (load_c28 rfl hd.1 (Blk.at2 HQ.out hb))
              · exact fun aa ww hb he hd => ob_plain rfl (gives_move _ rfl ⟨he.2.2.2.1, Below.refl _ _⟩)
              · exact fun aa ww hb he hd => ob_plain rfl (idx_rs (by omega) rfl hd.1 hd.2.1)
              · exact fun aa ww hb he hd => ob_plain rfl (load_rw rfl hd.1 (Rs.newW HBB.out (bthen HB.out hb HB.out.size)) (by omega))
              · exact fun aa ww hb he hd => ob_plain rfl (gives_call2 _ _ _ _ rfl (by kernel_rfl) (cmp_v (hd.1) (hd.2.1) (by have := HCap.out; omega)))
              · exact fun aa ww hb he hd => ob_plain rfl (gives_gt_int (rcq (sm (fun l => (A i) l * X l) n) (B i)) 0 .i64 _ _ _ _ rfl hd.1 rfl ⟨congrArg Value.bool (hq), Below.refl _ _⟩)
            intro vs w4 hb hR
            have e35 : vs 9 = .bool true := hR 9 (by decide)
            clear hR
            simp only [putsL, Nat.zero_add, Nat.reduceAdd, List.take_succ_cons, List.take_zero, Act.put, List.setIfInBounds_toArray, List.set_cons_zero, List.set_cons_succ]
            rw [e35]
            clear e35
-- %end R6a
            go_wp2_with fail
            go_ret
            exact ⟨false, rfl, bthen HB.out hb HB.out.size, by simp; intro h; have := h.le i hi; grind⟩
          · have hq : decide (rcq (sm (fun l => A i l * X l) n) (B i) > 0) = false := rcq_gtb.trans (decide_eq_false hq0)
-- %R6b
            refine wp_region_each (kss := [[], [], [(0, 26), (1, 27)], [], [(3, 29)], [], [(4, 30), (5, 31)], [(6, 32)], [(2, 28), (7, 33)], [(8, 34)]]) [(6, .slice Ai n ci), (1, .slice AX n cX), (2, .pointer (some ⟨gq, 0, none⟩)), (5, .int .i64 ((i : Int)))] [fun zz _ => zz = .slice Ai n ci, fun zz _ => zz = .slice AX n cX, Rw (2 + n * (b + bx + 1)) (sm (fun l => (A i) l * X l) n), fun zz _ => zz = .pointer (some ⟨gq, 2, none⟩), fun zz _ => zz = .slice (some adb) m cB, fun zz _ => zz = .int .i64 ((i : Int)), fun zz _ => zz = .pointer (some (Addr.add adb (i * 3))), Rw (b) (B i), fun zz _ => zz = .int .i64 (rcq (sm (fun l => (A i) l * X l) n) (B i)), fun zz _ => zz = .bool false] (by kernel_rfl) (by kernel_rfl) ⟨rfl, rfl, rfl, rfl, trivial⟩ ?_ ?_ ?_
            · exact ⟨fun _ _ _ h _ => h, fun _ _ _ h _ => h, fun _ _ _ h hb => h.new hb, fun _ _ _ h _ => h, fun _ _ _ h _ => h, fun _ _ _ h _ => h, fun _ _ _ h _ => h, fun _ _ _ h hb => h.new hb, fun _ _ _ h _ => h, fun _ _ _ h _ => h, trivial⟩
            · refine ⟨?_, ?_, ?_, ?_, ?_, ?_, ?_, ?_, ?_, ?_, trivial⟩
              · exact fun aa ww hb he hd => ob_plain rfl (gives_move _ rfl ⟨he.1, Below.refl _ _⟩)
              · exact fun aa ww hb he hd => ob_plain rfl (gives_move _ rfl ⟨he.2.1, Below.refl _ _⟩)
              · exact fun aa ww hb he hd => ob_plain rfl (gives_call2 _ _ _ _ rfl (by kernel_rfl) (by rw [show aa.eval (.tmp 26) = .slice Ai n ci from hd.1, show aa.eval (.tmp 27) = .slice AX n cX from hd.2.1]; exact dot_any n n ci cX b bx _ _ (A i) X _ (Rs.newW HRow.out (bthen HB.out hb HB.out.size)) (Rs.newW HX.out (bthen HB.out hb HB.out.size)) (by omega) (by omega) (by omega) (by omega) HCap.out))
              · exact fun aa ww hb he hd => ob_plain rfl (fld_prb rfl (by decide) he.2.2.1)
              · exact fun aa ww hb he hd => ob_plain rfl (load_c28 rfl hd.1 (Blk.at2 HQ.out hb))
              · exact fun aa ww hb he hd => ob_plain rfl (gives_move _ rfl ⟨he.2.2.2.1, Below.refl _ _⟩)
              · exact fun aa ww hb he hd => ob_plain rfl (idx_rs (by omega) rfl hd.1 hd.2.1)
              · exact fun aa ww hb he hd => ob_plain rfl (load_rw rfl hd.1 (Rs.newW HBB.out (bthen HB.out hb HB.out.size)) (by omega))
              · exact fun aa ww hb he hd => ob_plain rfl (gives_call2 _ _ _ _ rfl (by kernel_rfl) (cmp_v (hd.1) (hd.2.1) (by have := HCap.out; omega)))
              · exact fun aa ww hb he hd => ob_plain rfl (gives_gt_int (rcq (sm (fun l => (A i) l * X l) n) (B i)) 0 .i64 _ _ _ _ rfl hd.1 rfl ⟨congrArg Value.bool (hq), Below.refl _ _⟩)
            intro vs w4 hb hR
            have e35 : vs 9 = .bool false := hR 9 (by decide)
            clear hR
            simp only [putsL, Nat.zero_add, Nat.reduceAdd, List.take_succ_cons, List.take_zero, Act.put, List.setIfInBounds_toArray, List.set_cons_zero, List.set_cons_succ]
            rw [e35]
            clear e35
-- %end R6b
            have HQn := Lib.hid (HQ.out.keep hb)
            have HBn := Lib.hid (bthen HB.out hb HB.out.size)
            clear hq hb HQ HB
            go_wp2_with fail
            go_roundg (gk - 1)
            case measure => omega
            case rel => exact ⟨i + 1, by go_num, by omega, Lib.hid ⟨fun l hl => by
              by_cases hli : l = i
              · rw [hli]; grind
              · exact HS.out l (by omega), HQn.out, HBn.out⟩⟩
        · obtain rfl : m = i := by omega
          go_wp2_with fail
          go_ret
          exact ⟨true, rfl, HB.out, by simp; exact ⟨HPp.out, HS.out⟩⟩
set_option maxRecDepth 100000 in
set_option maxHeartbeats 8000000 in
theorem bounds_any (n m kY nl cC cA cB cY cL b by_ bl : Nat) (AC AA AB AY AL : Option Addr) (Ar : Nat → Option Addr) (ln cp : Nat → Nat) (A : Nat → Nat → Rat) (C B Y L : Nat → Rat) (w : World) (hP : PrW w b n m m AC AA AB Ar ln cp A C B) (hl : ∀ i, i < m → ln i = n) (hY : Rs w w.heap.size AY kY (PW w by_ Y)) (hLs : Rs w w.heap.size AL nl (PW w bl L)) (hnl : n ≤ nl)
    (hn : n ≤ 1000) (hm : m ≤ 1000) (hb1 : b ≤ 1400) (hby : by_ ≤ 1400) (hbl : bl ≤ 1400) (hcap : m * (by_ + b + 1) ≤ 2000) :
    Calls Try.prog 46 #[.agg #[.slice AC n cC, .slice AA m cA, .slice AB m cB], .slice AY kY cY, .slice AL nl cL] w (BRet (kY = m ∧ DualF n m A L Y) w) := by
  have HP := Lib.hid hP; have HY := Lib.hid hY; have HL := Lib.hid hl; have HLs := Lib.hid hLs; clear hP hY hl hLs
  obtain ⟨c, hc⟩ : ∃ c, c = by_ + b + 1 := ⟨_, rfl⟩
  rw [← hc] at hcap
  have HC := Lib.hid hc; clear hc
  have HCap := Lib.hid hcap; clear hcap
  go_enter Try.func46, Try.ntmps46
  go_upto_region 1 with (fail)
  have HQ := Lib.hid (Blk.new w 31 #[.slice AC n cC, .slice AA m cA, .slice AB m cB])
  have HB := Lib.hid (al w (.cells #[.slice AC n cC, .slice AA m cA, .slice AB m cB] 31))
  obtain ⟨gq, hgq⟩ : ∃ gq, gq = w.heap.size := ⟨_, rfl⟩
  rw [← hgq] at HQ ⊢
  clear hgq
  generalize w.alloc (.cells #[.slice AC n cC, .slice AA m cA, .slice AB m cB] 31) = w1 at *
  by_cases hk : kY = m
  rotate_left
  · have HK := Lib.hid hk; clear hk
-- %S1z
    refine wp_region_seq (kss := [[], [(0, 11)], [], [(2, 13)], [(3, 14)], [(1, 12), (4, 15)], [(5, 16)], [(6, 17)], [(6, 17), (7, 18)], [(6, 17), (8, 19)], [(6, 17), (9, 20)]]) [(1, .slice AY kY cY), (3, .pointer (some ⟨gq, 0, none⟩))] [fun zz _ => zz = .slice AY kY cY, fun zz _ => zz = .int .i64 ((kY : Int)), fun zz _ => zz = .pointer (some ⟨gq, 2, none⟩), fun zz _ => zz = .slice AB m cB, fun zz _ => zz = .int .i64 ((m : Int)), fun zz _ => zz = .bool true, fun zz _ => zz = .bool true, fun zz _ => zz = undef, fun zz _ => zz = undef, fun zz _ => zz = undef, fun zz _ => zz = .bool true] (by kernel_rfl) ⟨rfl, rfl, trivial⟩ ?_ ?_ ?_
    · exact ⟨fun _ _ _ h _ => h, fun _ _ _ h _ => h, fun _ _ _ h _ => h, fun _ _ _ h _ => h, fun _ _ _ h _ => h, fun _ _ _ h _ => h, fun _ _ _ h _ => h, fun _ _ _ h _ => h, fun _ _ _ h _ => h, fun _ _ _ h _ => h, fun _ _ _ h _ => h, trivial⟩
    · refine ⟨?_, ?_, ?_, ?_, ?_, ?_, ?_, ?_, ?_, ?_, ?_, trivial⟩
      · exact fun aa ww hb he hd => ob_plain rfl (gives_move _ rfl ⟨he.1, Below.refl _ _⟩)
      · exact fun aa ww hb he hd => ob_plain rfl (len_c Try.underlying28 rfl hd.1)
      · exact fun aa ww hb he hd => ob_plain rfl (fld_prb rfl (by decide) he.2.1)
      · exact fun aa ww hb he hd => ob_plain rfl (load_c28 rfl hd.1 (Blk.at2 HQ.out hb))
      · exact fun aa ww hb he hd => ob_plain rfl (len_c Try.underlying28 rfl hd.1)
      · exact fun aa ww hb he hd => ob_plain rfl (gives_ne_int ((kY : Int)) ((m : Int)) .i64 _ _ _ _ rfl hd.1 hd.2.1 ⟨congrArg Value.bool (by simp; have := HK.out; omega), Below.refl _ _⟩)
      · exact fun aa ww hb he hd => ob_plain rfl (gives_move _ rfl ⟨hd.1, Below.refl _ _⟩)
      · exact fun aa ww hb he hd => ob_off 17 rfl (by kernel_rfl) hd.1 rfl
      · exact fun aa ww hb he hd => ob_off 17 rfl (by kernel_rfl) hd.1 rfl
      · exact fun aa ww hb he hd => ob_off 17 rfl (by kernel_rfl) hd.1 rfl
      · exact fun aa ww hb he hd => ob_plain rfl (gives_pick true _ _ _ rfl hd.1 ⟨rfl, Below.refl _ _⟩)
    intro vs w2 hb hR
    have e21 : vs 10 = .bool true := hR 10 (by decide)
    clear hR
    simp only [putsL, Nat.zero_add, Nat.reduceAdd, List.take_succ_cons, List.take_zero, Act.put, List.setIfInBounds_toArray, List.set_cons_zero, List.set_cons_succ]
    rw [e21]
    clear e21
-- %end S1z
    go_wp2_with fail
    go_ret
    exact ⟨false, rfl, bthen HB.out hb HB.out.size, by simp; intro h; exact absurd h HK.out⟩
  · subst hk
    obtain ⟨m, hn'⟩ : ∃ m, m = kY := ⟨_, rfl⟩
    subst hn'
    by_cases hp : ∀ l, l < m → 0 ≤ Y l
    rotate_left
    · have HPp := Lib.hid hp
-- %S1a
      refine wp_region_seq (kss := [[], [(0, 11)], [], [(2, 13)], [(3, 14)], [(1, 12), (4, 15)], [(5, 16)], [(6, 17)], [(6, 17), (7, 18)], [(6, 17), (8, 19)], [(6, 17), (9, 20)]]) [(1, .slice AY m cY), (3, .pointer (some ⟨gq, 0, none⟩))] [fun zz _ => zz = .slice AY m cY, fun zz _ => zz = .int .i64 ((m : Int)), fun zz _ => zz = .pointer (some ⟨gq, 2, none⟩), fun zz _ => zz = .slice AB m cB, fun zz _ => zz = .int .i64 ((m : Int)), fun zz _ => zz = .bool false, fun zz _ => zz = .bool false, fun zz _ => zz = .slice AY m cY, fun zz _ => zz = .bool false, fun zz _ => zz = .bool true, fun zz _ => zz = .bool true] (by kernel_rfl) ⟨rfl, rfl, trivial⟩ ?_ ?_ ?_
      · exact ⟨fun _ _ _ h _ => h, fun _ _ _ h _ => h, fun _ _ _ h _ => h, fun _ _ _ h _ => h, fun _ _ _ h _ => h, fun _ _ _ h _ => h, fun _ _ _ h _ => h, fun _ _ _ h _ => h, fun _ _ _ h _ => h, fun _ _ _ h _ => h, fun _ _ _ h _ => h, trivial⟩
      · refine ⟨?_, ?_, ?_, ?_, ?_, ?_, ?_, ?_, ?_, ?_, ?_, trivial⟩
        · exact fun aa ww hb he hd => ob_plain rfl (gives_move _ rfl ⟨he.1, Below.refl _ _⟩)
        · exact fun aa ww hb he hd => ob_plain rfl (len_c Try.underlying28 rfl hd.1)
        · exact fun aa ww hb he hd => ob_plain rfl (fld_prb rfl (by decide) he.2.1)
        · exact fun aa ww hb he hd => ob_plain rfl (load_c28 rfl hd.1 (Blk.at2 HQ.out hb))
        · exact fun aa ww hb he hd => ob_plain rfl (len_c Try.underlying28 rfl hd.1)
        · exact fun aa ww hb he hd => ob_plain rfl (gives_ne_int ((m : Int)) ((m : Int)) .i64 _ _ _ _ rfl hd.1 hd.2.1 ⟨congrArg Value.bool (by simp), Below.refl _ _⟩)
        · exact fun aa ww hb he hd => ob_plain rfl (gives_move _ rfl ⟨hd.1, Below.refl _ _⟩)
        · exact fun aa ww hb he hd => ob_on 17 rfl (by kernel_rfl) hd.1 (gives_move _ rfl ⟨he.1, Below.refl _ _⟩)
        · exact fun aa ww hb he hd => ob_on 17 rfl (by kernel_rfl) hd.1 (gives_call1 _ _ _ rfl (by kernel_rfl) (by rw [show aa.eval (.tmp 18) = .slice AY m cY from hd.2.1]; exact ret_t (nonneg_any m cY by_ AY Y _ (Rs.newW HY.out (bthen HB.out hb HB.out.size)) (by omega)) (f_iff hp)))
        · exact fun aa ww hb he hd => ob_on 17 rfl (by kernel_rfl) hd.1 (gives_not false _ _ rfl hd.2.1 ⟨rfl, Below.refl _ _⟩)
        · exact fun aa ww hb he hd => ob_plain rfl (gives_pick false _ _ _ rfl hd.1 ⟨hd.2.1, Below.refl _ _⟩)
      intro vs w2 hb hR
      have e21 : vs 10 = .bool true := hR 10 (by decide)
      clear hR
      simp only [putsL, Nat.zero_add, Nat.reduceAdd, List.take_succ_cons, List.take_zero, Act.put, List.setIfInBounds_toArray, List.set_cons_zero, List.set_cons_succ]
      rw [e21]
      clear e21
-- %end S1a
      clear hp
      go_wp2_with fail
      go_ret
      exact ⟨false, rfl, bthen HB.out hb HB.out.size, by simp; intro h; exact HPp.out h.nonneg⟩
    · have HPp := Lib.hid hp
-- %S1b
      refine wp_region_seq (kss := [[], [(0, 11)], [], [(2, 13)], [(3, 14)], [(1, 12), (4, 15)], [(5, 16)], [(6, 17)], [(6, 17), (7, 18)], [(6, 17), (8, 19)], [(6, 17), (9, 20)]]) [(1, .slice AY m cY), (3, .pointer (some ⟨gq, 0, none⟩))] [fun zz _ => zz = .slice AY m cY, fun zz _ => zz = .int .i64 ((m : Int)), fun zz _ => zz = .pointer (some ⟨gq, 2, none⟩), fun zz _ => zz = .slice AB m cB, fun zz _ => zz = .int .i64 ((m : Int)), fun zz _ => zz = .bool false, fun zz _ => zz = .bool false, fun zz _ => zz = .slice AY m cY, fun zz _ => zz = .bool true, fun zz _ => zz = .bool false, fun zz _ => zz = .bool false] (by kernel_rfl) ⟨rfl, rfl, trivial⟩ ?_ ?_ ?_
      · exact ⟨fun _ _ _ h _ => h, fun _ _ _ h _ => h, fun _ _ _ h _ => h, fun _ _ _ h _ => h, fun _ _ _ h _ => h, fun _ _ _ h _ => h, fun _ _ _ h _ => h, fun _ _ _ h _ => h, fun _ _ _ h _ => h, fun _ _ _ h _ => h, fun _ _ _ h _ => h, trivial⟩
      · refine ⟨?_, ?_, ?_, ?_, ?_, ?_, ?_, ?_, ?_, ?_, ?_, trivial⟩
        · exact fun aa ww hb he hd => ob_plain rfl (gives_move _ rfl ⟨he.1, Below.refl _ _⟩)
        · exact fun aa ww hb he hd => ob_plain rfl (len_c Try.underlying28 rfl hd.1)
        · exact fun aa ww hb he hd => ob_plain rfl (fld_prb rfl (by decide) he.2.1)
        · exact fun aa ww hb he hd => ob_plain rfl (load_c28 rfl hd.1 (Blk.at2 HQ.out hb))
        · exact fun aa ww hb he hd => ob_plain rfl (len_c Try.underlying28 rfl hd.1)
        · exact fun aa ww hb he hd => ob_plain rfl (gives_ne_int ((m : Int)) ((m : Int)) .i64 _ _ _ _ rfl hd.1 hd.2.1 ⟨congrArg Value.bool (by simp), Below.refl _ _⟩)
        · exact fun aa ww hb he hd => ob_plain rfl (gives_move _ rfl ⟨hd.1, Below.refl _ _⟩)
        · exact fun aa ww hb he hd => ob_on 17 rfl (by kernel_rfl) hd.1 (gives_move _ rfl ⟨he.1, Below.refl _ _⟩)
        · exact fun aa ww hb he hd => ob_on 17 rfl (by kernel_rfl) hd.1 (gives_call1 _ _ _ rfl (by kernel_rfl) (by rw [show aa.eval (.tmp 18) = .slice AY m cY from hd.2.1]; exact ret_t (nonneg_any m cY by_ AY Y _ (Rs.newW HY.out (bthen HB.out hb HB.out.size)) (by omega)) (t_iff hp)))
        · exact fun aa ww hb he hd => ob_on 17 rfl (by kernel_rfl) hd.1 (gives_not true _ _ rfl hd.2.1 ⟨rfl, Below.refl _ _⟩)
        · exact fun aa ww hb he hd => ob_plain rfl (gives_pick false _ _ _ rfl hd.1 ⟨hd.2.1, Below.refl _ _⟩)
      intro vs w2 hb hR
      have e21 : vs 10 = .bool false := hR 10 (by decide)
      clear hR
      simp only [putsL, Nat.zero_add, Nat.reduceAdd, List.take_succ_cons, List.take_zero, Act.put, List.setIfInBounds_toArray, List.set_cons_zero, List.set_cons_succ]
      rw [e21]
      clear e21
-- %end S1b
      clear hp
      have HQ2 := Lib.hid (HQ.out.keep hb)
      have HB2 := Lib.hid (bthen HB.out hb HB.out.size)
      clear HQ HB hb
      have c0 := HQ2.out.at0 (Below.refl _ _); have c1 := HQ2.out.at1 (Below.refl _ _); have c2 := HQ2.out.at2 (Below.refl _ _)
      go_wp2_with fail
      clear c0 c1 c2
      go_loopg [25] n (fun g iv wr => ∃ j : Nat, iv = .int .i64 j ∧ j + g = n ∧ Hid ((∀ l, l < j → L l ≤ sm (fun i => Y i * A i l) m) ∧ Blk wr gq 31 #[.slice AC n cC, .slice AA m cA, .slice AB m cB] ∧ Below w.heap.size w wr))
      case atStart => exact ⟨0, rfl, by omega, Lib.hid ⟨fun l hl => absurd hl (by omega), HQ2.out, HB2.out⟩⟩
      case round =>
        obtain ⟨j, rfl, hjn, HI⟩ := hrel
        clear HQ2 HB2
        have HJ := Lib.hid HI.out.1
        have HQ := Lib.hid HI.out.2.1
        have HB := Lib.hid HI.out.2.2
        clear HI
        obtain ⟨G, hG⟩ : ∃ G, G = gk := ⟨_, rfl⟩
        subst hG
        obtain ⟨w6, hw6⟩ : ∃ w6, w6 = wr := ⟨_, rfl⟩
        subst hw6
        by_cases hj : j < n
        · have j1 : ((j : Int) < (n : Int)) := by omega
          go_upto_region 6 with (fail)
-- %S6
          refine wp_region_joins (kss := [[], []]) [] [Rv (2) (((0 : Int) : Rat)), Zb w6.heap.size] 2 (by kernel_rfl) trivial [false, true] ?_ ?_ ?_
          · exact ⟨fun _ _ _ h hb => h.new hb, fun _ _ _ h hb => Zb.new h hb, trivial⟩
          · refine ⟨?_, ?_, trivial⟩
            · exact fun aa ww hb he hd => ob_plain rfl (gives_call1 _ _ _ rfl (by kernel_rfl) (int_w (0) (by omega) (by omega) _ rfl _))
            · exact fun aa ww hb he hd => ⟨by simp [Region.wanted], alloc_rat rfl hb⟩
          intro vs w3 hb hR
          have r28 : Rv (2) (((0 : Int) : Rat)) (vs 0) w3 := hR 0 (by decide)
          have r8 : Zb w6.heap.size (vs 1) w3 := hR 1 (by decide)
          clear hR
          simp only [putsL, Nat.zero_add, Nat.reduceAdd, List.take_succ_cons, List.take_zero, Act.put, List.setIfInBounds_toArray, List.set_cons_zero, List.set_cons_succ]
-- %end S6
          obtain ⟨g8, k8, z8⟩ := r8
          rw [k8]
          clear k8
          show wpOps _ _ _ [2] _ _
          refine wpOps_next rfl rfl (store_row (v := vs 0) (g := g8) (j := 0) (n := 1) (b := 2) (x := ((0 : Int) : Rat)) rfl rfl rfl rfl z8.rb (by omega) r28.rw ?_)
          intro wa kp hg hsz hR8
          have hlow : w.heap.size ≤ g8 := by have := z8.1; have := HB.out.size; omega
          have HX0 := Lib.hid (RB.bx (hR8 (fun _ v => Rw 2 (sm (fun l => Y l * A l j) 0) v wa) (fun l u hl hne _ => absurd hl (by omega)) (by
            have h := r28.rw.keepN kp
            rw [show ((0 : Int) : Rat) = sm (fun l => Y l * A l j) 0 from by simp [sm]] at h
            exact h)))
          have HW := Lib.hid hlow
          have HBa := Lib.hid (show Below w.heap.size w wa from (bthen HB.out hb HB.out.size).grown hg (bthen HB.out hb HB.out.size).size (fun x hx => by cases hx; exact HW.out))
          have HQa := Lib.hid ((HQ.out.keep hb).grown hg (fun e => by injection e with e; have := z8.1; have := HQ.out.lt; omega))
          have hq8 : gq ≠ g8 := by have := z8.1; have := HQ.out.lt; omega
          have HN8 := Lib.hid hq8
          clear hb kp hg hsz hR8 r28 z8 HB HQ hlow hq8
          show Exit.then _ _ _ _ _
          have c0 := HQa.out.at0 (Below.refl _ _); have c1 := HQa.out.at1 (Below.refl _ _); have c2 := HQa.out.at2 (Below.refl _ _)
          go_wp2_with fail
          clear c0 c1 c2
          go_loopg [32] m (fun g iv wr => ∃ i : Nat, iv = .int .i64 i ∧ i + g = m ∧ Hid (Bx (2 + i * c) (sm (fun l => Y l * A l j) i) g8 wr ∧ Blk wr gq 31 #[.slice AC n cC, .slice AA m cA, .slice AB m cB] ∧ Below w.heap.size w wr))
          case atStart => exact ⟨0, rfl, by omega, Lib.hid ⟨by rw [Nat.zero_mul]; exact HX0.out, HQa.out, HBa.out⟩⟩
          case round =>
            obtain ⟨i, rfl, him, HI⟩ := hrel
            clear HX0 HQa HBa
            obtain ⟨bk, hbk⟩ : ∃ bk, bk = 2 + i * c := ⟨_, rfl⟩
            have HS := Lib.hid HI.out.1
            rw [← hbk] at HS
            have HQ2 := Lib.hid HI.out.2.1
            have HB2 := Lib.hid HI.out.2.2
            clear HI
            have hkc : i * c ≤ m * c := Nat.mul_le_mul_right c (by omega)
            have hbk2 : bk ≤ 2002 := by have := HCap.out; omega
            have HBk := Lib.hid hbk; clear hbk hkc
            by_cases hi : i < m
            · have i1 : ((i : Int) < (m : Int)) := by omega
              have i0 : (0 : Int) ≤ (i : Int) := by omega
              have hr0 := (HP.out.new HB2.out).at_ hi
              rw [HL.out i hi] at hr0
              obtain ⟨ad, rfl, had, hr⟩ := hr0
              have HR := Lib.hid (HP.out.row i hi)
              rw [HL.out i hi] at HR
              clear had
              obtain ⟨adr, -, -, -, -, -, -, -, hadr, -⟩ := HR.out.at_ hj
              rw [hadr] at hr HR
              clear hadr
              obtain ⟨adY, -, -, -, -, -, -, -, rfl, -⟩ := HY.out.at_ hi
              go_upto_region 10 with (fail)
              clear hr
-- %S10
              refine wp_region_join (kss := [[], [], [], [(1, 38), (2, 39)], [(3, 40)], [], [], [(5, 42), (6, 43)], [(7, 44)], [(4, 41), (8, 45)], [(0, 37), (9, 46)]]) [(8, .pointer (some ⟨g8, 0, none⟩)), (1, .slice (some adY) m cY), (9, .int .i64 ((i : Int))), (10, .slice (some adr) n (cp i)), (7, .int .i64 ((j : Int)))] [Rw (bk) (sm (fun l => Y l * A l j) i), fun zz _ => zz = .slice (some adY) m cY, fun zz _ => zz = .int .i64 ((i : Int)), fun zz _ => zz = .pointer (some (Addr.add adY (i * 3))), Rw (by_) (Y i), fun zz _ => zz = .slice (some adr) n (cp i), fun zz _ => zz = .int .i64 ((j : Int)), fun zz _ => zz = .pointer (some (Addr.add adr (j * 3))), Rw (b) ((A i) j), Rv (by_ + b) ((Y i) * ((A i) j)), Rv (bk + (by_ + b) + 1) ((sm (fun l => Y l * A l j) i) + ((Y i) * ((A i) j)))] 11 [] (by kernel_rfl) (by kernel_rfl) ⟨rfl, rfl, rfl, rfl, rfl, trivial⟩ [false, false, false, false, false, false, false, false, false, false, false] ?_ ?_ ?_ ?_
              · exact fun i hi => absurd hi (by simp)
              · exact ⟨fun _ _ _ h hb => h.new hb, fun _ _ _ h _ => h, fun _ _ _ h _ => h, fun _ _ _ h _ => h, fun _ _ _ h hb => h.new hb, fun _ _ _ h _ => h, fun _ _ _ h _ => h, fun _ _ _ h _ => h, fun _ _ _ h hb => h.new hb, fun _ _ _ h hb => h.new hb, fun _ _ _ h hb => h.new hb, trivial⟩
              · refine ⟨?_, ?_, ?_, ?_, ?_, ?_, ?_, ?_, ?_, ?_, ?_, trivial⟩
                · exact fun aa ww hb he hd => ob_plain rfl (load_bx rfl he.1 (Bx.new HS.out hb))
                · exact fun aa ww hb he hd => ob_plain rfl (gives_move _ rfl ⟨he.2.1, Below.refl _ _⟩)
                · exact fun aa ww hb he hd => ob_plain rfl (gives_move _ rfl ⟨he.2.2.1, Below.refl _ _⟩)
                · exact fun aa ww hb he hd => ob_plain rfl (idx_rs (by omega) rfl hd.1 hd.2.1)
                · exact fun aa ww hb he hd => ob_plain rfl (load_rw rfl hd.1 (Rs.newW HY.out (bthen HB2.out hb HB2.out.size)) (by omega))
                · exact fun aa ww hb he hd => ob_plain rfl (gives_move _ rfl ⟨he.2.2.2.1, Below.refl _ _⟩)
                · exact fun aa ww hb he hd => ob_plain rfl (gives_move _ rfl ⟨he.2.2.2.2.1, Below.refl _ _⟩)
                · exact fun aa ww hb he hd => ob_plain rfl (idx_rs (by omega) rfl hd.1 hd.2.1)
                · exact fun aa ww hb he hd => ob_plain rfl (load_rw rfl hd.1 (Rs.newW HR.out (bthen HB2.out hb HB2.out.size)) (by omega))
                · exact fun aa ww hb he hd => ob_plain rfl (gives_call2 _ _ _ _ rfl (by kernel_rfl) (mul_v (hd.1) (hd.2.1) (by have := HCap.out; omega)))
                · exact fun aa ww hb he hd => ob_plain rfl (gives_call2 _ _ _ _ rfl (by kernel_rfl) (add_v (hd.1) (hd.2.1.rw) (by have := HCap.out; omega)))
              intro vs w5 hb hR _
              have r47 : Rv (bk + (by_ + b) + 1) ((sm (fun l => Y l * A l j) i) + ((Y i) * ((A i) j))) (vs 10) w5 := hR 10 (by decide)
              clear hR
              simp only [putsL, Nat.zero_add, Nat.reduceAdd, List.take_succ_cons, List.take_zero, Act.put, List.setIfInBounds_toArray, List.set_cons_zero, List.set_cons_succ]
              show wpAny _ _ _ _ 1 _ _ _
              refine wpAny_next (i := 11) (by kernel_rfl) rfl rfl (store_row (v := vs 10) (g := g8) (j := 0) (n := 1) (b := bk + (by_ + b) + 1) (x := sm (fun l => Y l * A l j) i + Y i * A i j) rfl rfl rfl rfl (HS.out.new hb).rb (by omega) r47.rw ?_)
-- %end S10
              intro wb kp hg hsz hR
              have hbe : bk + (by_ + b) + 1 = 2 + (i + 1) * c := by rw [HBk.out, Nat.succ_mul, HC.out]; omega
              have HXa := Lib.hid (RB.bx (hR (fun _ v => Rw (2 + (i + 1) * c) (sm (fun l => Y l * A l j) (i + 1)) v wb) (fun l u hl hne _ => absurd hl (by omega)) (by
                have h := r47.rw.keepN kp
                rw [hbe] at h
                exact h)))
              have HQa := Lib.hid ((HQ2.out.keep hb).grown hg (fun e => by injection e with e; exact HN8.out e))
              have HBa := Lib.hid (show Below w.heap.size w wb from (bthen HB2.out hb HB2.out.size).grown hg (bthen HB2.out hb HB2.out.size).size (fun x hx => by cases hx; exact HW.out))
              clear hb kp hg hsz hR r47 hbe
              refine wpAny_end (by kernel_rfl) (calm_normal ?_) _
              go_wp2_with fail
              go_roundg (gk - 1)
              case measure => omega
              case rel => exact ⟨i + 1, by go_num, by omega, Lib.hid ⟨HXa.out, HQa.out, HBa.out⟩⟩
            · obtain rfl : m = i := by omega
              obtain ⟨adL, -, -, -, -, -, -, -, rfl, -⟩ := HLs.out.at_ (show j < nl by omega)
              go_upto_region 12 with (fail)
              by_cases hq0 : sm (fun l => Y l * A l j) m < L j
              · have hq : decide (rcq (sm (fun l => Y l * A l j) m) (L j) < 0) = true := rcq_ltd.trans (decide_eq_true hq0)
-- %S12a
                refine wp_region_each (kss := [[], [], [], [(1, 50), (2, 51)], [(3, 52)], [(0, 49), (4, 53)], [(5, 54)]]) [(8, .pointer (some ⟨g8, 0, none⟩)), (2, .slice (some adL) nl cL), (7, .int .i64 ((j : Int)))] [Rw (bk) (sm (fun l => Y l * A l j) m), fun zz _ => zz = .slice (some adL) nl cL, fun zz _ => zz = .int .i64 ((j : Int)), fun zz _ => zz = .pointer (some (Addr.add adL (j * 3))), Rw (bl) (L j), fun zz _ => zz = .int .i64 (rcq (sm (fun l => Y l * A l j) m) (L j)), fun zz _ => zz = .bool true] (by kernel_rfl) (by kernel_rfl) ⟨rfl, rfl, rfl, trivial⟩ ?_ ?_ ?_
                · exact ⟨fun _ _ _ h hb => h.new hb, fun _ _ _ h _ => h, fun _ _ _ h _ => h, fun _ _ _ h _ => h, fun _ _ _ h hb => h.new hb, fun _ _ _ h _ => h, fun _ _ _ h _ => h, trivial⟩
                · refine ⟨?_, ?_, ?_, ?_, ?_, ?_, ?_, trivial⟩
                  · exact fun aa ww hb he hd => ob_plain rfl (load_bx rfl he.1 (Bx.new HS.out hb))
                  · exact fun aa ww hb he hd => ob_plain rfl (gives_move _ rfl ⟨he.2.1, Below.refl _ _⟩)
                  · exact fun aa ww hb he hd => ob_plain rfl (gives_move _ rfl ⟨he.2.2.1, Below.refl _ _⟩)
                  · exact fun aa ww hb he hd => ob_plain rfl (idx_rs (by omega) rfl hd.1 hd.2.1)
                  · exact fun aa ww hb he hd => ob_plain rfl (load_rw rfl hd.1 (Rs.newW HLs.out (bthen HB2.out hb HB2.out.size)) (by omega))
                  · exact fun aa ww hb he hd => ob_plain rfl (gives_call2 _ _ _ _ rfl (by kernel_rfl) (cmp_v (hd.1) (hd.2.1) (by have := HCap.out; omega)))
                  · exact fun aa ww hb he hd => ob_plain rfl (gives_lt_int (rcq (sm (fun l => Y l * A l j) m) (L j)) 0 .i64 _ _ _ _ rfl hd.1 rfl ⟨congrArg Value.bool (hq), Below.refl _ _⟩)
                intro vs w5 hb hR
                have e55 : vs 6 = .bool true := hR 6 (by decide)
                clear hR
                simp only [putsL, Nat.zero_add, Nat.reduceAdd, List.take_succ_cons, List.take_zero, Act.put, List.setIfInBounds_toArray, List.set_cons_zero, List.set_cons_succ]
                rw [e55]
                clear e55
-- %end S12a
                go_wp2_with fail
                go_ret
                exact ⟨false, rfl, bthen HB2.out hb HB2.out.size, by simp; intro h; have := h.ge j hj; grind⟩
              · have hq : decide (rcq (sm (fun l => Y l * A l j) m) (L j) < 0) = false := rcq_ltd.trans (decide_eq_false hq0)
-- %S12b
                refine wp_region_each (kss := [[], [], [], [(1, 50), (2, 51)], [(3, 52)], [(0, 49), (4, 53)], [(5, 54)]]) [(8, .pointer (some ⟨g8, 0, none⟩)), (2, .slice (some adL) nl cL), (7, .int .i64 ((j : Int)))] [Rw (bk) (sm (fun l => Y l * A l j) m), fun zz _ => zz = .slice (some adL) nl cL, fun zz _ => zz = .int .i64 ((j : Int)), fun zz _ => zz = .pointer (some (Addr.add adL (j * 3))), Rw (bl) (L j), fun zz _ => zz = .int .i64 (rcq (sm (fun l => Y l * A l j) m) (L j)), fun zz _ => zz = .bool false] (by kernel_rfl) (by kernel_rfl) ⟨rfl, rfl, rfl, trivial⟩ ?_ ?_ ?_
                · exact ⟨fun _ _ _ h hb => h.new hb, fun _ _ _ h _ => h, fun _ _ _ h _ => h, fun _ _ _ h _ => h, fun _ _ _ h hb => h.new hb, fun _ _ _ h _ => h, fun _ _ _ h _ => h, trivial⟩
                · refine ⟨?_, ?_, ?_, ?_, ?_, ?_, ?_, trivial⟩
                  · exact fun aa ww hb he hd => ob_plain rfl (load_bx rfl he.1 (Bx.new HS.out hb))
                  · exact fun aa ww hb he hd => ob_plain rfl (gives_move _ rfl ⟨he.2.1, Below.refl _ _⟩)
                  · exact fun aa ww hb he hd => ob_plain rfl (gives_move _ rfl ⟨he.2.2.1, Below.refl _ _⟩)
                  · exact fun aa ww hb he hd => ob_plain rfl (idx_rs (by omega) rfl hd.1 hd.2.1)
                  · exact fun aa ww hb he hd => ob_plain rfl (load_rw rfl hd.1 (Rs.newW HLs.out (bthen HB2.out hb HB2.out.size)) (by omega))
                  · exact fun aa ww hb he hd => ob_plain rfl (gives_call2 _ _ _ _ rfl (by kernel_rfl) (cmp_v (hd.1) (hd.2.1) (by have := HCap.out; omega)))
                  · exact fun aa ww hb he hd => ob_plain rfl (gives_lt_int (rcq (sm (fun l => Y l * A l j) m) (L j)) 0 .i64 _ _ _ _ rfl hd.1 rfl ⟨congrArg Value.bool (hq), Below.refl _ _⟩)
                intro vs w5 hb hR
                have e55 : vs 6 = .bool false := hR 6 (by decide)
                clear hR
                simp only [putsL, Nat.zero_add, Nat.reduceAdd, List.take_succ_cons, List.take_zero, Act.put, List.setIfInBounds_toArray, List.set_cons_zero, List.set_cons_succ]
                rw [e55]
                clear e55
-- %end S12b
                have HQn := Lib.hid (HQ2.out.keep hb)
                have HBn := Lib.hid (bthen HB2.out hb HB2.out.size)
                clear hq hb HQ2 HB2
                go_wp2_with fail
                go_roundg (G - 1)
                case measure => omega
                case rel => exact ⟨j + 1, by go_num, by omega, Lib.hid ⟨fun l hl => by
                  by_cases hli : l = j
                  · rw [hli]; grind
                  · exact HJ.out l (by omega), HQn.out, HBn.out⟩⟩
        · obtain rfl : n = j := by omega
          go_wp2_with fail
          go_ret
          exact ⟨true, rfl, HB.out, by simp; exact ⟨HPp.out, HJ.out⟩⟩
end Go.Proofs.Ytamcibmjpmibdaa
namespace Go.Proofs.Ytamcibmjpmibdaa
set_option linter.unusedVariables false

theorem sm_mulr (a : Rat) (f : Nat → Rat) (n : Nat) : sm (fun i => f i * a) n = sm f n * a := by
  rw [sm_congr (g := fun i => a * f i) (fun i _ => by grind), sm_mul]; grind
theorem sm_dual (n m : Nat) (A : Nat → Nat → Rat) (x y : Nat → Rat) : sm (fun j => sm (fun i => y i * A i j) m * x j) n = sm (fun i => y i * sm (fun j => A i j * x j) n) m := by
  rw [sm_congr (g := fun j => sm (fun i => y i * A i j * x j) m) (fun j _ => by rw [sm_mulr])]
  rw [sm_swap]
  refine sm_congr fun i _ => ?_
  rw [← sm_mul]
  exact sm_congr fun j _ => by grind
theorem mul_le_r {a b c : Rat} (h : a ≤ b) (hc : 0 ≤ c) : a * c ≤ b * c := Rat.mul_le_mul_of_nonneg_right h hc
theorem mul_le_l {a b c : Rat} (h : a ≤ b) (hc : 0 ≤ c) : c * a ≤ c * b := Rat.mul_le_mul_of_nonneg_left h hc
section
variable {n m : Nat} {A : Nat → Nat → Rat} {B C x y : Nat → Rat}
/-- Weak duality. -/
theorem weak (hx : Primal n m A B x) (hy : DualF n m A C y) : sm (fun j => C j * x j) n ≤ sm (fun i => B i * y i) m := by
  have h1 : sm (fun j => C j * x j) n ≤ sm (fun j => sm (fun i => y i * A i j) m * x j) n := sm_le fun j hj => mul_le_r (hy.ge j hj) (hx.nonneg j hj)
  have h2 : sm (fun i => y i * sm (fun j => A i j * x j) n) m ≤ sm (fun i => B i * y i) m := sm_le fun i hi => by
    have := mul_le_l (hx.le i hi) (hy.nonneg i hi)
    grind
  rw [sm_dual] at h1
  grind
theorem not_inf (hx : Primal n m A B x) (hy : DualF n m A (fun _ => 0) y) (hn : sm (fun i => B i * y i) m < 0) : False := by
  have h := weak hx hy
  rw [sm_zero (fun j _ => by grind)] at h
  grind
theorem not_unb {r : Nat → Rat} (hr : Primal n m A (fun _ => 0) r) (hy : DualF n m A C y) (hp : 0 < sm (fun j => C j * r j) n) : False := by
  have h := weak hr hy
  rw [sm_zero (f := fun i => (0 : Rat) * y i) (fun j _ => by grind)] at h
  grind
variable {out : Nat} {X Y Ray : Nat → Rat} {v : Rat}
theorem Cert.no1 (h : Cert n m A B C out X Y Ray v) (hx : Primal n m A B x) : out ≠ 1 := by
  rcases h with ⟨rfl, _⟩ | ⟨rfl, h1, h2, _⟩ | ⟨rfl, _⟩
  · omega
  · exact absurd (not_inf hx h1 h2) (by simp)
  · omega
theorem Cert.no2 (h : Cert n m A B C out X Y Ray v) (hy : DualF n m A C y) : out ≠ 2 := by
  rcases h with ⟨rfl, _⟩ | ⟨rfl, _⟩ | ⟨rfl, h1, h2, h3, _⟩
  · omega
  · omega
  · exact absurd (not_unb h2 hy h3) (by simp)
theorem Cert.no0 (h : Cert n m A B C out X Y Ray v) {r : Nat → Rat} (hr : Primal n m A (fun _ => 0) r) (hp : 0 < sm (fun j => C j * r j) n) : out ≠ 0 := by
  rcases h with ⟨rfl, h1, h2, _⟩ | ⟨rfl, _⟩ | ⟨rfl, _⟩
  · exact absurd (not_unb hr h2 hp) (by simp)
  · omega
  · omega
theorem Cert.lt (h : Cert n m A B C out X Y Ray v) : out < 3 := by
  rcases h with ⟨rfl, _⟩ | ⟨rfl, _⟩ | ⟨rfl, _⟩ <;> omega
theorem Cert.v0 (h : Cert n m A B C out X Y Ray v) (ho : out ≠ 0) : v = 0 := by
  rcases h with ⟨rfl, _⟩ | ⟨rfl, _, _, h⟩ | ⟨rfl, _, _, _, h⟩
  · omega
  · exact h
  · exact h
theorem Cert.of0 (h : Cert n m A B C 0 X Y Ray v) : Primal n m A B X ∧ DualF n m A C Y ∧ sm (fun j => C j * X j) n = v ∧ sm (fun i => B i * Y i) m = v := by
  rcases h with ⟨_, h⟩ | ⟨h, _⟩ | ⟨h, _⟩
  · exact h
  · omega
  · omega
theorem Cert.of1 (h : Cert n m A B C 1 X Y Ray v) : DualF n m A (fun _ => 0) Y ∧ sm (fun i => B i * Y i) m < 0 ∧ v = 0 := by
  rcases h with ⟨h, _⟩ | ⟨_, h⟩ | ⟨h, _⟩
  · omega
  · exact h
  · omega
theorem Cert.of2 (h : Cert n m A B C 2 X Y Ray v) : Primal n m A B X ∧ Primal n m A (fun _ => 0) Ray ∧ 0 < sm (fun j => C j * Ray j) n ∧ v = 0 := by
  rcases h with ⟨h, _⟩ | ⟨h, _⟩ | ⟨_, h⟩
  · omega
  · omega
  · exact h
theorem Cert.outs (h : Cert n m A B C out X Y Ray v) : out = 0 ∨ out = 1 ∨ out = 2 := by
  have := h.lt; omega
/-- The optimum is its own: any point and dual point of one value. -/
theorem Cert.opt (h : Cert n m A B C out X Y Ray v) (hx : Primal n m A B x) (hy : DualF n m A C y) {u : Rat} (h1 : sm (fun j => C j * x j) n = u) (h2 : sm (fun i => B i * y i) m = u) : out = 0 ∧ v = u := by
  have ho : out = 0 := by have := h.no1 hx; have := h.no2 hy; have := h.lt; omega
  subst ho
  obtain ⟨g1, g2, g3, g4⟩ := h.of0
  have a1 := weak hx g2
  have a2 := weak g1 hy
  refine ⟨rfl, ?_⟩
  grind
/-- The dual problem, as one of the first kind. -/
theorem primal_dual : Primal m n (fun j i => - A i j) (fun j => - C j) y ↔ DualF n m A C y := by
  constructor
  · intro h
    refine ⟨h.nonneg, fun j hj => ?_⟩
    have h1 := h.le j hj
    rw [sm_congr (g := fun i => -(y i * A i j)) (fun i _ => by grind), sm_neg] at h1
    grind
  · intro h
    refine ⟨h.nonneg, fun j hj => ?_⟩
    have h1 := h.ge j hj
    rw [sm_congr (g := fun i => -(y i * A i j)) (fun i _ => by grind), sm_neg]
    grind
theorem dual_primal : DualF m n (fun j i => - A i j) (fun i => - B i) x ↔ Primal n m A B x := by
  constructor
  · intro h
    refine ⟨h.nonneg, fun i hi => ?_⟩
    have h1 := h.ge i hi
    rw [sm_congr (g := fun j => -(A i j * x j)) (fun i _ => by grind), sm_neg] at h1
    grind
  · intro h
    refine ⟨h.nonneg, fun i hi => ?_⟩
    have h1 := h.le i hi
    rw [sm_congr (g := fun j => -(A i j * x j)) (fun i _ => by grind), sm_neg]
    grind
theorem sm_negl (f g : Nat → Rat) (n : Nat) : sm (fun i => - f i * g i) n = - sm (fun i => f i * g i) n := by
  rw [← sm_neg]
  exact sm_congr fun i _ => by grind
variable {out' : Nat} {X' Y' Ray' : Nat → Rat} {v' : Rat}
/-- A problem and its dual. -/
theorem Cert.duals (h : Cert n m A B C out X Y Ray v) (h' : Cert m n (fun j i => - A i j) (fun j => - C j) (fun i => - B i) out' X' Y' Ray' v') :
    (out = 0 → out' = 0 ∧ v' = -v) ∧ (out = 2 → out' = 1) ∧ (out = 1 → out' ≠ 0) := by
  refine ⟨fun ho => ?_, fun ho => ?_, fun ho => ?_⟩
  · subst ho
    obtain ⟨g1, g2, g3, g4⟩ := h.of0
    refine h'.opt (primal_dual.2 g2) (dual_primal.2 g1) ?_ ?_
    · rw [sm_negl, g4]
    · rw [sm_negl, g3]
  · subst ho
    obtain ⟨g1, g2, g3, _⟩ := h.of2
    rcases h'.outs with rfl | rfl | rfl
    · exact absurd (not_unb g2 (primal_dual.1 h'.of0.1) g3) (by simp)
    · rfl
    · exact absurd (not_unb g2 (primal_dual.1 h'.of2.1) g3) (by simp)
  · subst ho
    intro h0
    subst h0
    obtain ⟨g1, g2, _⟩ := h.of1
    exact not_inf (dual_primal.1 h'.of0.2.1) g1 g2
/-- A problem with more constraints: each further one. -/
theorem Cert.tightens {A' : Nat → Nat → Rat} {B' : Nat → Rat} (hA : ∀ i, i < m → A' i = A i) (hB : ∀ i, i < m → B' i = B i) (h : Cert n m A B C out X Y Ray v) (h' : Cert n (m + 1) A' B' C out' X' Y' Ray' v') :
    (out = 1 → out' = 1) ∧ (out = 0 → out' = 1 ∨ (out' = 0 ∧ v' ≤ v)) := by
  have hp : ∀ {x : Nat → Rat}, Primal n (m + 1) A' B' x → Primal n m A B x := fun h => ⟨h.nonneg, fun i hi => by
    have := h.le i (by omega)
    rw [hA i hi, hB i hi] at this
    exact this⟩
  refine ⟨fun ho => ?_, fun ho => ?_⟩
  · subst ho
    obtain ⟨g1, g2, _⟩ := h.of1
    rcases h'.outs with rfl | rfl | rfl
    · exact absurd (not_inf (hp h'.of0.1) g1 g2) (by simp)
    · rfl
    · exact absurd (not_inf (hp h'.of2.1) g1 g2) (by simp)
  · subst ho
    obtain ⟨g1, g2, g3, g4⟩ := h.of0
    have hd : DualF n (m + 1) A' C (fun i => if i < m then Y i else 0) := by
      refine ⟨fun i hi => ?_, fun j hj => ?_⟩
      · by_cases h0 : i < m
        · simp only [if_pos h0]; exact g2.nonneg i h0
        · simp only [if_neg h0]; grind
      · have := g2.ge j hj
        rw [sm, sm_congr (g := fun i => Y i * A i j) (fun i hi => by rw [if_pos hi, hA i hi]), if_neg (Nat.lt_irrefl m)]
        grind
    rcases h'.outs with rfl | rfl | rfl
    · right
      obtain ⟨k1, k2, k3, k4⟩ := h'.of0
      have := weak (hp k1) g2
      exact ⟨rfl, by grind⟩
    · exact .inl rfl
    · exact absurd rfl (h'.no2 hd)
/-- The objective times a positive number. -/
theorem Cert.scale {f : Rat} (hf : 0 < f) (h : Cert n m A B C out X Y Ray v) : Cert n m A B (fun j => C j * f) out X (fun i => if out = 0 then Y i * f else Y i) Ray (v * f) := by
  rcases h with ⟨rfl, h1, h2, h3, h4⟩ | ⟨rfl, h1, h2, h3⟩ | ⟨rfl, h1, h2, h3, h4⟩
  · refine .inl ⟨rfl, h1, ⟨fun i hi => ?_, fun j hj => ?_⟩, ?_, ?_⟩
    · simp only [if_pos]
      have := mul_le_r (h2.nonneg i hi) (Rat.le_of_lt hf)
      grind
    · have := mul_le_r (h2.ge j hj) (Rat.le_of_lt hf)
      rw [← sm_mulr] at this
      rw [sm_congr (g := fun i => Y i * A i j * f) (fun i hi => by simp only [if_pos]; grind)]
      exact this
    · rw [← h3, ← sm_mulr]; exact sm_congr fun j _ => by grind
    · rw [← h4, ← sm_mulr]; exact sm_congr fun j _ => by simp only [if_pos]; grind
  · refine .inr (.inl ⟨rfl, ?_, ?_, by grind⟩)
    · simpa using h1
    · simpa using h2
  · refine .inr (.inr ⟨rfl, h1, h2, ?_, by grind⟩)
    rw [sm_congr (g := fun j => C j * Ray j * f) (fun j _ => by grind), sm_mulr]
    exact Rat.mul_pos h3 hf
/-- A constraint is repeated. -/
theorem Cert.again {A' : Nat → Nat → Rat} {B' : Nat → Rat} {k : Nat} (hk : k < m) (hA : ∀ i, i < m → A' i = A i) (hB : ∀ i, i < m → B' i = B i) (hAm : A' m = A k) (hBm : B' m = B k) (h : Cert n m A B C out X Y Ray v) (h' : Cert n (m + 1) A' B' C out' X' Y' Ray' v') : out' = out ∧ v' = v := by
  have hp : ∀ {x : Nat → Rat}, Primal n m A B x → Primal n (m + 1) A' B' x := fun h => ⟨h.nonneg, fun i hi => by
    by_cases h0 : i < m
    · rw [hA i h0, hB i h0]; exact h.le i h0
    · obtain rfl : i = m := by omega
      rw [hAm, hBm]; exact h.le k hk⟩
  have hp0 : ∀ {x : Nat → Rat}, Primal n m A (fun _ => 0) x → Primal n (m + 1) A' (fun _ => 0) x := fun h => ⟨h.nonneg, fun i hi => by
    by_cases h0 : i < m
    · rw [hA i h0]; exact h.le i h0
    · obtain rfl : i = m := by omega
      rw [hAm]; exact h.le k hk⟩
  have ht := h.tightens hA hB h'
  rcases h.outs with rfl | rfl | rfl
  · obtain ⟨g1, g2, g3, g4⟩ := h.of0
    rcases ht.2 rfl with rfl | ⟨rfl, hv⟩
    · exact absurd rfl (h'.no1 (hp g1))
    · refine ⟨rfl, ?_⟩
      have := weak (hp g1) h'.of0.2.1
      have := h'.of0.2.2.2
      grind
  · have ho := ht.1 rfl
    subst ho
    exact ⟨rfl, by rw [h.of1.2.2, h'.of1.2.2]⟩
  · obtain ⟨g1, g2, g3, g4⟩ := h.of2
    have ho : out' = 2 := by have := h'.no1 (hp g1); have := h'.no0 (hp0 g2) g3; have := h'.lt; omega
    subst ho
    exact ⟨rfl, by rw [g4, h'.of2.2.2.2]⟩
theorem Cert.same (h : Cert n m A B C out X Y Ray v) (h' : Cert n m A B C out' X' Y' Ray' v') : out' = out ∧ v' = v := by
  rcases h.outs with rfl | rfl | rfl
  · obtain ⟨g1, g2, g3, g4⟩ := h.of0
    exact h'.opt g1 g2 g3 g4
  · obtain ⟨g1, g2, g3⟩ := h.of1
    have ho : out' = 1 := by
      rcases h'.outs with rfl | rfl | rfl
      · exact absurd (not_inf h'.of0.1 g1 g2) (by simp)
      · rfl
      · exact absurd (not_inf h'.of2.1 g1 g2) (by simp)
    subst ho
    exact ⟨rfl, by rw [g3, h'.of1.2.2]⟩
  · obtain ⟨g1, g2, g3, g4⟩ := h.of2
    have ho : out' = 2 := by have := h'.no1 g1; have := h'.no0 g2 g3; have := h'.lt; omega
    subst ho
    exact ⟨rfl, by rw [g4, h'.of2.2.2.2]⟩
/-- Scaled and with a constraint repeated. -/
theorem Cert.scales {A' : Nat → Nat → Rat} {B' : Nat → Rat} {k : Nat} {f : Rat} (hf : 0 < f) (hk : k < m) (hA : ∀ i, i < m → A' i = A i) (hB : ∀ i, i < m → B' i = B i) (hAm : A' m = A k) (hBm : B' m = B k) (h : Cert n m A B C out X Y Ray v) (h' : Cert n (m + 1) A' B' (fun j => C j * f) out' X' Y' Ray' v') : out' = out ∧ v' = v * f := by
  have hs := h.scale hf
  exact hs.again hk hA hB hAm hBm h'
theorem Cert.scales0 {f : Rat} (hf : 0 < f) (h : Cert n m A B C out X Y Ray v) (h' : Cert n m A B (fun j => C j * f) out' X' Y' Ray' v') : out' = out ∧ v' = v * f := (h.scale hf).same h'
end
/-- The example of the document. -/
def exA (i j : Nat) : Rat := if i = 0 then (if j = 0 then 1 else 2) else (if j = 0 then 3 else 1)
def exB (i : Nat) : Rat := if i = 0 then 4 else 6
theorem example_opt {out : Nat} {X Y Ray : Nat → Rat} {v : Rat} (h : Cert 2 2 exA exB (fun _ => 1) out X Y Ray v) : out = 0 ∧ v = 14 / 5 := by
  refine h.opt (x := fun j => if j = 0 then 8 / 5 else 6 / 5) (y := fun i => if i = 0 then 2 / 5 else 1 / 5) ⟨fun j hj => ?_, fun i hi => ?_⟩ ⟨fun j hj => ?_, fun i hi => ?_⟩ ?_ ?_
  · have : j = 0 ∨ j = 1 := by omega
    rcases this with rfl | rfl <;> simp <;> grind
  · have : i = 0 ∨ i = 1 := by omega
    rcases this with rfl | rfl <;> simp [sm, exA, exB] <;> grind
  · have : j = 0 ∨ j = 1 := by omega
    rcases this with rfl | rfl <;> simp <;> grind
  · have : i = 0 ∨ i = 1 := by omega
    rcases this with rfl | rfl <;> simp [sm, exA, exB] <;> grind
  · simp [sm]; grind
  · simp [sm, exB]; grind
end Go.Proofs.Ytamcibmjpmibdaa
namespace Go.Proofs.Ytamcibmjpmibdaa
open Go.RowKit
set_option linter.unusedVariables false
set_option linter.unusedSimpArgs false

abbrev UD : Value → World → Prop := fun zz _ => zz = undef
theorem sI {x : Value} : ∀ (v : Value) (w w' : World), (fun (zz : Value) (_ : World) => zz = x) v w → Below w.heap.size w w' → (fun (zz : Value) (_ : World) => zz = x) v w' := fun _ _ _ h _ => h
theorem rcq_eqb {x y : Rat} : (rcq x y == 0) = decide (x = y) := by
  by_cases h : x < y
  · rw [rcq_lt h, decide_eq_false (by grind)]; rfl
  · by_cases h2 : y < x
    · rw [rcq_gt h2, decide_eq_false (by grind)]; rfl
    · rw [rcq_eq (by grind), decide_eq_true (by grind)]; rfl
theorem keq0 {k : Nat} : ((k : Int) == 0) = decide (k = 0) := by
  by_cases h : k = 0
  · subst h; rfl
  · rw [decide_eq_false h]; simp; exact h
theorem sign_ltd {x : Rat} : decide (x.num.sign < 0) = decide (x < 0) := sign_lt
theorem sign_gtd {x : Rat} : decide (x.num.sign > 0) = decide (0 < x) := by
  rcases sign_cases x with ⟨h1, h2⟩ | ⟨h1, h2⟩ | ⟨h1, h2⟩ <;> rw [h2]
  · rw [decide_eq_false (show ¬ 0 < x by grind)]; rfl
  · rw [decide_eq_false (show ¬ 0 < x by grind)]; rfl
  · rw [decide_eq_true (show 0 < x by grind)]; rfl
section
variable {o : Oper} {a : Act} {w : World} {t u : Tmp}
theorem RB.newW {w w' : World} {g n b : Nat} {f : Nat → Rat} (h : RB w g n (PW w b f)) (hb : Below w.heap.size w w') : RB w' g n (PW w' b f) := h.below hb fun _ _ _ hv => PW.keep hv (KeepsN.below hb)
theorem gives_mkrat {n : Nat} {x y : Operand} (ho : o.op = .makeSlice 28 x y) (hx : a.eval x = .int .i64 (n : Int)) (hy : a.eval y = .int .i64 (n : Int)) (hn : n ≤ 1000000) : gives Try.prog o a.eval w (fun v w' => (∃ g, v = .slice (some ⟨g, 0, none⟩) n n ∧ RB w' g n (PW w' 1 (fun _ => 0))) ∧ Below w.heap.size w w') := by
  have h : (execOp a.eval o).run Try.prog w = .ok (.value (.slice (some ⟨w.heap.size, 0, none⟩) n n)) (w.alloc (.cells (zrow n) 41)) := by
    unfold execOp
    rw [ho]
    simp only [hx, hy]
    simp [Sem.run_bind, mk_rat n hn w]
  unfold gives
  rw [h]
  exact ⟨⟨_, rfl, rb_zrow w n _ (fun _ _ => rw_zero _)⟩, al _ _⟩
theorem gives_built3 {ty : TypeId} {i j k : Nat} {x y z : Operand} {u v r : Value} {cells : Array Value} (ho : o.op = .build ty #[(i, x), (j, y), (k, z)]) (hx : a.eval x = u) (hy : a.eval y = v) (hz : a.eval z = r) (hf : Try.prog.built ty [(i, u), (j, v), (k, r)] = some cells) : gives Try.prog o a.eval w (fun v w' => v = .agg cells ∧ Below w.heap.size w w') := by
  refine gives_val (.agg cells) ?_ ⟨rfl, Below.refl _ _⟩
  have e : (#[(i, x), (j, y), (k, z)].map fun (i, x) => (i, a.eval x)).toList = [(i, u), (j, v), (k, r)] := by simp [hx, hy, hz]
  unfold execOp
  simp only [ho, Sem.run_bind]
  rw [run_build w ty _ cells (by rw [e]; exact hf)]
  rfl
theorem gives_built2 {ty : TypeId} {i j : Nat} {x y : Operand} {u v : Value} {cells : Array Value} (ho : o.op = .build ty #[(i, x), (j, y)]) (hx : a.eval x = u) (hy : a.eval y = v) (hf : Try.prog.built ty [(i, u), (j, v)] = some cells) : gives Try.prog o a.eval w (fun v w' => v = .agg cells ∧ Below w.heap.size w w') := by
  refine gives_val (.agg cells) ?_ ⟨rfl, Below.refl _ _⟩
  have e : (#[(i, x), (j, y)].map fun (i, x) => (i, a.eval x)).toList = [(i, u), (j, v)] := by simp [hx, hy]
  unfold execOp
  simp only [ho, Sem.run_bind]
  rw [run_build w ty _ cells (by rw [e]; exact hf)]
  rfl
/-- A new box for a problem. -/
def Zp (B : Nat) (v : Value) (w : World) : Prop := ∃ g, v = .pointer (some ⟨g, 0, none⟩) ∧ B ≤ g ∧ Blk w g 31 #[.slice none 0 0, .slice none 0 0, .slice none 0 0]
theorem Zp.new {B : Nat} {v : Value} {w w' : World} (h : Zp B v w) (hb : Below w.heap.size w w') : Zp B v w' := by
  obtain ⟨g, h1, h2, h3⟩ := h
  exact ⟨g, h1, h2, h3.keep hb⟩
theorem alloc_prb {w0 : World} (ho : o.op = .alloc 31) (hb : Below w0.heap.size w0 w) : gives Try.prog o a.eval w (fun v w' => (Zp w0.heap.size v w' ∧ Below w.heap.size w w') ∧ Fresh v w w') := by
  have hr : (execOp a.eval o).run Try.prog w = .ok (.value (.pointer (some ⟨w.heap.size, 0, none⟩))) (w.alloc (.cells #[.slice none 0 0, .slice none 0 0, .slice none 0 0] 31)) := by
    unfold execOp
    rw [ho]
    go_simp
  unfold gives
  rw [hr]
  exact ⟨⟨⟨_, rfl, hb.size, Blk.new _ _ _⟩, al _ _⟩, _, rfl, Nat.le_refl _, by simp⟩
theorem fld_sol {g k : Nat} (ho : o.op = .fieldAddr 43 (.tmp t) k) (hk : k < 5) (h : tv a t = .pointer (some ⟨g, 0, none⟩)) : gives Try.prog o a.eval w (fun v w' => v = .pointer (some ⟨g, k, none⟩) ∧ Below w.heap.size w w') := by
  refine gives_val (.pointer (some ⟨g, k, none⟩)) ?_ ⟨rfl, Below.refl _ _⟩
  have : k = 0 ∨ k = 1 ∨ k = 2 ∨ k = 3 ∨ k = 4 := by omega
  rcases this with rfl | rfl | rfl | rfl | rfl <;> (unfold execOp; rw [ho]; simp only [eval_tmp, h]; go_simp)
theorem load_sv {g b : Nat} {x : Rat} {v0 v1 v2 v3 : Value} {s : Bool} {A B : Option Addr} {k c m d : Nat} (ho : o.op = .load 41 (.tmp t)) (hx : tv a t = .pointer (some ⟨g, 4, none⟩)) (hb : Blk w g 43 #[v0, v1, v2, v3, .bool s, .slice A k c, .slice B m d]) (hv : Rw b x (.agg #[.bool s, .slice A k c, .slice B m d]) w) : gives Try.prog o a.eval w (fun v w' => Rw b x v w' ∧ Below w.heap.size w w') := by
  have hl := run_load_rat w ⟨g, 4, none⟩ (.bool s) (.slice A k c) (.slice B m d) (by rw [hb.cell]; rfl) (by show w.cell? ⟨g, 5, none⟩ = _; rw [hb.cell]; rfl) (by show w.cell? ⟨g, 6, none⟩ = _; rw [hb.cell]; rfl)
  refine gives_val (.agg #[.bool s, .slice A k c, .slice B m d]) ?_ ⟨hv, Below.refl _ _⟩
  unfold execOp
  rw [ho]
  simp only [eval_tmp, hx, Instr.loadAt, Instr.sureAddr, Sem.run_bind, Sem.run_pure, Result.andThen_ok, hl]
theorem load_sol {g : Nat} {v0 v1 v2 v3 v4 v5 v6 : Value} (ho : o.op = .load 43 (.tmp t)) (hx : tv a t = .pointer (some ⟨g, 0, none⟩)) (hb : Blk w g 43 #[v0, v1, v2, v3, v4, v5, v6]) : gives Try.prog o a.eval w (fun v w' => v = .agg #[v0, v1, v2, v3, v4, v5, v6] ∧ Below w.heap.size w w') :=
  gives_load_blk 43 (.tmp t) ho g 43 _ _ hx hb Try.underlying43 rfl (by kernel_rfl) ⟨rfl, Below.refl _ _⟩
end
theorem built_prb (AC AA AB : Option Addr) (n cC m cA k cB : Nat) : Try.prog.built 31 [(0, .slice AC n cC), (1, .slice AA m cA), (2, .slice AB k cB)] = some #[.slice AC n cC, .slice AA m cA, .slice AB k cB] := by kernel_rfl
/-- Stored whole: a problem into its box. -/
theorem store_prb {o : Oper} {a : Act} {w : World} {t u : Tmp} {g : Nat} {v0 v1 v2 u0 u1 u2 : Value} {K : Act → World → Prop} {Q : Exit → Act → World → Prop} (ho : o.op = .store 31 (.tmp t) (.tmp u)) (hd : o.dst = none) (ht : a.eval (.tmp t) = .pointer (some ⟨g, 0, none⟩)) (hu : a.eval (.tmp u) = .agg #[u0, u1, u2])
    (hr : Blk w g 31 #[v0, v1, v2]) (hcl : ∀ u ∈ [v0, v1, v2], ∀ x, u ≠ .int .u32 x) (h1 : #[u0, u1, u2].all (·.oneCell') = true)
    (next : ∀ w', KeepsN w w' → w.grownBy w' (some g) → w'.heap.size = w.heap.size → Blk w' g 31 #[u0, u1, u2] → K a w') : o.wp Try.prog a w K Q := by
  refine wp_store_mid 31 (.tmp t) (.tmp u) ho g 0 #[u0, u1, u2] ht hu (fun i hi => ⟨?_, hr.frozen _⟩) (by kernel_rfl) h1 ?_
  · rw [hr.cell]
    have hi7 : i < 3 := by simpa using hi
    rw [Nat.zero_add, Array.getElem?_eq_getElem hi7]; rfl
  · rw [hd]
    have b0 : Blk (w.setCell ⟨g, 0, none⟩ u0) g 31 #[u0, v1, v2] := hr.set_ 0 u0
    have b1 : Blk ((w.setCell ⟨g, 0, none⟩ u0).setCell ⟨g, 1, none⟩ u1) g 31 #[u0, u1, v2] := b0.set_ 1 u1
    have b2 : Blk (((w.setCell ⟨g, 0, none⟩ u0).setCell ⟨g, 1, none⟩ u1).setCell ⟨g, 2, none⟩ u2) g 31 #[u0, u1, u2] := b1.set_ 2 u2
    have q0 : ∀ x, v0 ≠ .int .u32 x := hcl v0 (by simp)
    have q1 : ∀ x, v1 ≠ .int .u32 x := hcl v1 (by simp)
    have q2 : ∀ x, v2 ≠ .int .u32 x := hcl v2 (by simp)
    have kp := ((KeepsN.blk hr (i := 0) (by show 0 < 3; omega) (by intro x; simpa using q0 x) u0).trans
      (KeepsN.blk b0 (i := 1) (by show 1 < 3; omega) (by intro x; simpa using q1 x) u1)).trans
      (KeepsN.blk b1 (i := 2) (by show 2 < 3; omega) (by intro x; simpa using q2 x) u2)
    exact next _ kp (only_setCells _ _ _ (World.grownBy.refl w _)) (by show (((w.setCell _ _).setCell _ _).setCell _ _).heap.size = _; simp only [size_setCell]) b2
end Go.Proofs.Ytamcibmjpmibdaa
