/-
Contract of cover.Check. Printed by gen/scv.py.
The walk of CoverFinds. Printed by gen/scv.py.
Contract of law29.made. Printed by gen/scv.py.
-/
import Derived.Test.YtpnklmgfdihjfaaK14
import Derived.Test.YtpnklmgfdihjfaaK15
import Derived.Test.YtpnklmgfdihjfaaK16
namespace Go.Proofs.Ytpnklmgfdihjfaa
open Go.RowKit
set_option linter.unusedVariables false
set_option linter.unusedSimpArgs false

/-- The memory while Check runs: B is the answer so far. -/
structure CkS (n : Int) (len ce : Nat) (AE : Option Addr) (es : List Nat) (s : Nat) (AW : Option Addr) (mW cw : Nat) (AP : Option Addr) (nP cp : Nat) (s0 : Bool) (A0 : Option Addr) (k0 c0 : Nat) (B0 : Option Addr) (m0 d0 : Nat) (W P : Nat → Rat) (x : Rat) (b g3 g4 g5 g7 g8 g9 : Nat) (w0 : World) (B : Bool) (w : World) : Prop where
  cr : Blk w g7 4 #[.bool B]
  fn : Blk w g9 103 #[.func (.func 55) #[] #[.pointer (some ⟨g7, 0, none⟩)]]
  gr : Blk w g3 24 #[.int .i64 n, .slice AE len ce]
  st : Blk w g4 25 #[.int .u32 (s : Int)]
  cv : Blk w g5 33 #[.slice AW mW cw, .slice AP nP cp, .bool s0, .slice A0 k0 c0, .slice B0 m0 d0]
  one : Bn 2 1 g8 w
  es : Es w w0.heap.size AE len es
  rw : Rs w w0.heap.size AW mW (PW w b W)
  rp : Rs w w0.heap.size AP nP (PW w b P)
  v : Rw b x (.agg #[.bool s0, .slice A0 k0 c0, .slice B0 m0 d0]) w
  hb : Below w0.heap.size w0 w
  lo : w0.heap.size ≤ g7
section
variable {n : Int} {len ce : Nat} {AE : Option Addr} {es : List Nat} {s : Nat} {AW : Option Addr} {mW cw : Nat} {AP : Option Addr} {nP cp : Nat} {s0 : Bool} {A0 : Option Addr} {k0 c0 : Nat} {B0 : Option Addr} {m0 d0 : Nat} {W P : Nat → Rat} {x : Rat} {b g3 g4 g5 g7 g8 g9 : Nat} {w0 w w' : World} {B B' : Bool}
theorem CkS.below (h : CkS n len ce AE es s AW mW cw AP nP cp s0 A0 k0 c0 B0 m0 d0 W P x b g3 g4 g5 g7 g8 g9 w0 B w) (hb : Below w.heap.size w w') : CkS n len ce AE es s AW mW cw AP nP cp s0 A0 k0 c0 B0 m0 d0 W P x b g3 g4 g5 g7 g8 g9 w0 B w' :=
  ⟨h.cr.keep hb, h.fn.keep hb, h.gr.keep hb, h.st.keep hb, h.cv.keep hb, h.one.new hb, ⟨h.es.1.grown (only_of_below hb none) h.hb.size (fun _ e => by cases e), h.es.2⟩, Rs.grownB h.rw (only_of_below hb none) h.hb.size (fun _ e => by cases e) (KeepsN.below hb), Rs.grownB h.rp (only_of_below hb none) h.hb.size (fun _ e => by cases e) (KeepsN.below hb), h.v.new hb, bthen h.hb hb h.hb.size, h.lo⟩
theorem CkS.req (h : CkS n len ce AE es s AW mW cw AP nP cp s0 A0 k0 c0 B0 m0 d0 W P x b g3 g4 g5 g7 g8 g9 w0 B w) (hq : RqE g7 B' w w') : CkS n len ce AE es s AW mW cw AP nP cp s0 A0 k0 c0 B0 m0 d0 W P x b g3 g4 g5 g7 g8 g9 w0 B' w' := by
  obtain ⟨h1, hg, kp⟩ := hq
  have lt : ∀ k, some g7 = some k → w0.heap.size ≤ k := fun k e => by cases e; exact h.lo
  have on := h.one
  obtain ⟨s1, A1, n1, c1, B1, m1, d1, h8, -⟩ := h.one
  exact ⟨h1, h.fn.grown hg (fun e => by injection e with e; exact Blk.ne_ h.fn h.cr (by decide) e), h.gr.grown hg (fun e => by injection e with e; exact Blk.ne_ h.gr h.cr (by decide) e), h.st.grown hg (fun e => by injection e with e; exact Blk.ne_ h.st h.cr (by decide) e), h.cv.grown hg (fun e => by injection e with e; exact Blk.ne_ h.cv h.cr (by decide) e), on.grown9 hg (Blk.ne_ h8.blk3 h.cr (by decide)) kp, ⟨h.es.1.grown hg h.hb.size lt, h.es.2⟩, Rs.grownB h.rw hg h.hb.size lt kp, Rs.grownB h.rp hg h.hb.size lt kp, h.v.keepN kp, h.hb.grown hg h.hb.size lt, h.lo⟩
end
theorem ck_and {B : Bool} {f : Nat → Bool} {i : Nat} : (B && allB f i && f i) = (B && allB f (i + 1)) := by rw [Bool.and_assoc]; rfl
theorem ck_fit {b n : Nat} (hb : b ≤ 500) (hn : n ≤ 7) : 2 + n * (b + 1) + b ≤ 4200 := by
  have := Nat.mul_le_mul hn (show b + 1 ≤ 501 by omega); omega
/-- What Check answers. -/
def CkV (n : Int) (es : List Nat) (len s mW nP : Nat) (W P : Nat → Rat) (x : Rat) (v : Value) : Prop := ∃ t : Bool, v = .bool t ∧ (t = true ↔ checkCode n es = 0 ∧ andn s (2 ^ n.toNat - 1) = 0 ∧ mW = len ∧ nP = n.toNat ∧ CovOK n.toNat len (nth es) s W P x)
set_option maxRecDepth 100000 in
set_option maxHeartbeats 8000000 in
theorem cvcheck_any (n : Int) (len ce s mW cw nP cp b : Nat) (AE AW AP : Option Addr) (s0 : Bool) (A0 B0 : Option Addr) (k0 c0 m0 d0 : Nat) (es : List Nat) (W P : Nat → Rat) (x : Rat) (w : World) (hE : Es w w.heap.size AE len es) (hs : s < 4294967296)
    (hW : Rs w w.heap.size AW mW (PW w b W)) (hP : Rs w w.heap.size AP nP (PW w b P)) (hV : Rw b x (.agg #[.bool s0, .slice A0 k0 c0, .slice B0 m0 d0]) w) (hb0 : b ≤ 500) (hgr : checkCode n es = 0 → n ≤ 6 ∧ len ≤ 7) :
    Calls Try.prog 31 #[.agg #[.int .i64 n, .slice AE len ce], .int .u32 (s : Int), .agg #[.slice AW mW cw, .slice AP nP cp, .bool s0, .slice A0 k0 c0, .slice B0 m0 d0]] w (RV w (fun v _ => CkV n es len s mW nP W P x v)) := by
  have HBd := Lib.hid hb0
  have HE0 := Lib.hid hE; have HW0 := Lib.hid hW; have HP0 := Lib.hid hP; have HV0 := Lib.hid hV; have HS32 := Lib.hid hs; have HGr := Lib.hid hgr; clear hE hW hP hV hs hgr
  have hK2 : Enters 57 := enters (by kernel_rfl)
  have hK3 : Enters 58 := enters (by kernel_rfl)
  have hK4 : Enters 60 := enters (by kernel_rfl)
  have hK5 : Enters 61 := enters (by kernel_rfl)
  have hK6 : Enters 62 := enters (by kernel_rfl)
  have HK := Lib.hid (And.intro hK2 (And.intro hK3 (And.intro hK4 (And.intro hK5 hK6)))); clear hK2 hK3 hK4 hK5 hK6
  go_enter Try.func31, Try.ntmps31
  go_upto_region 1 with (fail)
  have hbw := bthen (bthen (al w (.cells #[.int .i64 n, .slice AE len ce] 24)) (al _ (.cells #[.int .u32 (s : Int)] 25)) (by simp)) (al _ (.cells #[.slice AW mW cw, .slice AP nP cp, .bool s0, .slice A0 k0 c0, .slice B0 m0 d0] 33)) (by simp; omega)
  have HG := Lib.hid (((Blk.new w 24 #[.int .i64 n, .slice AE len ce]).keep (al _ (.cells #[.int .u32 (s : Int)] 25))).keep (al _ (.cells #[.slice AW mW cw, .slice AP nP cp, .bool s0, .slice A0 k0 c0, .slice B0 m0 d0] 33)))
  have HS := Lib.hid ((Blk.new (w.alloc (.cells #[.int .i64 n, .slice AE len ce] 24)) 25 #[.int .u32 (s : Int)]).keep (al _ (.cells #[.slice AW mW cw, .slice AP nP cp, .bool s0, .slice A0 k0 c0, .slice B0 m0 d0] 33)))
  rw [show (w.alloc (.cells #[.int .i64 n, .slice AE len ce] 24)).heap.size = w.heap.size + 1 from by simp] at HS
  have HC := Lib.hid (Blk.new ((w.alloc (.cells #[.int .i64 n, .slice AE len ce] 24)).alloc (.cells #[.int .u32 (s : Int)] 25)) 33 #[.slice AW mW cw, .slice AP nP cp, .bool s0, .slice A0 k0 c0, .slice B0 m0 d0])
  rw [show ((w.alloc (.cells #[.int .i64 n, .slice AE len ce] 24)).alloc (.cells #[.int .u32 (s : Int)] 25)).heap.size = w.heap.size + 1 + 1 from by simp] at HC
  have HB := Lib.hid hbw
  clear hbw
  generalize ((w.alloc (.cells #[.int .i64 n, .slice AE len ce] 24)).alloc (.cells #[.int .u32 (s : Int)] 25)).alloc (.cells #[.slice AW mW cw, .slice AP nP cp, .bool s0, .slice A0 k0 c0, .slice B0 m0 d0] 33) = w1 at *
  obtain ⟨g3, hg3⟩ : ∃ g3, g3 = w.heap.size := ⟨_, rfl⟩
  obtain ⟨g4, hg4⟩ : ∃ g4, g4 = w.heap.size + 1 := ⟨_, rfl⟩
  obtain ⟨g5, hg5⟩ : ∃ g5, g5 = w.heap.size + 1 + 1 := ⟨_, rfl⟩
  rw [← hg5] at HC ⊢
  rw [← hg4] at HS ⊢
  rw [← hg3] at HG ⊢
  have HGg3 := Lib.hid (show w.heap.size ≤ g3 ∧ w.heap.size ≤ g4 ∧ w.heap.size ≤ g5 from by omega)
  clear hg3 hg4 hg5
  by_cases hc : checkCode n es = 0
  rotate_left
  · skip
    refine wp_region_each (kss := [[], [(0, 16)], [(1, 17)], [(2, 18)], [(3, 19)], [(3, 19)], [(3, 19), (5, 21)], [(3, 19), (4, 20), (6, 22)], [(3, 19), (7, 23)], [(3, 19), (8, 24)], [(9, 25)], [(10, 26)], [(10, 26), (11, 27)], [(10, 26), (12, 28)], [(10, 26)], [(10, 26), (14, 30)], [(10, 26), (15, 31)], [(10, 26), (13, 29), (16, 32)], [(10, 26), (17, 33)], [(18, 34)], [(19, 35)], [(19, 35), (20, 36)], [(19, 35), (21, 37)], [(19, 35)], [(19, 35), (23, 39)], [(19, 35), (22, 38), (24, 40)], [(19, 35), (25, 41)]]) [(3, .pointer (some ⟨g3, 0, none⟩)), (4, .pointer (some ⟨g4, 0, none⟩)), (5, .pointer (some ⟨g5, 0, none⟩))] [EV (.agg #[.int .i64 n, .slice AE len ce]), EV (.int .i64 ((checkCode n es))), EV (.bool true), EV (.bool true), EV (undef), EV (undef), EV (undef), EV (undef), EV (undef), EV (.bool true), EV (.bool true), EV (undef), EV (undef), EV (undef), EV (undef), EV (undef), EV (undef), EV (undef), EV (.bool true), EV (.bool true), EV (undef), EV (undef), EV (undef), EV (undef), EV (undef), EV (undef), EV (.bool true)] (by kernel_rfl) (by kernel_rfl) ⟨rfl, rfl, rfl, trivial⟩ ?_ ?_ ?_
    · exact ⟨eI, eI, eI, eI, eI, eI, eI, eI, eI, eI, eI, eI, eI, eI, eI, eI, eI, eI, eI, eI, eI, eI, eI, eI, eI, eI, eI, trivial⟩
    · refine ⟨?_, ?_, ?_, ?_, ?_, ?_, ?_, ?_, ?_, ?_, ?_, ?_, ?_, ?_, ?_, ?_, ?_, ?_, ?_, ?_, ?_, ?_, ?_, ?_, ?_, ?_, ?_, trivial⟩
      · exact fun aa ww hb he hd => ob_plain rfl (load_hgr rfl he.1 (Blk.keep HG.out hb))
      · exact fun aa ww hb he hd => ob_plain rfl (gives_call1 _ _ _ rfl (by kernel_rfl) (by rw [show aa.eval (.tmp 16) = _ from hd.1]; exact rv_one (check_any n AE es len ce _ ((HE0.out.below (bthen HB.out hb HB.out.size)).more (bthen HB.out hb HB.out.size).size))))
      · exact fun aa ww hb he hd => ob_plain rfl (gives_ne_int ((checkCode n es)) 0 .i64 _ _ _ _ rfl hd.1 rfl ⟨congrArg Value.bool (by simpa using hc), Below.refl _ _⟩)
      · exact fun _ _ _ he hd => ob_mv rfl rfl hd.1
      · exact fun aa ww hb he hd => ob_off 19 rfl (by kernel_rfl) hd.1 rfl
      · exact fun aa ww hb he hd => ob_off 19 rfl (by kernel_rfl) hd.1 rfl
      · exact fun aa ww hb he hd => ob_off 19 rfl (by kernel_rfl) hd.1 rfl
      · exact fun aa ww hb he hd => ob_off 19 rfl (by kernel_rfl) hd.1 rfl
      · exact fun aa ww hb he hd => ob_off 19 rfl (by kernel_rfl) hd.1 rfl
      · exact fun aa ww hb he hd => ob_plain rfl (gives_pick true _ _ _ rfl hd.1 ⟨rfl, Below.refl _ _⟩)
      · exact fun _ _ _ he hd => ob_mv rfl rfl hd.1
      · exact fun aa ww hb he hd => ob_off 26 rfl (by kernel_rfl) hd.1 rfl
      · exact fun aa ww hb he hd => ob_off 26 rfl (by kernel_rfl) hd.1 rfl
      · exact fun aa ww hb he hd => ob_off 26 rfl (by kernel_rfl) hd.1 rfl
      · exact fun aa ww hb he hd => ob_off 26 rfl (by kernel_rfl) hd.1 rfl
      · exact fun aa ww hb he hd => ob_off 26 rfl (by kernel_rfl) hd.1 rfl
      · exact fun aa ww hb he hd => ob_off 26 rfl (by kernel_rfl) hd.1 rfl
      · exact fun aa ww hb he hd => ob_off 26 rfl (by kernel_rfl) hd.1 rfl
      · exact fun aa ww hb he hd => ob_plain rfl (gives_pick true _ _ _ rfl hd.1 ⟨rfl, Below.refl _ _⟩)
      · exact fun _ _ _ he hd => ob_mv rfl rfl hd.1
      · exact fun aa ww hb he hd => ob_off 35 rfl (by kernel_rfl) hd.1 rfl
      · exact fun aa ww hb he hd => ob_off 35 rfl (by kernel_rfl) hd.1 rfl
      · exact fun aa ww hb he hd => ob_off 35 rfl (by kernel_rfl) hd.1 rfl
      · exact fun aa ww hb he hd => ob_off 35 rfl (by kernel_rfl) hd.1 rfl
      · exact fun aa ww hb he hd => ob_off 35 rfl (by kernel_rfl) hd.1 rfl
      · exact fun aa ww hb he hd => ob_off 35 rfl (by kernel_rfl) hd.1 rfl
      · exact fun aa ww hb he hd => ob_plain rfl (gives_pick true _ _ _ rfl hd.1 ⟨rfl, Below.refl _ _⟩)
    intro vs w2 hb hR
    have e42 : vs 26 = .bool true := hR 26 (by decide)
    clear hR
    simp only [putsL, Nat.zero_add, Nat.reduceAdd, List.take_succ_cons, List.take_zero, Act.put, List.setIfInBounds_toArray, List.set_cons_zero, List.set_cons_succ]
    rw [e42]
    clear e42
    replace HB := Lib.hid (bthen HB.out hb HB.out.size)
    replace HG := Lib.hid (HG.out.keep hb)
    replace HS := Lib.hid (HS.out.keep hb)
    replace HC := Lib.hid (HC.out.keep hb)
    clear hb
    go_wp2_with fail
    go_ret
    refine ⟨_, rfl, ⟨false, rfl, ?_⟩, HB.out⟩
    exact ⟨fun h => absurd h (by decide), fun h => absurd h.1 hc⟩
  obtain ⟨h0, -, -, -⟩ := checkCode_zero hc
  obtain ⟨hn6, hl7⟩ := HGr.out hc
  have HNn := Lib.hid (show n = ((n.toNat : Nat) : Int) by omega)
  have HN6 := Lib.hid (show n.toNat ≤ 6 by omega)
  have hpow : 2 ^ n.toNat ≤ 64 := Nat.le_trans (Nat.pow_le_pow_right (by decide) HN6.out) (by decide)
  have HMk := Lib.hid (show 2 ^ n.toNat - 1 < 4294967296 by omega)
  clear hpow h0 hn6
  by_cases hr : andn s (2 ^ n.toNat - 1) = 0
  rotate_left
  · skip
    refine wp_region_each (kss := [[], [(0, 16)], [(1, 17)], [(2, 18)], [(3, 19)], [(3, 19)], [(3, 19), (5, 21)], [(3, 19), (4, 20), (6, 22)], [(3, 19), (7, 23)], [(3, 19), (8, 24)], [(9, 25)], [(10, 26)], [(10, 26), (11, 27)], [(10, 26), (12, 28)], [(10, 26)], [(10, 26), (14, 30)], [(10, 26), (15, 31)], [(10, 26), (13, 29), (16, 32)], [(10, 26), (17, 33)], [(18, 34)], [(19, 35)], [(19, 35), (20, 36)], [(19, 35), (21, 37)], [(19, 35)], [(19, 35), (23, 39)], [(19, 35), (22, 38), (24, 40)], [(19, 35), (25, 41)]]) [(3, .pointer (some ⟨g3, 0, none⟩)), (4, .pointer (some ⟨g4, 0, none⟩)), (5, .pointer (some ⟨g5, 0, none⟩))] [EV (.agg #[.int .i64 n, .slice AE len ce]), EV (.int .i64 ((checkCode n es))), EV (.bool false), EV (.bool false), EV (.int .u32 ((s : Int))), EV (.agg #[.int .i64 n, .slice AE len ce]), EV (.int .u32 (((2 ^ n.toNat - 1 : Nat) : Int))), EV (.int .u32 (((andn s (2 ^ n.toNat - 1) : Nat) : Int))), EV (.bool true), EV (.bool true), EV (.bool true), EV (undef), EV (undef), EV (undef), EV (undef), EV (undef), EV (undef), EV (undef), EV (.bool true), EV (.bool true), EV (undef), EV (undef), EV (undef), EV (undef), EV (undef), EV (undef), EV (.bool true)] (by kernel_rfl) (by kernel_rfl) ⟨rfl, rfl, rfl, trivial⟩ ?_ ?_ ?_
    · exact ⟨eI, eI, eI, eI, eI, eI, eI, eI, eI, eI, eI, eI, eI, eI, eI, eI, eI, eI, eI, eI, eI, eI, eI, eI, eI, eI, eI, trivial⟩
    · refine ⟨?_, ?_, ?_, ?_, ?_, ?_, ?_, ?_, ?_, ?_, ?_, ?_, ?_, ?_, ?_, ?_, ?_, ?_, ?_, ?_, ?_, ?_, ?_, ?_, ?_, ?_, ?_, trivial⟩
      · exact fun aa ww hb he hd => ob_plain rfl (load_hgr rfl he.1 (Blk.keep HG.out hb))
      · exact fun aa ww hb he hd => ob_plain rfl (gives_call1 _ _ _ rfl (by kernel_rfl) (by rw [show aa.eval (.tmp 16) = _ from hd.1]; exact rv_one (check_any n AE es len ce _ ((HE0.out.below (bthen HB.out hb HB.out.size)).more (bthen HB.out hb HB.out.size).size))))
      · exact fun aa ww hb he hd => ob_plain rfl (gives_ne_int ((checkCode n es)) 0 .i64 _ _ _ _ rfl hd.1 rfl ⟨congrArg Value.bool (by simpa using hc), Below.refl _ _⟩)
      · exact fun _ _ _ he hd => ob_mv rfl rfl hd.1
      · exact fun aa ww hb he hd => ob_on 19 rfl (by kernel_rfl) hd.1 (load_u9 rfl he.2.1 (Blk.at0 HS.out hb))
      · exact fun aa ww hb he hd => ob_on 19 rfl (by kernel_rfl) hd.1 (load_hgr rfl he.1 (Blk.keep HG.out hb))
      · exact fun aa ww hb he hd => ob_on 19 rfl (by kernel_rfl) hd.1 (gives_call1 _ _ _ rfl (by kernel_rfl) (by rw [show aa.eval (.tmp 21) = _ from hd.2.1, HNn.out]; exact vertices_any n.toNat len ce AE HN6.out _))
      · exact fun aa ww hb he hd => ob_on 19 rfl (by kernel_rfl) hd.1 (andnot_u9 HS32.out HMk.out rfl hd.2.1 hd.2.2.1)
      · exact fun aa ww hb he hd => ob_on 19 rfl (by kernel_rfl) hd.1 (gives_ne_int (((andn s (2 ^ n.toNat - 1) : Nat) : Int)) 0 .u32 _ _ _ _ rfl hd.2.1 rfl ⟨congrArg Value.bool (by simpa using hr), Below.refl _ _⟩)
      · exact fun aa ww hb he hd => ob_plain rfl (gives_pick false _ _ _ rfl hd.1 ⟨hd.2.1, Below.refl _ _⟩)
      · exact fun _ _ _ he hd => ob_mv rfl rfl hd.1
      · exact fun aa ww hb he hd => ob_off 26 rfl (by kernel_rfl) hd.1 rfl
      · exact fun aa ww hb he hd => ob_off 26 rfl (by kernel_rfl) hd.1 rfl
      · exact fun aa ww hb he hd => ob_off 26 rfl (by kernel_rfl) hd.1 rfl
      · exact fun aa ww hb he hd => ob_off 26 rfl (by kernel_rfl) hd.1 rfl
      · exact fun aa ww hb he hd => ob_off 26 rfl (by kernel_rfl) hd.1 rfl
      · exact fun aa ww hb he hd => ob_off 26 rfl (by kernel_rfl) hd.1 rfl
      · exact fun aa ww hb he hd => ob_off 26 rfl (by kernel_rfl) hd.1 rfl
      · exact fun aa ww hb he hd => ob_plain rfl (gives_pick true _ _ _ rfl hd.1 ⟨rfl, Below.refl _ _⟩)
      · exact fun _ _ _ he hd => ob_mv rfl rfl hd.1
      · exact fun aa ww hb he hd => ob_off 35 rfl (by kernel_rfl) hd.1 rfl
      · exact fun aa ww hb he hd => ob_off 35 rfl (by kernel_rfl) hd.1 rfl
      · exact fun aa ww hb he hd => ob_off 35 rfl (by kernel_rfl) hd.1 rfl
      · exact fun aa ww hb he hd => ob_off 35 rfl (by kernel_rfl) hd.1 rfl
      · exact fun aa ww hb he hd => ob_off 35 rfl (by kernel_rfl) hd.1 rfl
      · exact fun aa ww hb he hd => ob_off 35 rfl (by kernel_rfl) hd.1 rfl
      · exact fun aa ww hb he hd => ob_plain rfl (gives_pick true _ _ _ rfl hd.1 ⟨rfl, Below.refl _ _⟩)
    intro vs w2 hb hR
    have e42 : vs 26 = .bool true := hR 26 (by decide)
    clear hR
    simp only [putsL, Nat.zero_add, Nat.reduceAdd, List.take_succ_cons, List.take_zero, Act.put, List.setIfInBounds_toArray, List.set_cons_zero, List.set_cons_succ]
    rw [e42]
    clear e42
    replace HB := Lib.hid (bthen HB.out hb HB.out.size)
    replace HG := Lib.hid (HG.out.keep hb)
    replace HS := Lib.hid (HS.out.keep hb)
    replace HC := Lib.hid (HC.out.keep hb)
    clear hb
    go_wp2_with fail
    go_ret
    refine ⟨_, rfl, ⟨false, rfl, ?_⟩, HB.out⟩
    exact ⟨fun h => absurd h (by decide), fun h => absurd h.2.1 hr⟩
  by_cases hmW : mW = len
  rotate_left
  · skip
    refine wp_region_each (kss := [[], [(0, 16)], [(1, 17)], [(2, 18)], [(3, 19)], [(3, 19)], [(3, 19), (5, 21)], [(3, 19), (4, 20), (6, 22)], [(3, 19), (7, 23)], [(3, 19), (8, 24)], [(9, 25)], [(10, 26)], [(10, 26), (11, 27)], [(10, 26), (12, 28)], [(10, 26)], [(10, 26), (14, 30)], [(10, 26), (15, 31)], [(10, 26), (13, 29), (16, 32)], [(10, 26), (17, 33)], [(18, 34)], [(19, 35)], [(19, 35), (20, 36)], [(19, 35), (21, 37)], [(19, 35)], [(19, 35), (23, 39)], [(19, 35), (22, 38), (24, 40)], [(19, 35), (25, 41)]]) [(3, .pointer (some ⟨g3, 0, none⟩)), (4, .pointer (some ⟨g4, 0, none⟩)), (5, .pointer (some ⟨g5, 0, none⟩))] [EV (.agg #[.int .i64 n, .slice AE len ce]), EV (.int .i64 ((checkCode n es))), EV (.bool false), EV (.bool false), EV (.int .u32 ((s : Int))), EV (.agg #[.int .i64 n, .slice AE len ce]), EV (.int .u32 (((2 ^ n.toNat - 1 : Nat) : Int))), EV (.int .u32 (((andn s (2 ^ n.toNat - 1) : Nat) : Int))), EV (.bool false), EV (.bool false), EV (.bool false), EV (.pointer (some ⟨g5, 0, none⟩)), EV (.slice AW mW cw), EV (.int .i64 ((mW : Int))), EV (.pointer (some ⟨g3, 1, none⟩)), EV (.slice AE len ce), EV (.int .i64 ((len : Int))), EV (.bool true), EV (.bool true), EV (.bool true), EV (undef), EV (undef), EV (undef), EV (undef), EV (undef), EV (undef), EV (.bool true)] (by kernel_rfl) (by kernel_rfl) ⟨rfl, rfl, rfl, trivial⟩ ?_ ?_ ?_
    · exact ⟨eI, eI, eI, eI, eI, eI, eI, eI, eI, eI, eI, eI, eI, eI, eI, eI, eI, eI, eI, eI, eI, eI, eI, eI, eI, eI, eI, trivial⟩
    · refine ⟨?_, ?_, ?_, ?_, ?_, ?_, ?_, ?_, ?_, ?_, ?_, ?_, ?_, ?_, ?_, ?_, ?_, ?_, ?_, ?_, ?_, ?_, ?_, ?_, ?_, ?_, ?_, trivial⟩
      · exact fun aa ww hb he hd => ob_plain rfl (load_hgr rfl he.1 (Blk.keep HG.out hb))
      · exact fun aa ww hb he hd => ob_plain rfl (gives_call1 _ _ _ rfl (by kernel_rfl) (by rw [show aa.eval (.tmp 16) = _ from hd.1]; exact rv_one (check_any n AE es len ce _ ((HE0.out.below (bthen HB.out hb HB.out.size)).more (bthen HB.out hb HB.out.size).size))))
      · exact fun aa ww hb he hd => ob_plain rfl (gives_ne_int ((checkCode n es)) 0 .i64 _ _ _ _ rfl hd.1 rfl ⟨congrArg Value.bool (by simpa using hc), Below.refl _ _⟩)
      · exact fun _ _ _ he hd => ob_mv rfl rfl hd.1
      · exact fun aa ww hb he hd => ob_on 19 rfl (by kernel_rfl) hd.1 (load_u9 rfl he.2.1 (Blk.at0 HS.out hb))
      · exact fun aa ww hb he hd => ob_on 19 rfl (by kernel_rfl) hd.1 (load_hgr rfl he.1 (Blk.keep HG.out hb))
      · exact fun aa ww hb he hd => ob_on 19 rfl (by kernel_rfl) hd.1 (gives_call1 _ _ _ rfl (by kernel_rfl) (by rw [show aa.eval (.tmp 21) = _ from hd.2.1, HNn.out]; exact vertices_any n.toNat len ce AE HN6.out _))
      · exact fun aa ww hb he hd => ob_on 19 rfl (by kernel_rfl) hd.1 (andnot_u9 HS32.out HMk.out rfl hd.2.1 hd.2.2.1)
      · exact fun aa ww hb he hd => ob_on 19 rfl (by kernel_rfl) hd.1 (gives_ne_int (((andn s (2 ^ n.toNat - 1) : Nat) : Int)) 0 .u32 _ _ _ _ rfl hd.2.1 rfl ⟨congrArg Value.bool (by simpa using hr), Below.refl _ _⟩)
      · exact fun aa ww hb he hd => ob_plain rfl (gives_pick false _ _ _ rfl hd.1 ⟨hd.2.1, Below.refl _ _⟩)
      · exact fun _ _ _ he hd => ob_mv rfl rfl hd.1
      · exact fun aa ww hb he hd => ob_on 26 rfl (by kernel_rfl) hd.1 (fld_cov (k := 0) rfl (by decide) he.2.2.1)
      · exact fun aa ww hb he hd => ob_on 26 rfl (by kernel_rfl) hd.1 (load_c28 rfl hd.2.1 (Blk.at0 HC.out hb))
      · exact fun aa ww hb he hd => ob_on 26 rfl (by kernel_rfl) hd.1 (len_c Try.underlying28 rfl hd.2.1)
      · exact fun aa ww hb he hd => ob_on 26 rfl (by kernel_rfl) hd.1 (fld_hgr (k := 1) rfl (by decide) he.1)
      · exact fun aa ww hb he hd => ob_on 26 rfl (by kernel_rfl) hd.1 (load_c38 rfl hd.2.1 (Blk.at1 HG.out hb))
      · exact fun aa ww hb he hd => ob_on 26 rfl (by kernel_rfl) hd.1 (len_c Try.underlying22 rfl hd.2.1)
      · exact fun aa ww hb he hd => ob_on 26 rfl (by kernel_rfl) hd.1 (gives_ne_int ((mW : Int)) ((len : Int)) .i64 _ _ _ _ rfl hd.2.1 hd.2.2.1 ⟨congrArg Value.bool (by simp; omega), Below.refl _ _⟩)
      · exact fun aa ww hb he hd => ob_plain rfl (gives_pick false _ _ _ rfl hd.1 ⟨hd.2.1, Below.refl _ _⟩)
      · exact fun _ _ _ he hd => ob_mv rfl rfl hd.1
      · exact fun aa ww hb he hd => ob_off 35 rfl (by kernel_rfl) hd.1 rfl
      · exact fun aa ww hb he hd => ob_off 35 rfl (by kernel_rfl) hd.1 rfl
      · exact fun aa ww hb he hd => ob_off 35 rfl (by kernel_rfl) hd.1 rfl
      · exact fun aa ww hb he hd => ob_off 35 rfl (by kernel_rfl) hd.1 rfl
      · exact fun aa ww hb he hd => ob_off 35 rfl (by kernel_rfl) hd.1 rfl
      · exact fun aa ww hb he hd => ob_off 35 rfl (by kernel_rfl) hd.1 rfl
      · exact fun aa ww hb he hd => ob_plain rfl (gives_pick true _ _ _ rfl hd.1 ⟨rfl, Below.refl _ _⟩)
    intro vs w2 hb hR
    have e42 : vs 26 = .bool true := hR 26 (by decide)
    clear hR
    simp only [putsL, Nat.zero_add, Nat.reduceAdd, List.take_succ_cons, List.take_zero, Act.put, List.setIfInBounds_toArray, List.set_cons_zero, List.set_cons_succ]
    rw [e42]
    clear e42
    replace HB := Lib.hid (bthen HB.out hb HB.out.size)
    replace HG := Lib.hid (HG.out.keep hb)
    replace HS := Lib.hid (HS.out.keep hb)
    replace HC := Lib.hid (HC.out.keep hb)
    clear hb
    go_wp2_with fail
    go_ret
    refine ⟨_, rfl, ⟨false, rfl, ?_⟩, HB.out⟩
    exact ⟨fun h => absurd h (by decide), fun h => absurd h.2.2.1 hmW⟩
  by_cases hnP : nP = n.toNat
  rotate_left
  · skip
    refine wp_region_each (kss := [[], [(0, 16)], [(1, 17)], [(2, 18)], [(3, 19)], [(3, 19)], [(3, 19), (5, 21)], [(3, 19), (4, 20), (6, 22)], [(3, 19), (7, 23)], [(3, 19), (8, 24)], [(9, 25)], [(10, 26)], [(10, 26), (11, 27)], [(10, 26), (12, 28)], [(10, 26)], [(10, 26), (14, 30)], [(10, 26), (15, 31)], [(10, 26), (13, 29), (16, 32)], [(10, 26), (17, 33)], [(18, 34)], [(19, 35)], [(19, 35), (20, 36)], [(19, 35), (21, 37)], [(19, 35)], [(19, 35), (23, 39)], [(19, 35), (22, 38), (24, 40)], [(19, 35), (25, 41)]]) [(3, .pointer (some ⟨g3, 0, none⟩)), (4, .pointer (some ⟨g4, 0, none⟩)), (5, .pointer (some ⟨g5, 0, none⟩))] [EV (.agg #[.int .i64 n, .slice AE len ce]), EV (.int .i64 ((checkCode n es))), EV (.bool false), EV (.bool false), EV (.int .u32 ((s : Int))), EV (.agg #[.int .i64 n, .slice AE len ce]), EV (.int .u32 (((2 ^ n.toNat - 1 : Nat) : Int))), EV (.int .u32 (((andn s (2 ^ n.toNat - 1) : Nat) : Int))), EV (.bool false), EV (.bool false), EV (.bool false), EV (.pointer (some ⟨g5, 0, none⟩)), EV (.slice AW mW cw), EV (.int .i64 ((mW : Int))), EV (.pointer (some ⟨g3, 1, none⟩)), EV (.slice AE len ce), EV (.int .i64 ((len : Int))), EV (.bool false), EV (.bool false), EV (.bool false), EV (.pointer (some ⟨g5, 1, none⟩)), EV (.slice AP nP cp), EV (.int .i64 ((nP : Int))), EV (.pointer (some ⟨g3, 0, none⟩)), EV (.int .i64 n), EV (.bool true), EV (.bool true)] (by kernel_rfl) (by kernel_rfl) ⟨rfl, rfl, rfl, trivial⟩ ?_ ?_ ?_
    · exact ⟨eI, eI, eI, eI, eI, eI, eI, eI, eI, eI, eI, eI, eI, eI, eI, eI, eI, eI, eI, eI, eI, eI, eI, eI, eI, eI, eI, trivial⟩
    · refine ⟨?_, ?_, ?_, ?_, ?_, ?_, ?_, ?_, ?_, ?_, ?_, ?_, ?_, ?_, ?_, ?_, ?_, ?_, ?_, ?_, ?_, ?_, ?_, ?_, ?_, ?_, ?_, trivial⟩
      · exact fun aa ww hb he hd => ob_plain rfl (load_hgr rfl he.1 (Blk.keep HG.out hb))
      · exact fun aa ww hb he hd => ob_plain rfl (gives_call1 _ _ _ rfl (by kernel_rfl) (by rw [show aa.eval (.tmp 16) = _ from hd.1]; exact rv_one (check_any n AE es len ce _ ((HE0.out.below (bthen HB.out hb HB.out.size)).more (bthen HB.out hb HB.out.size).size))))
      · exact fun aa ww hb he hd => ob_plain rfl (gives_ne_int ((checkCode n es)) 0 .i64 _ _ _ _ rfl hd.1 rfl ⟨congrArg Value.bool (by simpa using hc), Below.refl _ _⟩)
      · exact fun _ _ _ he hd => ob_mv rfl rfl hd.1
      · exact fun aa ww hb he hd => ob_on 19 rfl (by kernel_rfl) hd.1 (load_u9 rfl he.2.1 (Blk.at0 HS.out hb))
      · exact fun aa ww hb he hd => ob_on 19 rfl (by kernel_rfl) hd.1 (load_hgr rfl he.1 (Blk.keep HG.out hb))
      · exact fun aa ww hb he hd => ob_on 19 rfl (by kernel_rfl) hd.1 (gives_call1 _ _ _ rfl (by kernel_rfl) (by rw [show aa.eval (.tmp 21) = _ from hd.2.1, HNn.out]; exact vertices_any n.toNat len ce AE HN6.out _))
      · exact fun aa ww hb he hd => ob_on 19 rfl (by kernel_rfl) hd.1 (andnot_u9 HS32.out HMk.out rfl hd.2.1 hd.2.2.1)
      · exact fun aa ww hb he hd => ob_on 19 rfl (by kernel_rfl) hd.1 (gives_ne_int (((andn s (2 ^ n.toNat - 1) : Nat) : Int)) 0 .u32 _ _ _ _ rfl hd.2.1 rfl ⟨congrArg Value.bool (by simpa using hr), Below.refl _ _⟩)
      · exact fun aa ww hb he hd => ob_plain rfl (gives_pick false _ _ _ rfl hd.1 ⟨hd.2.1, Below.refl _ _⟩)
      · exact fun _ _ _ he hd => ob_mv rfl rfl hd.1
      · exact fun aa ww hb he hd => ob_on 26 rfl (by kernel_rfl) hd.1 (fld_cov (k := 0) rfl (by decide) he.2.2.1)
      · exact fun aa ww hb he hd => ob_on 26 rfl (by kernel_rfl) hd.1 (load_c28 rfl hd.2.1 (Blk.at0 HC.out hb))
      · exact fun aa ww hb he hd => ob_on 26 rfl (by kernel_rfl) hd.1 (len_c Try.underlying28 rfl hd.2.1)
      · exact fun aa ww hb he hd => ob_on 26 rfl (by kernel_rfl) hd.1 (fld_hgr (k := 1) rfl (by decide) he.1)
      · exact fun aa ww hb he hd => ob_on 26 rfl (by kernel_rfl) hd.1 (load_c38 rfl hd.2.1 (Blk.at1 HG.out hb))
      · exact fun aa ww hb he hd => ob_on 26 rfl (by kernel_rfl) hd.1 (len_c Try.underlying22 rfl hd.2.1)
      · exact fun aa ww hb he hd => ob_on 26 rfl (by kernel_rfl) hd.1 (gives_ne_int ((mW : Int)) ((len : Int)) .i64 _ _ _ _ rfl hd.2.1 hd.2.2.1 ⟨congrArg Value.bool (by simp; omega), Below.refl _ _⟩)
      · exact fun aa ww hb he hd => ob_plain rfl (gives_pick false _ _ _ rfl hd.1 ⟨hd.2.1, Below.refl _ _⟩)
      · exact fun _ _ _ he hd => ob_mv rfl rfl hd.1
      · exact fun aa ww hb he hd => ob_on 35 rfl (by kernel_rfl) hd.1 (fld_cov (k := 1) rfl (by decide) he.2.2.1)
      · exact fun aa ww hb he hd => ob_on 35 rfl (by kernel_rfl) hd.1 (load_c28 rfl hd.2.1 (Blk.at1 HC.out hb))
      · exact fun aa ww hb he hd => ob_on 35 rfl (by kernel_rfl) hd.1 (len_c Try.underlying28 rfl hd.2.1)
      · exact fun aa ww hb he hd => ob_on 35 rfl (by kernel_rfl) hd.1 (fld_hgr (k := 0) rfl (by decide) he.1)
      · exact fun aa ww hb he hd => ob_on 35 rfl (by kernel_rfl) hd.1 (load_c3 rfl hd.2.1 (Blk.at0 HG.out hb))
      · exact fun aa ww hb he hd => ob_on 35 rfl (by kernel_rfl) hd.1 (gives_ne_int ((nP : Int)) n .i64 _ _ _ _ rfl hd.2.1 hd.2.2.1 ⟨congrArg Value.bool (by have := HNn.out; simp; omega), Below.refl _ _⟩)
      · exact fun aa ww hb he hd => ob_plain rfl (gives_pick false _ _ _ rfl hd.1 ⟨hd.2.1, Below.refl _ _⟩)
    intro vs w2 hb hR
    have e42 : vs 26 = .bool true := hR 26 (by decide)
    clear hR
    simp only [putsL, Nat.zero_add, Nat.reduceAdd, List.take_succ_cons, List.take_zero, Act.put, List.setIfInBounds_toArray, List.set_cons_zero, List.set_cons_succ]
    rw [e42]
    clear e42
    replace HB := Lib.hid (bthen HB.out hb HB.out.size)
    replace HG := Lib.hid (HG.out.keep hb)
    replace HS := Lib.hid (HS.out.keep hb)
    replace HC := Lib.hid (HC.out.keep hb)
    clear hb
    go_wp2_with fail
    go_ret
    refine ⟨_, rfl, ⟨false, rfl, ?_⟩, HB.out⟩
    exact ⟨fun h => absurd h (by decide), fun h => absurd h.2.2.2.1 hnP⟩
  skip
  refine wp_region_each (kss := [[], [(0, 16)], [(1, 17)], [(2, 18)], [(3, 19)], [(3, 19)], [(3, 19), (5, 21)], [(3, 19), (4, 20), (6, 22)], [(3, 19), (7, 23)], [(3, 19), (8, 24)], [(9, 25)], [(10, 26)], [(10, 26), (11, 27)], [(10, 26), (12, 28)], [(10, 26)], [(10, 26), (14, 30)], [(10, 26), (15, 31)], [(10, 26), (13, 29), (16, 32)], [(10, 26), (17, 33)], [(18, 34)], [(19, 35)], [(19, 35), (20, 36)], [(19, 35), (21, 37)], [(19, 35)], [(19, 35), (23, 39)], [(19, 35), (22, 38), (24, 40)], [(19, 35), (25, 41)]]) [(3, .pointer (some ⟨g3, 0, none⟩)), (4, .pointer (some ⟨g4, 0, none⟩)), (5, .pointer (some ⟨g5, 0, none⟩))] [EV (.agg #[.int .i64 n, .slice AE len ce]), EV (.int .i64 ((checkCode n es))), EV (.bool false), EV (.bool false), EV (.int .u32 ((s : Int))), EV (.agg #[.int .i64 n, .slice AE len ce]), EV (.int .u32 (((2 ^ n.toNat - 1 : Nat) : Int))), EV (.int .u32 (((andn s (2 ^ n.toNat - 1) : Nat) : Int))), EV (.bool false), EV (.bool false), EV (.bool false), EV (.pointer (some ⟨g5, 0, none⟩)), EV (.slice AW mW cw), EV (.int .i64 ((mW : Int))), EV (.pointer (some ⟨g3, 1, none⟩)), EV (.slice AE len ce), EV (.int .i64 ((len : Int))), EV (.bool false), EV (.bool false), EV (.bool false), EV (.pointer (some ⟨g5, 1, none⟩)), EV (.slice AP nP cp), EV (.int .i64 ((nP : Int))), EV (.pointer (some ⟨g3, 0, none⟩)), EV (.int .i64 n), EV (.bool false), EV (.bool false)] (by kernel_rfl) (by kernel_rfl) ⟨rfl, rfl, rfl, trivial⟩ ?_ ?_ ?_
  · exact ⟨eI, eI, eI, eI, eI, eI, eI, eI, eI, eI, eI, eI, eI, eI, eI, eI, eI, eI, eI, eI, eI, eI, eI, eI, eI, eI, eI, trivial⟩
  · refine ⟨?_, ?_, ?_, ?_, ?_, ?_, ?_, ?_, ?_, ?_, ?_, ?_, ?_, ?_, ?_, ?_, ?_, ?_, ?_, ?_, ?_, ?_, ?_, ?_, ?_, ?_, ?_, trivial⟩
    · exact fun aa ww hb he hd => ob_plain rfl (load_hgr rfl he.1 (Blk.keep HG.out hb))
    · exact fun aa ww hb he hd => ob_plain rfl (gives_call1 _ _ _ rfl (by kernel_rfl) (by rw [show aa.eval (.tmp 16) = _ from hd.1]; exact rv_one (check_any n AE es len ce _ ((HE0.out.below (bthen HB.out hb HB.out.size)).more (bthen HB.out hb HB.out.size).size))))
    · exact fun aa ww hb he hd => ob_plain rfl (gives_ne_int ((checkCode n es)) 0 .i64 _ _ _ _ rfl hd.1 rfl ⟨congrArg Value.bool (by simpa using hc), Below.refl _ _⟩)
    · exact fun _ _ _ he hd => ob_mv rfl rfl hd.1
    · exact fun aa ww hb he hd => ob_on 19 rfl (by kernel_rfl) hd.1 (load_u9 rfl he.2.1 (Blk.at0 HS.out hb))
    · exact fun aa ww hb he hd => ob_on 19 rfl (by kernel_rfl) hd.1 (load_hgr rfl he.1 (Blk.keep HG.out hb))
    · exact fun aa ww hb he hd => ob_on 19 rfl (by kernel_rfl) hd.1 (gives_call1 _ _ _ rfl (by kernel_rfl) (by rw [show aa.eval (.tmp 21) = _ from hd.2.1, HNn.out]; exact vertices_any n.toNat len ce AE HN6.out _))
    · exact fun aa ww hb he hd => ob_on 19 rfl (by kernel_rfl) hd.1 (andnot_u9 HS32.out HMk.out rfl hd.2.1 hd.2.2.1)
    · exact fun aa ww hb he hd => ob_on 19 rfl (by kernel_rfl) hd.1 (gives_ne_int (((andn s (2 ^ n.toNat - 1) : Nat) : Int)) 0 .u32 _ _ _ _ rfl hd.2.1 rfl ⟨congrArg Value.bool (by simpa using hr), Below.refl _ _⟩)
    · exact fun aa ww hb he hd => ob_plain rfl (gives_pick false _ _ _ rfl hd.1 ⟨hd.2.1, Below.refl _ _⟩)
    · exact fun _ _ _ he hd => ob_mv rfl rfl hd.1
    · exact fun aa ww hb he hd => ob_on 26 rfl (by kernel_rfl) hd.1 (fld_cov (k := 0) rfl (by decide) he.2.2.1)
    · exact fun aa ww hb he hd => ob_on 26 rfl (by kernel_rfl) hd.1 (load_c28 rfl hd.2.1 (Blk.at0 HC.out hb))
    · exact fun aa ww hb he hd => ob_on 26 rfl (by kernel_rfl) hd.1 (len_c Try.underlying28 rfl hd.2.1)
    · exact fun aa ww hb he hd => ob_on 26 rfl (by kernel_rfl) hd.1 (fld_hgr (k := 1) rfl (by decide) he.1)
    · exact fun aa ww hb he hd => ob_on 26 rfl (by kernel_rfl) hd.1 (load_c38 rfl hd.2.1 (Blk.at1 HG.out hb))
    · exact fun aa ww hb he hd => ob_on 26 rfl (by kernel_rfl) hd.1 (len_c Try.underlying22 rfl hd.2.1)
    · exact fun aa ww hb he hd => ob_on 26 rfl (by kernel_rfl) hd.1 (gives_ne_int ((mW : Int)) ((len : Int)) .i64 _ _ _ _ rfl hd.2.1 hd.2.2.1 ⟨congrArg Value.bool (by simp; omega), Below.refl _ _⟩)
    · exact fun aa ww hb he hd => ob_plain rfl (gives_pick false _ _ _ rfl hd.1 ⟨hd.2.1, Below.refl _ _⟩)
    · exact fun _ _ _ he hd => ob_mv rfl rfl hd.1
    · exact fun aa ww hb he hd => ob_on 35 rfl (by kernel_rfl) hd.1 (fld_cov (k := 1) rfl (by decide) he.2.2.1)
    · exact fun aa ww hb he hd => ob_on 35 rfl (by kernel_rfl) hd.1 (load_c28 rfl hd.2.1 (Blk.at1 HC.out hb))
    · exact fun aa ww hb he hd => ob_on 35 rfl (by kernel_rfl) hd.1 (len_c Try.underlying28 rfl hd.2.1)
    · exact fun aa ww hb he hd => ob_on 35 rfl (by kernel_rfl) hd.1 (fld_hgr (k := 0) rfl (by decide) he.1)
    · exact fun aa ww hb he hd => ob_on 35 rfl (by kernel_rfl) hd.1 (load_c3 rfl hd.2.1 (Blk.at0 HG.out hb))
    · exact fun aa ww hb he hd => ob_on 35 rfl (by kernel_rfl) hd.1 (gives_ne_int ((nP : Int)) n .i64 _ _ _ _ rfl hd.2.1 hd.2.2.1 ⟨congrArg Value.bool (by have := HNn.out; simp; omega), Below.refl _ _⟩)
    · exact fun aa ww hb he hd => ob_plain rfl (gives_pick false _ _ _ rfl hd.1 ⟨hd.2.1, Below.refl _ _⟩)
  intro vs w2 hb hR
  have e42 : vs 26 = .bool false := hR 26 (by decide)
  clear hR
  simp only [putsL, Nat.zero_add, Nat.reduceAdd, List.take_succ_cons, List.take_zero, Act.put, List.setIfInBounds_toArray, List.set_cons_zero, List.set_cons_succ]
  rw [e42]
  clear e42
  replace HB := Lib.hid (bthen HB.out hb HB.out.size)
  replace HG := Lib.hid (HG.out.keep hb)
  replace HS := Lib.hid (HS.out.keep hb)
  replace HC := Lib.hid (HC.out.keep hb)
  clear hb
  obtain rfl : len = mW := hmW.symm
  subst hnP
  have HOk := Lib.hid (And.intro hc hr)
  have HL7 := Lib.hid hl7
  clear hc hr hl7
  go_wp2_with fail
  refine (int_w 1 (by omega) (by omega) _ rfl _).mono ?_
  rintro e w3 ⟨v, rfl, ⟨s1, A1, k1, c1, B1, m1, d1, rfl, hr1⟩, hb⟩
  have HR1 := Lib.hid (show Rv 2 ((1 : Int) : Rat) (.agg #[.bool s1, .slice A1 k1 c1, .slice B1 m1 d1]) w3 from ⟨_, _, _, _, _, _, _, rfl, hr1⟩)
  clear hr1
  replace HB := Lib.hid (bthen HB.out hb HB.out.size)
  replace HG := Lib.hid (HG.out.keep hb)
  replace HS := Lib.hid (HS.out.keep hb)
  replace HC := Lib.hid (HC.out.keep hb)
  clear hb
  have HB3s := Lib.hid HB.out.size
  go_upto_region 4 with (fail)
  have hbw := bthen (al w3 (.cells #[.bool true] 4)) (al _ (.cells #[.bool s1, .slice A1 k1 c1, .slice B1 m1 d1] 31)) (by simp)
  have H7 := Lib.hid ((Blk.new w3 4 #[.bool true]).keep (al _ (.cells #[.bool s1, .slice A1 k1 c1, .slice B1 m1 d1] 31)))
  have H8 := Lib.hid (Blk.new (w3.alloc (.cells #[.bool true] 4)) 31 #[.bool s1, .slice A1 k1 c1, .slice B1 m1 d1])
  rw [show (w3.alloc (.cells #[.bool true] 4)).heap.size = w3.heap.size + 1 from by simp] at H8
  replace HB := Lib.hid (bthen HB.out hbw HB.out.size)
  replace HG := Lib.hid (HG.out.keep hbw)
  replace HS := Lib.hid (HS.out.keep hbw)
  replace HC := Lib.hid (HC.out.keep hbw)
  replace HR1 := Lib.hid (HR1.out.new hbw)
  clear hbw
  generalize (w3.alloc (.cells #[.bool true] 4)).alloc (.cells #[.bool s1, .slice A1 k1 c1, .slice B1 m1 d1] 31) = w4 at *
  obtain ⟨g7, hg7⟩ : ∃ g7, g7 = w3.heap.size := ⟨_, rfl⟩
  obtain ⟨g8, hg8⟩ : ∃ g8, g8 = w3.heap.size + 1 := ⟨_, rfl⟩
  rw [← hg8] at H8 ⊢
  rw [← hg7] at H7 ⊢
  have HGg7 := Lib.hid (show w3.heap.size ≤ g7 ∧ w3.heap.size ≤ g8 from by omega)
  clear hg7 hg8
  go_upto_region 5 with (fail)
  have hbw := al w4 (.cells #[.func (.func 55) #[] #[.pointer (some ⟨g7, 0, none⟩)]] 103)
  have H9 := Lib.hid (Blk.new w4 103 #[.func (.func 55) #[] #[.pointer (some ⟨g7, 0, none⟩)]])
  replace HB := Lib.hid (bthen HB.out hbw HB.out.size)
  replace HG := Lib.hid (HG.out.keep hbw)
  replace HS := Lib.hid (HS.out.keep hbw)
  replace HC := Lib.hid (HC.out.keep hbw)
  replace HR1 := Lib.hid (HR1.out.new hbw)
  replace H7 := Lib.hid (H7.out.keep hbw)
  replace H8 := Lib.hid (H8.out.keep hbw)
  clear hbw
  generalize w4.alloc (.cells #[.func (.func 55) #[] #[.pointer (some ⟨g7, 0, none⟩)]] 103) = w5 at *
  obtain ⟨g9, hg9⟩ : ∃ g9, g9 = w4.heap.size := ⟨_, rfl⟩
  rw [← hg9] at H9 ⊢
  have HGg9 := Lib.hid (show w4.heap.size ≤ g9 from by omega)
  clear hg9
  have hst : CkS n len ce AE es s AW len cw AP n.toNat cp s0 A0 k0 c0 B0 m0 d0 W P x b g3 g4 g5 g7 g8 g9 w (true && allB (fun i => decide (0 ≤ W i)) 0) w5 := ⟨H7.out, H9.out, HG.out, HS.out, HC.out, by obtain ⟨a1, a2, a3, a4, a5, a6, a7, e, h⟩ := HR1.out; cases e; exact ⟨_, _, _, _, _, _, _, H8.out, h⟩, (HE0.out.below HB.out), Rs.grownB HW0.out (only_of_below HB.out none) (Nat.le_refl _) (fun _ e => by cases e) (KeepsN.below HB.out), Rs.grownB HP0.out (only_of_below HB.out none) (Nat.le_refl _) (fun _ e => by cases e) (KeepsN.below HB.out), HV0.out.new HB.out, HB.out, ?_⟩
  rotate_left
  · have := HB3s.out; have := HGg7.out; omega
  have HI := Lib.hid hst; clear hst H7 H8 H9 HG HS HC HR1 HB
  have x0 := Blk.at0 HI.out.cv (Below.refl _ _)
  go_wp2_with fail
  refine (visit_any 57 HK.out.1 #[.pointer (some ⟨g9, 0, none⟩)] len cw b AW W (fun i w' => CkS n len ce AE es s AW len cw AP n.toNat cp s0 A0 k0 c0 B0 m0 d0 W P x b g3 g4 g5 g7 g8 g9 w (true && allB (fun i => decide (0 ≤ W i)) i) w') (fun i w' h => Rs.moreB h.rw h.hb.size) (fun i w' w'' h hb => h.below hb) (fun i w' v hi h hv => ?_) (by have := HL7.out; have := HN6.out; omega) w5 HI.out).mono ?_
  · refine (ck2_any i g7 g9 b _ (W i) v w' h.fn h.cr hv).mono ?_
    rintro e w4 ⟨rfl, hq⟩
    exact ⟨rfl, by rw [← ck_and]; exact h.req hq⟩
  rintro e w6 ⟨rfl, hj⟩
  replace HI := Lib.hid hj; clear hj x0
  obtain ⟨Q1, hQ1⟩ : ∃ Q1, Q1 = (true && allB (fun i => decide (0 ≤ W i)) len) := ⟨_, rfl⟩
  rw [← hQ1] at HI
  have HQ1 := Lib.hid hQ1; clear hQ1
  replace HI := Lib.hid (show CkS n len ce AE es s AW len cw AP n.toNat cp s0 A0 k0 c0 B0 m0 d0 W P x b g3 g4 g5 g7 g8 g9 w (Q1 && allB (fun v => ckP s v (P v)) 0) w6 from by rw [show allB (fun v => ckP s v (P v)) 0 = true from rfl, Bool.and_true]; exact HI.out)
  have x0 := Blk.at1 HI.out.cv (Below.refl _ _)
  go_wp2_with fail
  refine (visit_any 58 HK.out.2.1 #[.pointer (some ⟨g9, 0, none⟩), .pointer (some ⟨g4, 0, none⟩)] n.toNat cp b AP P (fun i w' => CkS n len ce AE es s AW len cw AP n.toNat cp s0 A0 k0 c0 B0 m0 d0 W P x b g3 g4 g5 g7 g8 g9 w (Q1 && allB (fun v => ckP s v (P v)) i) w') (fun i w' h => Rs.moreB h.rp h.hb.size) (fun i w' w'' h hb => h.below hb) (fun i w' v hi h hv => ?_) (by have := HL7.out; have := HN6.out; omega) w6 HI.out).mono ?_
  · refine (ck3_any i g4 g7 g9 b s _ (P i) v w' h.fn h.cr h.st HS32.out (by have := HN6.out; omega) hv).mono ?_
    rintro e w4 ⟨rfl, hq⟩
    exact ⟨rfl, by rw [← ck_and]; exact h.req hq⟩
  rintro e w7 ⟨rfl, hj⟩
  replace HI := Lib.hid hj; clear hj x0
  obtain ⟨Q2, hQ2⟩ : ∃ Q2, Q2 = (Q1 && allB (fun v => ckP s v (P v)) n.toNat) := ⟨_, rfl⟩
  rw [← hQ2] at HI
  have HQ2 := Lib.hid hQ2; clear hQ2
  replace HI := Lib.hid (show CkS n len ce AE es s AW len cw AP n.toNat cp s0 A0 k0 c0 B0 m0 d0 W P x b g3 g4 g5 g7 g8 g9 w (Q2 && allB (fun v => !s.testBit v || decide (1 ≤ tsm (fun i => (nth es i).testBit v) W len)) 0) w7 from by rw [show allB (fun v => !s.testBit v || decide (1 ≤ tsm (fun i => (nth es i).testBit v) W len)) 0 = true from rfl, Bool.and_true]; exact HI.out)
  obtain ⟨nn, hnn⟩ : ∃ nn, nn = n.toNat := ⟨_, rfl⟩
  rw [← hnn] at HI HN6 HOk HQ2 HP0 ⊢
  have hn9 : n = (nn : Int) := by have := HNn.out; omega
  clear HNn HMk hnn
  subst hn9
  have x0 := Blk.at0 HI.out.gr (Below.refl _ _)
  go_wp2_with fail
  clear x0
  go_loopg [55] nn (fun g iv wr => ∃ v : Nat, iv = .int .i64 v ∧ v + g = nn ∧ Hid (CkS (nn : Int) len ce AE es s AW len cw AP nn cp s0 A0 k0 c0 B0 m0 d0 W P x b g3 g4 g5 g7 g8 g9 w (Q2 && allB (fun v => !s.testBit v || decide (1 ≤ tsm (fun i => (nth es i).testBit v) W len)) v) wr))
  case atStart => exact ⟨0, rfl, by omega, HI⟩
  case round =>
    obtain ⟨v, rfl, hvn, HJ⟩ := hrel
    clear HI
    by_cases hv : v < nn
    · have i1 : ((v : Int) < (nn : Int)) := by omega
      go_upto_region 10 with (fail)
      have hbw := al wr (.cells #[.int .i64 (v : Int)] 3)
      have H10 := Lib.hid (Blk.new wr 3 #[.int .i64 (v : Int)])
      replace HJ := Lib.hid (CkS.below HJ.out hbw)
      clear hbw
      generalize wr.alloc (.cells #[.int .i64 (v : Int)] 3) = w8 at *
      obtain ⟨g10, hg10⟩ : ∃ g10, g10 = wr.heap.size := ⟨_, rfl⟩
      rw [← hg10] at H10 ⊢
      have HGg10 := Lib.hid (show wr.heap.size ≤ g10 from by omega)
      clear hg10
      have hbit := bit_one9 s v HS32.out
      have y4 := Blk.at0 HJ.out.st (Below.refl _ _); have y10 := Blk.at0 H10.out (Below.refl _ _)
      have i0 : (0 : Int) ≤ (v : Int) := by omega
      have i32 : (v : Int) < 32 := by have := HN6.out; omega
      cases hsb : s.testBit v with
      | false =>
        rw [hsb] at hbit
        go_wp2_with fail
        go_roundg (gk - 1)
        case measure => omega
        case rel => exact ⟨v + 1, by go_num, by omega, Lib.hid (by rw [← ck_and, hsb]; simpa using HJ.out)⟩
      | true =>
        rw [hsb] at hbit
        have x0 := Blk.at0 HJ.out.cv (Below.refl _ _)
        go_wp2_with fail
        clear hbit y4 y10 x0
        refine (total_any 60 HK.out.2.2.1 #[.pointer (some ⟨g3, 0, none⟩), .pointer (some ⟨g10, 0, none⟩)] (fun i => (nth es i).testBit v) len cw b AW W w8 (Rs.moreB HJ.out.rw HJ.out.hb.size) (fun i w' hi hb => ck4_any i v g3 g10 len ce _ AE es w' (HJ.out.gr.keep hb) ((HJ.out.below hb).es.more (HJ.out.below hb).hb.size) (H10.out.keep hb) hi (by have := HN6.out; omega)) (by have := HL7.out; have := HN6.out; omega) (Nat.le_trans (ck_fit (n := len) HBd.out (by have := HL7.out; have := HN6.out; omega)) (by decide))).mono ?_
        rintro e w9 ⟨v9, rfl, hv9, hb⟩
        have HT := Lib.hid hv9
        obtain ⟨s2, A2, k2, c2, B2, m2, d2, rfl, -⟩ := hv9
        replace HJ := Lib.hid (CkS.below HJ.out hb)
        replace H10 := Lib.hid (H10.out.keep hb)
        clear hb
        go_upto_region 12 with (fail)
        have hbw := al w9 (.cells #[.bool s2, .slice A2 k2 c2, .slice B2 m2 d2] 31)
        have H11 := Lib.hid (Blk.new w9 31 #[.bool s2, .slice A2 k2 c2, .slice B2 m2 d2])
        replace HJ := Lib.hid (CkS.below HJ.out hbw)
        replace H10 := Lib.hid (H10.out.keep hbw)
        replace HT := Lib.hid (HT.out.new hbw)
        clear hbw
        generalize w9.alloc (.cells #[.bool s2, .slice A2 k2 c2, .slice B2 m2 d2] 31) = w10 at *
        obtain ⟨g11, hg11⟩ : ∃ g11, g11 = w9.heap.size := ⟨_, rfl⟩
        rw [← hg11] at H11 ⊢
        have HGg11 := Lib.hid (show w9.heap.size ≤ g11 from by omega)
        clear hg11
        have HTb := Lib.hid (show Bn (2 + len * (b + 1)) (tsm (fun i => (nth es i).testBit v) W len) g11 w10 from by obtain ⟨a1, a2, a3, a4, a5, a6, a7, e, h⟩ := HT.out; cases e; exact ⟨_, _, _, _, _, _, _, H11.out, h⟩)
        clear HT
        have HFn := Lib.hid HJ.out.fn; have HOne := Lib.hid HJ.out.one
        refine wp_region_join (kss := [[], [], [], [(1, 68), (2, 69)], [(3, 70)]]) [(9, .pointer (some ⟨g9, 0, none⟩)), (11, .pointer (some ⟨g11, 0, none⟩)), (8, .pointer (some ⟨g8, 0, none⟩))] [EV (.func (.func 55) #[] #[.pointer (some ⟨g7, 0, none⟩)]), Rv (2 + len * (b + 1)) (tsm (fun i => (nth es i).testBit v) W len), Rv (2) (1), EV (.int .i64 (rcq (tsm (fun i => (nth es i).testBit v) W len) 1)), EV (.bool (decide (1 ≤ tsm (fun i => (nth es i).testBit v) W len)))] 5 [] (by kernel_rfl) (by kernel_rfl) ⟨rfl, rfl, rfl, trivial⟩ [false, false, false, false, false] ?_ ?_ ?_ ?_
        · exact fun i hi => absurd hi (by simp)
        · exact ⟨eI, fun _ _ _ h hb => h.new hb, fun _ _ _ h hb => h.new hb, eI, eI, trivial⟩
        · refine ⟨?_, ?_, ?_, ?_, ?_, trivial⟩
          · exact fun aa ww hb he hd => ob_plain rfl (load_fnb rfl he.1 (Blk.at0 HFn.out hb))
          · exact fun aa ww hb he hd => ob_plain rfl (load_bn rfl he.2.1 (Bn.new HTb.out hb))
          · exact fun aa ww hb he hd => ob_plain rfl (load_bn rfl he.2.2.1 (Bn.new HOne.out hb))
          · exact fun aa ww hb he hd => ob_plain rfl (gives_call2 _ _ _ _ rfl (by kernel_rfl) (cmp_v (hd.1.rw) (hd.2.1.rw) (by have := ck_fit HBd.out (show len ≤ 7 from HL7.out); omega)))
          · exact fun aa ww hb he hd => ob_plain rfl (gives_ge_int (rcq (tsm (fun i => (nth es i).testBit v) W len) 1) 0 .i64 _ _ _ _ rfl hd.1 rfl ⟨congrArg Value.bool (rcq_ge9), Below.refl _ _⟩)
        intro vs w11 hb hR _
        have e67 : vs 0 = .func (.func 55) #[] #[.pointer (some ⟨g7, 0, none⟩)] := hR 0 (by decide)
        have e71 : vs 4 = .bool (decide (1 ≤ tsm (fun i => (nth es i).testBit v) W len)) := hR 4 (by decide)
        clear hR
        simp only [putsL, Nat.zero_add, Nat.reduceAdd, List.take_succ_cons, List.take_zero, Act.put, List.setIfInBounds_toArray, List.set_cons_zero, List.set_cons_succ]
        rw [e67, e71]
        clear e67 e71
        replace HJ := Lib.hid (CkS.below HJ.out hb)
        clear hb
        show wpAny _ _ _ _ 1 _ _ _
        refine wpAny_next (i := 5) (by kernel_rfl) rfl rfl (wp_of_gives (gives_dyn _ _ 67 _ _ rfl rfl (by kernel_rfl) ((ck1_any g7 _ (decide (1 ≤ tsm (fun i => (nth es i).testBit v) W len)) _ HJ.out.cr).mono (fun (e : Ending) w9 hq => (⟨.tuple #[], hq.1, rfl, hq.2⟩ : ∃ uu, e = .returned uu ∧ (uu = .tuple #[] ∧ RqE g7 (Q2 && allB (fun v => !s.testBit v || decide (1 ≤ tsm (fun i => (nth es i).testBit v) W len)) v && decide (1 ≤ tsm (fun i => (nth es i).testBit v) W len)) _ w9))))) ?_)
        rintro _ w12 ⟨rfl, hq⟩
        show wpAny _ _ _ _ _ _ (Act.put _ (some 72) _) _
        simp only [Act.put, List.setIfInBounds_toArray, List.set_cons_zero, List.set_cons_succ]
        refine wpAny_end (by kernel_rfl) (calm_normal ?_) _
        have HJ2 := Lib.hid (HJ.out.req hq)
        clear hq HJ HTb HFn HOne H11 H10
        go_wp2_with fail
        go_roundg (gk - 1)
        case measure => omega
        case rel => exact ⟨v + 1, by go_num, by omega, Lib.hid (by rw [← ck_and, hsb]; exact HJ2.out)⟩
    · obtain rfl : nn = v := by omega
      obtain ⟨Q3, hQ3⟩ : ∃ Q3, Q3 = (Q2 && allB (fun v => !s.testBit v || decide (1 ≤ tsm (fun i => (nth es i).testBit v) W len)) nn) := ⟨_, rfl⟩
      rw [← hQ3] at HJ
      have HQ3 := Lib.hid hQ3; clear hQ3
      have HI := Lib.hid (show CkS (nn : Int) len ce AE es s AW len cw AP nn cp s0 A0 k0 c0 B0 m0 d0 W P x b g3 g4 g5 g7 g8 g9 w (Q3 && allB (fun i => decide (tsm (fun v => (nth es i).testBit v) P nn ≤ 1)) 0) wr from by rw [show allB (fun i => decide (tsm (fun v => (nth es i).testBit v) P nn ≤ 1)) 0 = true from rfl, Bool.and_true]; exact HJ.out)
      clear HJ
      have x0 := Blk.at1 HI.out.gr (Below.refl _ _)
      go_wp2_with fail
      clear x0
      go_loopg [77] len (fun g iv wr => ∃ i : Nat, iv = .int .i64 i ∧ i + g = len ∧ Hid (CkS (nn : Int) len ce AE es s AW len cw AP nn cp s0 A0 k0 c0 B0 m0 d0 W P x b g3 g4 g5 g7 g8 g9 w (Q3 && allB (fun i => decide (tsm (fun v => (nth es i).testBit v) P nn ≤ 1)) i) wr))
      case atStart => exact ⟨0, rfl, by omega, HI⟩
      case round =>
        obtain ⟨i, rfl, hil, HJ⟩ := hrel
        clear HI
        by_cases hi : i < len
        · have i1 : ((i : Int) < (len : Int)) := by omega
          obtain ⟨adE, rfl, hbE, hcE⟩ := HJ.out.es.at_ hi
          have HEi := Lib.hid (HJ.out.es.lt hi)
          obtain ⟨ei, hei⟩ : ∃ ei, ei = nth es i := ⟨_, rfl⟩
          rw [← hei] at hcE HEi
          have HEe := Lib.hid hei; clear hei hbE
          go_upto_region 17 with (fail)
          clear hcE
          have hbw := al wr (.cells #[.int .u32 (ei : Int)] 25)
          have H13 := Lib.hid (Blk.new wr 25 #[.int .u32 (ei : Int)])
          replace HJ := Lib.hid (CkS.below HJ.out hbw)
          clear hbw
          generalize wr.alloc (.cells #[.int .u32 (ei : Int)] 25) = w8 at *
          obtain ⟨g13, hg13⟩ : ∃ g13, g13 = wr.heap.size := ⟨_, rfl⟩
          rw [← hg13] at H13 ⊢
          have HGg13 := Lib.hid (show wr.heap.size ≤ g13 from by omega)
          clear hg13
          have x0 := Blk.at1 HJ.out.cv (Below.refl _ _)
          go_wp2_with fail
          clear x0
          refine (total_any 61 HK.out.2.2.2.1 #[.pointer (some ⟨g13, 0, none⟩)] (fun v => ei.testBit v) nn cp b AP P w8 (Rs.moreB HJ.out.rp HJ.out.hb.size) (fun i w' hi hb => ck5_any i ei g13 w' (H13.out.keep hb) HEi.out (by have := HN6.out; omega)) (by have := HL7.out; have := HN6.out; omega) (Nat.le_trans (ck_fit (n := nn) HBd.out (by have := HL7.out; have := HN6.out; omega)) (by decide))).mono ?_
          rintro e w9 ⟨v9, rfl, hv9, hb⟩
          have HT := Lib.hid hv9
          obtain ⟨s2, A2, k2, c2, B2, m2, d2, rfl, -⟩ := hv9
          replace HJ := Lib.hid (CkS.below HJ.out hb)
          replace H13 := Lib.hid (H13.out.keep hb)
          clear hb
          go_upto_region 18 with (fail)
          have hbw := al w9 (.cells #[.bool s2, .slice A2 k2 c2, .slice B2 m2 d2] 31)
          have H14 := Lib.hid (Blk.new w9 31 #[.bool s2, .slice A2 k2 c2, .slice B2 m2 d2])
          replace HJ := Lib.hid (CkS.below HJ.out hbw)
          replace H13 := Lib.hid (H13.out.keep hbw)
          replace HT := Lib.hid (HT.out.new hbw)
          clear hbw
          generalize w9.alloc (.cells #[.bool s2, .slice A2 k2 c2, .slice B2 m2 d2] 31) = w10 at *
          obtain ⟨g14, hg14⟩ : ∃ g14, g14 = w9.heap.size := ⟨_, rfl⟩
          rw [← hg14] at H14 ⊢
          have HGg14 := Lib.hid (show w9.heap.size ≤ g14 from by omega)
          clear hg14
          have HTb := Lib.hid (show Bn (2 + nn * (b + 1)) (tsm (fun v => ei.testBit v) P nn) g14 w10 from by obtain ⟨a1, a2, a3, a4, a5, a6, a7, e, h⟩ := HT.out; cases e; exact ⟨_, _, _, _, _, _, _, H14.out, h⟩)
          clear HT
          have HFn := Lib.hid HJ.out.fn; have HOne := Lib.hid HJ.out.one
          refine wp_region_join (kss := [[], [], [], [(1, 86), (2, 87)], [(3, 88)]]) [(9, .pointer (some ⟨g9, 0, none⟩)), (14, .pointer (some ⟨g14, 0, none⟩)), (8, .pointer (some ⟨g8, 0, none⟩))] [EV (.func (.func 55) #[] #[.pointer (some ⟨g7, 0, none⟩)]), Rv (2 + nn * (b + 1)) (tsm (fun v => ei.testBit v) P nn), Rv (2) (1), EV (.int .i64 (rcq (tsm (fun v => ei.testBit v) P nn) 1)), EV (.bool (decide (tsm (fun v => ei.testBit v) P nn ≤ 1)))] 5 [] (by kernel_rfl) (by kernel_rfl) ⟨rfl, rfl, rfl, trivial⟩ [false, false, false, false, false] ?_ ?_ ?_ ?_
          · exact fun i hi => absurd hi (by simp)
          · exact ⟨eI, fun _ _ _ h hb => h.new hb, fun _ _ _ h hb => h.new hb, eI, eI, trivial⟩
          · refine ⟨?_, ?_, ?_, ?_, ?_, trivial⟩
            · exact fun aa ww hb he hd => ob_plain rfl (load_fnb rfl he.1 (Blk.at0 HFn.out hb))
            · exact fun aa ww hb he hd => ob_plain rfl (load_bn rfl he.2.1 (Bn.new HTb.out hb))
            · exact fun aa ww hb he hd => ob_plain rfl (load_bn rfl he.2.2.1 (Bn.new HOne.out hb))
            · exact fun aa ww hb he hd => ob_plain rfl (gives_call2 _ _ _ _ rfl (by kernel_rfl) (cmp_v (hd.1.rw) (hd.2.1.rw) (by have := ck_fit HBd.out (show nn ≤ 7 by have := HN6.out; omega); omega)))
            · exact fun aa ww hb he hd => ob_plain rfl (gives_le_int (rcq (tsm (fun v => ei.testBit v) P nn) 1) 0 .i64 _ _ _ _ rfl hd.1 rfl ⟨congrArg Value.bool (rcq_le9), Below.refl _ _⟩)
          intro vs w11 hb hR _
          have e85 : vs 0 = .func (.func 55) #[] #[.pointer (some ⟨g7, 0, none⟩)] := hR 0 (by decide)
          have e89 : vs 4 = .bool (decide (tsm (fun v => ei.testBit v) P nn ≤ 1)) := hR 4 (by decide)
          clear hR
          simp only [putsL, Nat.zero_add, Nat.reduceAdd, List.take_succ_cons, List.take_zero, Act.put, List.setIfInBounds_toArray, List.set_cons_zero, List.set_cons_succ]
          rw [e85, e89]
          clear e85 e89
          replace HJ := Lib.hid (CkS.below HJ.out hb)
          clear hb
          show wpAny _ _ _ _ 1 _ _ _
          refine wpAny_next (i := 5) (by kernel_rfl) rfl rfl (wp_of_gives (gives_dyn _ _ 85 _ _ rfl rfl (by kernel_rfl) ((ck1_any g7 _ (decide (tsm (fun v => ei.testBit v) P nn ≤ 1)) _ HJ.out.cr).mono (fun (e : Ending) w9 hq => (⟨.tuple #[], hq.1, rfl, hq.2⟩ : ∃ uu, e = .returned uu ∧ (uu = .tuple #[] ∧ RqE g7 (Q3 && allB (fun i => decide (tsm (fun v => (nth es i).testBit v) P nn ≤ 1)) i && decide (tsm (fun v => ei.testBit v) P nn ≤ 1)) _ w9))))) ?_)
          rintro _ w12 ⟨rfl, hq⟩
          show wpAny _ _ _ _ _ _ (Act.put _ (some 90) _) _
          simp only [Act.put, List.setIfInBounds_toArray, List.set_cons_zero, List.set_cons_succ]
          refine wpAny_end (by kernel_rfl) (calm_normal ?_) _
          have HJ2 := Lib.hid (HJ.out.req hq)
          clear hq HJ HTb HFn HOne H13 H14
          have hl7 := HL7.out
          have i7 : (i : Int) ≤ 7 := by omega
          go_wp2_with fail
          go_roundg (gk - 1)
          case measure => omega
          case rel => exact ⟨i + 1, by go_num, by omega, Lib.hid (by rw [← ck_and, ← HEe.out]; exact HJ2.out)⟩
        · obtain rfl : len = i := by omega
          obtain ⟨Q4, hQ4⟩ : ∃ Q4, Q4 = (Q3 && allB (fun i => decide (tsm (fun v => (nth es i).testBit v) P nn ≤ 1)) len) := ⟨_, rfl⟩
          rw [← hQ4] at HJ
          have HQ4 := Lib.hid hQ4; clear hQ4
          have HFn := Lib.hid HJ.out.fn; have HCv := Lib.hid HJ.out.cv; have HVv := Lib.hid HJ.out.v
          go_upto_region 21 with (fail)
          refine wp_region_join (kss := [[], [], [(1, 93)], [], [(2, 94), (3, 95)], [], [(5, 97)], [(4, 96), (6, 98)], [(7, 99)]]) [(9, .pointer (some ⟨g9, 0, none⟩)), (5, .pointer (some ⟨g5, 0, none⟩)), (15, .func (.func 62) #[] #[])] [EV (.func (.func 55) #[] #[.pointer (some ⟨g7, 0, none⟩)]), EV (.pointer (some ⟨g5, 0, none⟩)), EV (.slice AW len cw), EV (.func (.func 62) #[] #[]), Rv (2 + len * (b + 1)) (tsm (fun _ => true) W len), EV (.pointer (some ⟨g5, 2, none⟩)), Rw (b) (x), EV (.int .i64 (rcq (tsm (fun _ => true) W len) x)), EV (.bool (decide (tsm (fun _ => true) W len = x)))] 9 [] (by kernel_rfl) (by kernel_rfl) ⟨rfl, rfl, rfl, trivial⟩ [false, false, false, false, false, false, false, false, false] ?_ ?_ ?_ ?_
          · exact fun i hi => absurd hi (by simp)
          · exact ⟨eI, eI, eI, eI, fun _ _ _ h hb => h.new hb, eI, fun _ _ _ h hb => h.new hb, eI, eI, trivial⟩
          · refine ⟨?_, ?_, ?_, ?_, ?_, ?_, ?_, ?_, ?_, trivial⟩
            · exact fun aa ww hb he hd => ob_plain rfl (load_fnb rfl he.1 (Blk.at0 HFn.out hb))
            · exact fun aa ww hb he hd => ob_plain rfl (fld_cov (k := 0) rfl (by decide) he.2.1)
            · exact fun aa ww hb he hd => ob_plain rfl (load_c28 rfl hd.1 (Blk.at0 HCv.out hb))
            · exact fun _ _ _ he hd => ob_mv rfl rfl he.2.2.1
            · exact fun aa ww hb he hd => ob_plain rfl (gives_call2 _ _ _ _ rfl (by kernel_rfl) (by rw [show aa.eval (.tmp 94) = _ from hd.1, show aa.eval (.tmp 95) = _ from hd.2.1]; exact total_any 62 HK.out.2.2.2.2 #[] (fun _ => true) len cw b AW W _ (Rs.moreB (HJ.out.below hb).rw (HJ.out.below hb).hb.size) (fun i w' hi hb => ck6_any i w') (by have := HL7.out; have := HN6.out; omega) (Nat.le_trans (ck_fit (n := len) HBd.out (by have := HL7.out; have := HN6.out; omega)) (by decide))))
            · exact fun aa ww hb he hd => ob_plain rfl (fld_cov (k := 2) rfl (by decide) he.2.1)
            · exact fun aa ww hb he hd => ob_plain rfl (load_cvv rfl hd.1 (Blk.keep HCv.out hb) (Rw.new HVv.out hb))
            · exact fun aa ww hb he hd => ob_plain rfl (gives_call2 _ _ _ _ rfl (by kernel_rfl) (cmp_v (hd.1.rw) (hd.2.1) (by have := ck_fit HBd.out (show len ≤ 7 by have := HN6.out; have := HL7.out; omega); omega)))
            · exact fun aa ww hb he hd => ob_plain rfl (gives_eq_int (rcq (tsm (fun _ => true) W len) x) 0 .i64 _ _ _ _ rfl hd.1 rfl ⟨congrArg Value.bool (rcq_eq9), Below.refl _ _⟩)
          intro vs w8 hb hR _
          have e92 : vs 0 = .func (.func 55) #[] #[.pointer (some ⟨g7, 0, none⟩)] := hR 0 (by decide)
          have e100 : vs 8 = .bool (decide (tsm (fun _ => true) W len = x)) := hR 8 (by decide)
          clear hR
          simp only [putsL, Nat.zero_add, Nat.reduceAdd, List.take_succ_cons, List.take_zero, Act.put, List.setIfInBounds_toArray, List.set_cons_zero, List.set_cons_succ]
          rw [e92, e100]
          clear e92 e100
          replace HJ := Lib.hid (CkS.below HJ.out hb)
          clear hb
          show wpAny _ _ _ _ 1 _ _ _
          refine wpAny_next (i := 9) (by kernel_rfl) rfl rfl (wp_of_gives (gives_dyn _ _ 92 _ _ rfl rfl (by kernel_rfl) ((ck1_any g7 _ (decide (tsm (fun _ => true) W len = x)) _ HJ.out.cr).mono (fun (e : Ending) w9 hq => (⟨.tuple #[], hq.1, rfl, hq.2⟩ : ∃ uu, e = .returned uu ∧ (uu = .tuple #[] ∧ RqE g7 (Q4 && decide (tsm (fun _ => true) W len = x)) _ w9))))) ?_)
          rintro _ w9 ⟨rfl, hq⟩
          show wpAny _ _ _ _ _ _ (Act.put _ (some 101) _) _
          simp only [Act.put, List.setIfInBounds_toArray, List.set_cons_zero, List.set_cons_succ]
          refine wpAny_end (by kernel_rfl) (calm_normal ?_) _
          replace HJ := Lib.hid (HJ.out.req hq)
          clear hq HFn HCv HVv
          obtain ⟨Q5, hQ5⟩ : ∃ Q5, Q5 = (Q4 && decide (tsm (fun _ => true) W len = x)) := ⟨_, rfl⟩
          rw [← hQ5] at HJ
          have HQ5 := Lib.hid hQ5; clear hQ5
          have HFn := Lib.hid HJ.out.fn; have HCv := Lib.hid HJ.out.cv; have HVv := Lib.hid HJ.out.v
          go_upto_region 22 with (fail)
          refine wp_region_join (kss := [[], [], [(1, 103)], [], [(2, 104), (3, 105)], [], [(5, 107)], [(4, 106), (6, 108)], [(7, 109)]]) [(9, .pointer (some ⟨g9, 0, none⟩)), (5, .pointer (some ⟨g5, 0, none⟩)), (15, .func (.func 62) #[] #[])] [EV (.func (.func 55) #[] #[.pointer (some ⟨g7, 0, none⟩)]), EV (.pointer (some ⟨g5, 1, none⟩)), EV (.slice AP nn cp), EV (.func (.func 62) #[] #[]), Rv (2 + nn * (b + 1)) (tsm (fun _ => true) P nn), EV (.pointer (some ⟨g5, 2, none⟩)), Rw (b) (x), EV (.int .i64 (rcq (tsm (fun _ => true) P nn) x)), EV (.bool (decide (tsm (fun _ => true) P nn = x)))] 9 [] (by kernel_rfl) (by kernel_rfl) ⟨rfl, rfl, rfl, trivial⟩ [false, false, false, false, false, false, false, false, false] ?_ ?_ ?_ ?_
          · exact fun i hi => absurd hi (by simp)
          · exact ⟨eI, eI, eI, eI, fun _ _ _ h hb => h.new hb, eI, fun _ _ _ h hb => h.new hb, eI, eI, trivial⟩
          · refine ⟨?_, ?_, ?_, ?_, ?_, ?_, ?_, ?_, ?_, trivial⟩
            · exact fun aa ww hb he hd => ob_plain rfl (load_fnb rfl he.1 (Blk.at0 HFn.out hb))
            · exact fun aa ww hb he hd => ob_plain rfl (fld_cov (k := 1) rfl (by decide) he.2.1)
            · exact fun aa ww hb he hd => ob_plain rfl (load_c28 rfl hd.1 (Blk.at1 HCv.out hb))
            · exact fun _ _ _ he hd => ob_mv rfl rfl he.2.2.1
            · exact fun aa ww hb he hd => ob_plain rfl (gives_call2 _ _ _ _ rfl (by kernel_rfl) (by rw [show aa.eval (.tmp 104) = _ from hd.1, show aa.eval (.tmp 105) = _ from hd.2.1]; exact total_any 62 HK.out.2.2.2.2 #[] (fun _ => true) nn cp b AP P _ (Rs.moreB (HJ.out.below hb).rp (HJ.out.below hb).hb.size) (fun i w' hi hb => ck6_any i w') (by have := HL7.out; have := HN6.out; omega) (Nat.le_trans (ck_fit (n := nn) HBd.out (by have := HL7.out; have := HN6.out; omega)) (by decide))))
            · exact fun aa ww hb he hd => ob_plain rfl (fld_cov (k := 2) rfl (by decide) he.2.1)
            · exact fun aa ww hb he hd => ob_plain rfl (load_cvv rfl hd.1 (Blk.keep HCv.out hb) (Rw.new HVv.out hb))
            · exact fun aa ww hb he hd => ob_plain rfl (gives_call2 _ _ _ _ rfl (by kernel_rfl) (cmp_v (hd.1.rw) (hd.2.1) (by have := ck_fit HBd.out (show nn ≤ 7 by have := HN6.out; have := HL7.out; omega); omega)))
            · exact fun aa ww hb he hd => ob_plain rfl (gives_eq_int (rcq (tsm (fun _ => true) P nn) x) 0 .i64 _ _ _ _ rfl hd.1 rfl ⟨congrArg Value.bool (rcq_eq9), Below.refl _ _⟩)
          intro vs w10 hb hR _
          have e102 : vs 0 = .func (.func 55) #[] #[.pointer (some ⟨g7, 0, none⟩)] := hR 0 (by decide)
          have e110 : vs 8 = .bool (decide (tsm (fun _ => true) P nn = x)) := hR 8 (by decide)
          clear hR
          simp only [putsL, Nat.zero_add, Nat.reduceAdd, List.take_succ_cons, List.take_zero, Act.put, List.setIfInBounds_toArray, List.set_cons_zero, List.set_cons_succ]
          rw [e102, e110]
          clear e102 e110
          replace HJ := Lib.hid (CkS.below HJ.out hb)
          clear hb
          show wpAny _ _ _ _ 1 _ _ _
          refine wpAny_next (i := 9) (by kernel_rfl) rfl rfl (wp_of_gives (gives_dyn _ _ 102 _ _ rfl rfl (by kernel_rfl) ((ck1_any g7 _ (decide (tsm (fun _ => true) P nn = x)) _ HJ.out.cr).mono (fun (e : Ending) w9 hq => (⟨.tuple #[], hq.1, rfl, hq.2⟩ : ∃ uu, e = .returned uu ∧ (uu = .tuple #[] ∧ RqE g7 (Q5 && decide (tsm (fun _ => true) P nn = x)) _ w9))))) ?_)
          rintro _ w11 ⟨rfl, hq⟩
          show wpAny _ _ _ _ _ _ (Act.put _ (some 111) _) _
          simp only [Act.put, List.setIfInBounds_toArray, List.set_cons_zero, List.set_cons_succ]
          refine wpAny_end (by kernel_rfl) (calm_normal ?_) _
          replace HJ := Lib.hid (HJ.out.req hq)
          clear hq HFn HCv HVv
          have x7 := Blk.at0 HJ.out.cr (Below.refl _ _)
          go_wp2_with fail
          go_ret
          have hfin : (Q5 && decide (tsm (fun _ => true) P nn = x)) = ckB nn len (nth es) s W P x := by rw [HQ5.out, HQ4.out, HQ3.out, HQ2.out, HQ1.out, Bool.true_and]; rfl
          refine ⟨_, rfl, ⟨_, rfl, ?_⟩, HJ.out.hb⟩
          rw [hfin, ckB_iff]
          exact ⟨fun h => ⟨HOk.out.1, HOk.out.2, rfl, by simp, by simpa using h⟩, fun h => by simpa using h.2.2.2.2⟩
end Go.Proofs.Ytpnklmgfdihjfaa
namespace Go.Proofs.Ytpnklmgfdihjfaa
open Go.RowKit
set_option linter.unusedVariables false
set_option linter.unusedSimpArgs false

theorem len32_gt {s n : Nat} (hs : s < 4294967296) (hn : n ≤ 32) : n < Lib.bitLen s ↔ andn s (2 ^ n - 1) ≠ 0 := by
  have hb := andn_below (n := n) (e := s) hn hs
  by_cases h0 : s = 0
  · subst h0
    exact ⟨fun h => absurd h (by rw [show Lib.bitLen 0 = 0 from rfl]; omega), fun h => absurd (by unfold andn; rw [Nat.zero_and]) h⟩
  · obtain ⟨h1, h2, h3⟩ := bitLen_spec 32 s hs (by omega) h0
    constructor
    · intro h e
      have h4 := hb.1 e
      have h5 : 2 ^ n ≤ 2 ^ (Lib.bitLen s - 1) := Nat.pow_le_pow_right (by omega) (by omega)
      omega
    · intro h
      by_cases h4 : n < Lib.bitLen s
      · exact h4
      · exact absurd (hb.2 (Nat.lt_of_lt_of_le h3 (Nat.pow_le_pow_right (by omega) (by omega)))) h
theorem len32_v (s : Nat) (hs : s < 4294967296) (w : World) : Calls Try.prog 30 #[.int .u32 (s : Int)] w (RV w (fun v _ => v = .int .i64 ((Lib.bitLen s : Nat) : Int))) := by
  refine (Try.bits_Len32 (s : Int) w (by omega) (by omega)).mono ?_
  rintro e w' ⟨rfl, rfl⟩
  exact ⟨_, rfl, rfl, Below.refl _ _⟩
end Go.Proofs.Ytpnklmgfdihjfaa
namespace Go.Proofs.Ytpnklmgfdihjfaa
open Go.RowKit
set_option linter.unusedVariables false
set_option linter.unusedSimpArgs false

/-- What made answers. -/
def MadeR (a bn : Nat) (xs ys : List Int) (dn : Nat) (vN : Int) (v : Value) (w : World) : Prop := ∃ (A2 : Option Addr) (c2 : Nat) (D2 : Option Addr) (d2 : Nat) (s2 : Bool) (A5 : Option Addr) (k5 c5 : Nat) (B5 : Option Addr) (m5 d5 : Nat) (A1 : Option Addr) (c1 : Nat) (D1 : Option Addr) (d1 : Nat),
  v = .tuple #[.agg #[.slice A2 a c2, .slice D2 bn d2, .bool s2, .slice A5 k5 c5, .slice B5 m5 d5], .slice A1 a c1, .slice D1 bn d1, .int .i64 (dn : Int)] ∧ Rs w w.heap.size A2 a (PW w 2 (fun j => ((inth xs j : Int) : Rat) / ((dn : Int) : Rat))) ∧ Rs w w.heap.size D2 bn (PW w 2 (fun j => ((inth ys j : Int) : Rat) / ((dn : Int) : Rat))) ∧ Rw 2 (((vN : Int) : Rat) / ((dn : Int) : Rat)) (.agg #[.bool s2, .slice A5 k5 c5, .slice B5 m5 d5]) w ∧ Xs w w.heap.size A1 a xs ∧ Xs w w.heap.size D1 bn ys
set_option maxRecDepth 100000 in
set_option maxHeartbeats 8000000 in
theorem made_any (D a bn ca cb : Nat) (AX AY : Option Addr) (xs ys : List Int) (vN : Int) (w : World) (hX : Ks .i8 128 w w.heap.size AX a xs) (hY : Ks .i8 128 w w.heap.size AY bn ys) (hD : D ≤ 255) (hv : -128 ≤ vN ∧ vN < 128) (hln : a ≤ 1100000 ∧ bn ≤ 1100000) :
    Calls Try.prog 14 #[.agg #[.int .u8 (D : Int), .slice AX a ca, .slice AY bn cb, .int .i8 vN]] w (RV w (MadeR a bn xs ys (D % 6 + 1) vN)) := by
  have HX0 := Lib.hid hX; have HY0 := Lib.hid hY; have HVn := Lib.hid hv; have HLn := Lib.hid hln; clear hX hY hv hln
  obtain ⟨dn, hdn⟩ : ∃ dn, dn = D % 6 + 1 := ⟨_, rfl⟩
  have e2 : (D : Int) % 6 + 1 = (dn : Int) := by omega
  have HDn := Lib.hid (show 1 ≤ dn ∧ dn ≤ 6 by omega)
  rw [← hdn]
  have HDe := Lib.hid hdn; clear hdn
  have e3 : ((D : Int) % 6) ≤ 5 := by omega
  have e4 : 0 ≤ ((D : Int) % 6) := by omega
  go_enter Try.func14, Try.ntmps14
  go_upto_region 1 with (fail)
  have hbw := bthen (al w (.cells #[.int .u8 (D : Int), .slice AX a ca, .slice AY bn cb, .int .i8 vN] 43)) (al _ (.cells #[.slice none 0 0, .slice none 0 0, .bool false, .slice none 0 0, .slice none 0 0] 33)) (by simp)
  have HG := Lib.hid ((Blk.new w 43 #[.int .u8 (D : Int), .slice AX a ca, .slice AY bn cb, .int .i8 vN]).keep (al _ (.cells #[.slice none 0 0, .slice none 0 0, .bool false, .slice none 0 0, .slice none 0 0] 33)))
  have H2 := Lib.hid (Blk.new (w.alloc (.cells #[.int .u8 (D : Int), .slice AX a ca, .slice AY bn cb, .int .i8 vN] 43)) 33 #[.slice none 0 0, .slice none 0 0, .bool false, .slice none 0 0, .slice none 0 0])
  rw [show (w.alloc (.cells #[.int .u8 (D : Int), .slice AX a ca, .slice AY bn cb, .int .i8 vN] 43)).heap.size = w.heap.size + 1 from by simp] at H2
  have HB := Lib.hid hbw
  clear hbw
  generalize (w.alloc (.cells #[.int .u8 (D : Int), .slice AX a ca, .slice AY bn cb, .int .i8 vN] 43)).alloc (.cells #[.slice none 0 0, .slice none 0 0, .bool false, .slice none 0 0, .slice none 0 0] 33) = w1 at *
  obtain ⟨g1, hg1⟩ : ∃ g1, g1 = w.heap.size := ⟨_, rfl⟩
  obtain ⟨g2, hg2⟩ : ∃ g2, g2 = w.heap.size + 1 := ⟨_, rfl⟩
  rw [← hg2] at H2 ⊢
  rw [← hg1] at HG ⊢
  have HGg1 := Lib.hid (show w.heap.size ≤ g1 ∧ w.heap.size ≤ g2 from by omega)
  clear hg1 hg2
  have HL0 := Lib.hid (show g1 < w1.heap.size ∧ g2 < w1.heap.size ∧ w.heap.size ≤ w1.heap.size from ⟨HG.out.lt, H2.out.lt, HB.out.size⟩)
  have x0 := Blk.at0 HG.out (Below.refl _ _)
  go_upto_region 2 with (fail)
  clear x0
  first | rw [e2] | (rw [show RowKit.wrap64 ((D : Int) % 6 + 1) = (dn : Int) from by unfold RowKit.wrap64; omega]) | skip
  clear e2 e3 e4
  go_upto_region 3 with (fail)
  have hbw := al w1 (.cells #[.slice none 0 0, .slice none 0 0, .bool false, .slice none 0 0, .slice none 0 0] 33)
  have HU := Lib.hid (Blk.new w1 33 #[.slice none 0 0, .slice none 0 0, .bool false, .slice none 0 0, .slice none 0 0])
  replace HB := Lib.hid (bthen HB.out hbw HB.out.size)
  replace HG := Lib.hid (HG.out.keep hbw)
  replace H2 := Lib.hid (H2.out.keep hbw)
  clear hbw
  generalize w1.alloc (.cells #[.slice none 0 0, .slice none 0 0, .bool false, .slice none 0 0, .slice none 0 0] 33) = w2 at *
  obtain ⟨g7, hg7⟩ : ∃ g7, g7 = w1.heap.size := ⟨_, rfl⟩
  rw [← hg7] at HU ⊢
  have HGg7 := Lib.hid (show w1.heap.size ≤ g7 from by omega)
  clear hg7
  obtain ⟨b0, hb0⟩ : ∃ b0, b0 = w2.heap.size := ⟨_, rfl⟩
  have hst : MdS w b0 g1 g2 g7 #[.int .u8 (D : Int), .slice AX a ca, .slice AY bn cb, .int .i8 vN] (.slice none 0 0) (.slice none 0 0) (.slice none 0 0) 0 [] (.slice none 0 0) 0 (fun j => ((inth xs j : Int) : Rat) / ((dn : Int) : Rat)) (.slice none 0 0) 0 [] (.slice none 0 0) 0 (fun j => ((inth ys j : Int) : Rat) / ((dn : Int) : Rat)) w2 := ⟨HG.out, H2.out, HU.out, OwnC.nil _ _ _ _, OR.nil _ _ _, OwnC.nil _ _ _ _, OR.nil _ _ _, ⟨.inl rfl, .inl rfl⟩, ⟨.inl rfl, .inl rfl⟩, HB.out, by have h1 := HG.out.lt; have h2 := H2.out.lt; have h3 := HU.out.lt; have := HL0.out; have := HGg7.out; omega, by omega⟩
  have HI := Lib.hid hst
  clear hst HG H2 HU HB hb0 HL0
  have x1 := Blk.at1 HI.out.gb (Below.refl _ _)
  go_wp2_with fail
  clear x1
  go_loopg [22, 8] a (fun g iv ov wr => ∃ (i c1 c2 : Nat) (A1 A2 : Option Addr), iv = .int .i64 i ∧ ov = .slice A1 i c1 ∧ i + g = a ∧ Hid (MdS w b0 g1 g2 g7 #[.int .u8 (D : Int), .slice AX a ca, .slice AY bn cb, .int .i8 vN] (.slice A2 i c2) (.slice none 0 0) (.slice A1 i c1) i (I64 (xs.take i)) (.slice A2 i c2) i (fun j => ((inth xs j : Int) : Rat) / ((dn : Int) : Rat)) (.slice none 0 0) 0 [] (.slice none 0 0) 0 (fun j => ((inth ys j : Int) : Rat) / ((dn : Int) : Rat)) wr))
  case atStart => exact ⟨0, 0, 0, none, none, rfl, rfl, by omega, HI⟩
  case round =>
    obtain ⟨i, c1, c2, A1, A2, rfl, rfl, hin, HJ⟩ := hrel
    clear HI
    by_cases hi : i < a
    · have i1 : ((i : Int) < (a : Int)) := by omega
      have i6 : (i : Int) ≤ 1100000 := by have := HLn.out; omega
      obtain ⟨adX, hAd, -, hcX⟩ := (HX0.out.below HJ.out.hb).at_ hi
      have hxb := (HX0.out).lt hi
      obtain ⟨xi, hxi⟩ : ∃ xi, xi = inth xs i := ⟨_, rfl⟩
      rw [← hxi] at hcX hxb
      have HXi := Lib.hid hxi; have HXb := Lib.hid hxb; clear hxi hxb
      subst hAd
      go_upto_region 7 with (fail)
      clear hcX
      refine wp_region_joins (kss := [[], [], [(1, 27)], [(2, 28)]]) [(8, .slice A1 i c1), (11, .int .i8 xi)] [EV (.slice A1 i c1), EV (.int .i8 xi), EV (.int .i64 xi), fun zz w' => ∃ g0 : Nat, zz = .slice (some ⟨g0, 0, none⟩) 1 1 ∧ Blk w' g0 3 #[.int .i64 xi]] 4 (by kernel_rfl) ⟨rfl, rfl, trivial⟩ [false, false, false, false] ?_ ?_ ?_
      · exact ⟨eI, eI, eI, fun _ _ _ ⟨g0, h1, h2⟩ hb => ⟨g0, h1, h2.keep hb⟩, trivial⟩
      · refine ⟨?_, ?_, ?_, ?_, trivial⟩
        · exact fun _ _ _ he hd => ob_mv rfl rfl he.1
        · exact fun _ _ _ he hd => ob_mv rfl rfl he.2.1
        · exact fun aa ww hb he hd => ob_plain rfl (conv_i8n HXb.out rfl hd.1)
        · exact fun aa ww hb he hd => ob_plain rfl (gives_bs_int rfl hd.1)
      intro vs w3 hb hR
      have e26 : vs 0 = .slice A1 i c1 := hR 0 (by decide)
      have r29 := hR 3 (by decide)
      clear hR
      simp only [putsL, Nat.zero_add, Nat.reduceAdd, List.take_succ_cons, List.take_zero, Act.put, List.setIfInBounds_toArray, List.set_cons_zero, List.set_cons_succ]
      rw [e26]
      clear e26
      obtain ⟨g0, e29, hz⟩ := r29
      rw [e29]
      clear e29
      replace HJ := Lib.hid (MdS.below HJ.out hb)
      clear hb
      show wpOps _ _ _ [4, 5] _ _
      refine wpOps_next rfl rfl (wp_app_int9 _ _ rfl b0 (.slice A1 i c1) i _ rfl HJ.out.w1 g0 xi rfl hz (by omega) HJ.out.sz ?_)
      intro v' w4 ho hgr hor kp
      obtain ⟨A8, c8, rfl⟩ := own_form ho.own
      show wpOps _ _ _ _ (Act.put _ (some 30) _) _
      simp only [Act.put, List.setIfInBounds_toArray, List.set_cons_zero, List.set_cons_succ]
      replace HJ := Lib.hid (HJ.out.pushW ho hgr hor kp)
      clear ho hgr hor kp hz
      refine wpOps_next rfl rfl (wp_assign 8 (.tmp 30) rfl rfl (.slice A8 (i + 1) c8) rfl ?_)
      simp only [Act.put, List.setIfInBounds_toArray, List.set_cons_zero, List.set_cons_succ]
      unfold wpOps
      go_upto_region 8 with (fail)
      refine wp_region_join (kss := [[], [(0, 31)], [], [(2, 33)], [], [(3, 34), (4, 35)], [(5, 36)]]) [(7, .pointer (some ⟨g7, 0, none⟩)), (11, .int .i8 xi), (6, .int .i64 ((dn : Int)))] [EV (.pointer (some ⟨g7, 0, none⟩)), EV (.slice A2 i c2), EV (.int .i8 xi), EV (.int .i64 xi), EV (.int .i64 ((dn : Int))), Rv (2) (((xi : Int) : Rat) / ((dn : Int) : Rat)), OneN (2) (((xi : Int) : Rat) / ((dn : Int) : Rat))] 7 [] (by kernel_rfl) (by kernel_rfl) ⟨rfl, rfl, rfl, trivial⟩ [false, false, false, false, false, false, false] ?_ ?_ ?_ ?_
      · exact fun i hi => absurd hi (by simp)
      · exact ⟨eI, eI, eI, eI, eI, fun _ _ _ h hb => h.new hb, fun _ _ _ h hb => h.new hb, trivial⟩
      · refine ⟨?_, ?_, ?_, ?_, ?_, ?_, ?_, trivial⟩
        · exact fun aa ww hb he hd => ob_plain rfl (fld_cov (k := 0) rfl (by decide) he.1)
        · exact fun aa ww hb he hd => ob_plain rfl (load_c28 rfl hd.1 (Blk.at0 HJ.out.cu hb))
        · exact fun _ _ _ he hd => ob_mv rfl rfl he.2.1
        · exact fun aa ww hb he hd => ob_plain rfl (conv_i8l HXb.out rfl hd.1)
        · exact fun _ _ _ he hd => ob_mv rfl rfl he.2.2.1
        · exact fun aa ww hb he hd => ob_plain rfl (gives_call2 _ _ _ _ rfl (by kernel_rfl) (by rw [show aa.eval (.tmp 34) = _ from hd.1, show aa.eval (.tmp 35) = _ from hd.2.1]; exact of29_any xi (dn : Int) (by have := HXb.out; omega) (by have := HDn.out; omega) (by have := HDn.out; omega) _))
        · exact fun aa ww hb he hd => ob_plain rfl (gives_one_n rfl hd.1)
      intro vs w5 hb hR _
      have r37 : OneN (2) (((xi : Int) : Rat) / ((dn : Int) : Rat)) (vs 6) w5 := hR 6 (by decide)
      have e32 : vs 1 = .slice A2 i c2 := hR 1 (by decide)
      clear hR
      simp only [putsL, Nat.zero_add, Nat.reduceAdd, List.take_succ_cons, List.take_zero, Act.put, List.setIfInBounds_toArray, List.set_cons_zero, List.set_cons_succ]
      rw [e32]
      clear e32
      obtain ⟨A7, e37, hr1⟩ := r37
      rw [e37]
      clear e37
      replace HJ := Lib.hid (MdS.below HJ.out hb)
      clear hb
      show wpAny _ _ _ _ 3 _ _ _
      refine wpAny_next (i := 7) (by kernel_rfl) rfl rfl (wp_push_rat9 _ _ rfl b0 (.slice A2 i c2) i _ rfl HJ.out.w2 w5.heap.size A7 1 _ rfl hr1 (by omega) HJ.out.sz ?_)
      intro v' w6 ho hgr hor kp
      have hO := ho (PN w6 2 (fun j => ((inth xs j : Int) : Rat) / ((dn : Int) : Rat))) (fun l u hl hv => PN.keep hv kp) (fun u hv => by have h := PN.keep (f := fun _ => ((xi : Int) : Rat) / ((dn : Int) : Rat)) (j := 0) hv kp; show Rv 2 (((inth xs i : Int) : Rat) / ((dn : Int) : Rat)) u w6; rw [← HXi.out]; exact h)
      obtain ⟨A9, c9, rfl⟩ := hO.form
      show wpAny _ _ _ _ _ _ (Act.put _ (some 38) _) _
      simp only [Act.put, List.setIfInBounds_toArray, List.set_cons_zero, List.set_cons_succ]
      replace HJ := Lib.hid (HJ.out.pushX hO hgr hor kp)
      clear ho hO hgr hor kp hr1
      refine wpAny_next (i := 8) (by kernel_rfl) rfl rfl (wp_of_gives (fld_cov (k := 0) rfl (by decide) rfl) ?_)
      rintro _ w7 ⟨rfl, hb⟩
      replace HJ := Lib.hid (MdS.below HJ.out hb)
      clear hb
      show wpAny _ _ _ _ _ _ (Act.put _ (some 39) _) _
      simp only [Act.put, List.setIfInBounds_toArray, List.set_cons_zero, List.set_cons_succ]
      refine wpAny_next (i := 9) (by kernel_rfl) rfl rfl (store_c28 rfl rfl rfl rfl (Blk.at0 HJ.out.cu (Below.refl _ _)) (HJ.out.cu.frozen 0) ?_)
      replace HJ := Lib.hid (HJ.out.set0 (x := .slice A9 (i + 1) c9) (by intro z; simp))
      generalize w7.setCell ⟨g7, 0, none⟩ (.slice A9 (i + 1) c9) = w8 at *
      refine wpAny_end (by kernel_rfl) (calm_normal ?_) _
      go_wp2_with fail
      go_roundg (gk - 1)
      case measure => omega
      case rel => exact ⟨i + 1, c8, c9, A8, A9, by go_num, rfl, by omega, by rw [I64_take (by have := HX0.out.2.1.1; omega), HXi.out.symm]; exact HJ⟩
    · obtain rfl : a = i := by omega
      have HI := Lib.hid (show MdS w b0 g1 g2 g7 #[.int .u8 (D : Int), .slice AX a ca, .slice AY bn cb, .int .i8 vN] (.slice A2 a c2) (.slice none 0 0) (.slice A1 a c1) a (I64 (xs.take a)) (.slice A2 a c2) a (fun j => ((inth xs j : Int) : Rat) / ((dn : Int) : Rat)) (.slice none 0 0) 0 (I64 (ys.take 0)) (.slice none 0 0) 0 (fun j => ((inth ys j : Int) : Rat) / ((dn : Int) : Rat)) wr from HJ.out)
      clear HJ
      have x2 := Blk.at2 HI.out.gb (Below.refl _ _)
      go_wp2_with fail
      clear x2
      go_loopg [44, 9] bn (fun g iv ov wr => ∃ (i d1 d2 : Nat) (D1 D2 : Option Addr), iv = .int .i64 i ∧ ov = .slice D1 i d1 ∧ i + g = bn ∧ Hid (MdS w b0 g1 g2 g7 #[.int .u8 (D : Int), .slice AX a ca, .slice AY bn cb, .int .i8 vN] (.slice A2 a c2) (.slice D2 i d2) (.slice A1 a c1) a (I64 (xs.take a)) (.slice A2 a c2) a (fun j => ((inth xs j : Int) : Rat) / ((dn : Int) : Rat)) (.slice D1 i d1) i (I64 (ys.take i)) (.slice D2 i d2) i (fun j => ((inth ys j : Int) : Rat) / ((dn : Int) : Rat)) wr))
      case atStart => exact ⟨0, 0, 0, none, none, rfl, rfl, by omega, HI⟩
      case round =>
        obtain ⟨i, d1, d2, D1, D2, rfl, rfl, hin, HJ⟩ := hrel
        clear HI
        by_cases hi : i < bn
        · have i1 : ((i : Int) < (bn : Int)) := by omega
          have i6 : (i : Int) ≤ 1100000 := by have := HLn.out; omega
          obtain ⟨adX, hAd, -, hcX⟩ := (HY0.out.below HJ.out.hb).at_ hi
          have hxb := (HY0.out).lt hi
          obtain ⟨xi, hxi⟩ : ∃ xi, xi = inth ys i := ⟨_, rfl⟩
          rw [← hxi] at hcX hxb
          have HXi := Lib.hid hxi; have HXb := Lib.hid hxb; clear hxi hxb
          subst hAd
          go_upto_region 13 with (fail)
          clear hcX
          refine wp_region_joins (kss := [[], [], [(1, 49)], [(2, 50)]]) [(9, .slice D1 i d1), (13, .int .i8 xi)] [EV (.slice D1 i d1), EV (.int .i8 xi), EV (.int .i64 xi), fun zz w' => ∃ g0 : Nat, zz = .slice (some ⟨g0, 0, none⟩) 1 1 ∧ Blk w' g0 3 #[.int .i64 xi]] 4 (by kernel_rfl) ⟨rfl, rfl, trivial⟩ [false, false, false, false] ?_ ?_ ?_
          · exact ⟨eI, eI, eI, fun _ _ _ ⟨g0, h1, h2⟩ hb => ⟨g0, h1, h2.keep hb⟩, trivial⟩
          · refine ⟨?_, ?_, ?_, ?_, trivial⟩
            · exact fun _ _ _ he hd => ob_mv rfl rfl he.1
            · exact fun _ _ _ he hd => ob_mv rfl rfl he.2.1
            · exact fun aa ww hb he hd => ob_plain rfl (conv_i8n HXb.out rfl hd.1)
            · exact fun aa ww hb he hd => ob_plain rfl (gives_bs_int rfl hd.1)
          intro vs w3 hb hR
          have e48 : vs 0 = .slice D1 i d1 := hR 0 (by decide)
          have r51 := hR 3 (by decide)
          clear hR
          simp only [putsL, Nat.zero_add, Nat.reduceAdd, List.take_succ_cons, List.take_zero, Act.put, List.setIfInBounds_toArray, List.set_cons_zero, List.set_cons_succ]
          rw [e48]
          clear e48
          obtain ⟨g0, e51, hz⟩ := r51
          rw [e51]
          clear e51
          replace HJ := Lib.hid (MdS.below HJ.out hb)
          clear hb
          show wpOps _ _ _ [4, 5] _ _
          refine wpOps_next rfl rfl (wp_app_int9 _ _ rfl b0 (.slice D1 i d1) i _ rfl HJ.out.p1 g0 xi rfl hz (by omega) HJ.out.sz ?_)
          intro v' w4 ho hgr hor kp
          obtain ⟨A8, c8, rfl⟩ := own_form ho.own
          show wpOps _ _ _ _ (Act.put _ (some 52) _) _
          simp only [Act.put, List.setIfInBounds_toArray, List.set_cons_zero, List.set_cons_succ]
          replace HJ := Lib.hid (HJ.out.pushP ho hgr hor kp)
          clear ho hgr hor kp hz
          refine wpOps_next rfl rfl (wp_assign 9 (.tmp 52) rfl rfl (.slice A8 (i + 1) c8) rfl ?_)
          simp only [Act.put, List.setIfInBounds_toArray, List.set_cons_zero, List.set_cons_succ]
          unfold wpOps
          go_upto_region 14 with (fail)
          refine wp_region_join (kss := [[], [(0, 53)], [], [(2, 55)], [], [(3, 56), (4, 57)], [(5, 58)]]) [(7, .pointer (some ⟨g7, 0, none⟩)), (13, .int .i8 xi), (6, .int .i64 ((dn : Int)))] [EV (.pointer (some ⟨g7, 1, none⟩)), EV (.slice D2 i d2), EV (.int .i8 xi), EV (.int .i64 xi), EV (.int .i64 ((dn : Int))), Rv (2) (((xi : Int) : Rat) / ((dn : Int) : Rat)), OneN (2) (((xi : Int) : Rat) / ((dn : Int) : Rat))] 7 [] (by kernel_rfl) (by kernel_rfl) ⟨rfl, rfl, rfl, trivial⟩ [false, false, false, false, false, false, false] ?_ ?_ ?_ ?_
          · exact fun i hi => absurd hi (by simp)
          · exact ⟨eI, eI, eI, eI, eI, fun _ _ _ h hb => h.new hb, fun _ _ _ h hb => h.new hb, trivial⟩
          · refine ⟨?_, ?_, ?_, ?_, ?_, ?_, ?_, trivial⟩
            · exact fun aa ww hb he hd => ob_plain rfl (fld_cov (k := 1) rfl (by decide) he.1)
            · exact fun aa ww hb he hd => ob_plain rfl (load_c28 rfl hd.1 (Blk.at1 HJ.out.cu hb))
            · exact fun _ _ _ he hd => ob_mv rfl rfl he.2.1
            · exact fun aa ww hb he hd => ob_plain rfl (conv_i8l HXb.out rfl hd.1)
            · exact fun _ _ _ he hd => ob_mv rfl rfl he.2.2.1
            · exact fun aa ww hb he hd => ob_plain rfl (gives_call2 _ _ _ _ rfl (by kernel_rfl) (by rw [show aa.eval (.tmp 56) = _ from hd.1, show aa.eval (.tmp 57) = _ from hd.2.1]; exact of29_any xi (dn : Int) (by have := HXb.out; omega) (by have := HDn.out; omega) (by have := HDn.out; omega) _))
            · exact fun aa ww hb he hd => ob_plain rfl (gives_one_n rfl hd.1)
          intro vs w5 hb hR _
          have r59 : OneN (2) (((xi : Int) : Rat) / ((dn : Int) : Rat)) (vs 6) w5 := hR 6 (by decide)
          have e54 : vs 1 = .slice D2 i d2 := hR 1 (by decide)
          clear hR
          simp only [putsL, Nat.zero_add, Nat.reduceAdd, List.take_succ_cons, List.take_zero, Act.put, List.setIfInBounds_toArray, List.set_cons_zero, List.set_cons_succ]
          rw [e54]
          clear e54
          obtain ⟨A7, e59, hr1⟩ := r59
          rw [e59]
          clear e59
          replace HJ := Lib.hid (MdS.below HJ.out hb)
          clear hb
          show wpAny _ _ _ _ 3 _ _ _
          refine wpAny_next (i := 7) (by kernel_rfl) rfl rfl (wp_push_rat9 _ _ rfl b0 (.slice D2 i d2) i _ rfl HJ.out.p2 w5.heap.size A7 1 _ rfl hr1 (by omega) HJ.out.sz ?_)
          intro v' w6 ho hgr hor kp
          have hO := ho (PN w6 2 (fun j => ((inth ys j : Int) : Rat) / ((dn : Int) : Rat))) (fun l u hl hv => PN.keep hv kp) (fun u hv => by have h := PN.keep (f := fun _ => ((xi : Int) : Rat) / ((dn : Int) : Rat)) (j := 0) hv kp; show Rv 2 (((inth ys i : Int) : Rat) / ((dn : Int) : Rat)) u w6; rw [← HXi.out]; exact h)
          obtain ⟨A9, c9, rfl⟩ := hO.form
          show wpAny _ _ _ _ _ _ (Act.put _ (some 60) _) _
          simp only [Act.put, List.setIfInBounds_toArray, List.set_cons_zero, List.set_cons_succ]
          replace HJ := Lib.hid (HJ.out.pushY hO hgr hor kp)
          clear ho hO hgr hor kp hr1
          refine wpAny_next (i := 8) (by kernel_rfl) rfl rfl (wp_of_gives (fld_cov (k := 1) rfl (by decide) rfl) ?_)
          rintro _ w7 ⟨rfl, hb⟩
          replace HJ := Lib.hid (MdS.below HJ.out hb)
          clear hb
          show wpAny _ _ _ _ _ _ (Act.put _ (some 61) _) _
          simp only [Act.put, List.setIfInBounds_toArray, List.set_cons_zero, List.set_cons_succ]
          refine wpAny_next (i := 9) (by kernel_rfl) rfl rfl (store_c28 rfl rfl rfl rfl (Blk.at1 HJ.out.cu (Below.refl _ _)) (HJ.out.cu.frozen 1) ?_)
          replace HJ := Lib.hid (HJ.out.set1 (x := .slice A9 (i + 1) c9) (by intro z; simp))
          generalize w7.setCell ⟨g7, 1, none⟩ (.slice A9 (i + 1) c9) = w8 at *
          refine wpAny_end (by kernel_rfl) (calm_normal ?_) _
          go_wp2_with fail
          go_roundg (gk - 1)
          case measure => omega
          case rel => exact ⟨i + 1, c8, c9, A8, A9, by go_num, rfl, by omega, by rw [I64_take (by have := HY0.out.2.1.1; omega), HXi.out.symm]; exact HJ⟩
        · obtain rfl : bn = i := by omega
          go_upto_region 16 with (fail)
          refine wp_region_joins (kss := [[], [(0, 63)], [(1, 64)], [], [(2, 65), (3, 66)], []]) [(1, .pointer (some ⟨g1, 0, none⟩)), (6, .int .i64 ((dn : Int))), (7, .pointer (some ⟨g7, 0, none⟩))] [EV (.pointer (some ⟨g1, 3, none⟩)), EV (.int .i8 vN), EV (.int .i64 vN), EV (.int .i64 ((dn : Int))), Rv (2) (((vN : Int) : Rat) / ((dn : Int) : Rat)), EV (.pointer (some ⟨g7, 2, none⟩))] 6 (by kernel_rfl) ⟨rfl, rfl, rfl, trivial⟩ [false, false, false, false, false, false] ?_ ?_ ?_
          · exact ⟨eI, eI, eI, eI, fun _ _ _ h hb => h.new hb, eI, trivial⟩
          · refine ⟨?_, ?_, ?_, ?_, ?_, ?_, trivial⟩
            · exact fun aa ww hb he hd => ob_plain rfl (fld_gus (k := 3) rfl (by decide) he.1)
            · exact fun aa ww hb he hd => ob_plain rfl (load_i8n rfl hd.1 (Blk.at3 HJ.out.gb hb))
            · exact fun aa ww hb he hd => ob_plain rfl (conv_i8l HVn.out rfl hd.1)
            · exact fun _ _ _ he hd => ob_mv rfl rfl he.2.1
            · exact fun aa ww hb he hd => ob_plain rfl (gives_call2 _ _ _ _ rfl (by kernel_rfl) (by rw [show aa.eval (.tmp 65) = _ from hd.1, show aa.eval (.tmp 66) = _ from hd.2.1]; exact of29_any vN (dn : Int) (by have := HVn.out; omega) (by have := HDn.out; omega) (by have := HDn.out; omega) _))
            · exact fun aa ww hb he hd => ob_plain rfl (fld_cov (k := 2) rfl (by decide) he.2.2.1)
          intro vs w3 hb hR
          have r67 : Rv (2) (((vN : Int) : Rat) / ((dn : Int) : Rat)) (vs 4) w3 := hR 4 (by decide)
          have e68 : vs 5 = .pointer (some ⟨g7, 2, none⟩) := hR 5 (by decide)
          clear hR
          simp only [putsL, Nat.zero_add, Nat.reduceAdd, List.take_succ_cons, List.take_zero, Act.put, List.setIfInBounds_toArray, List.set_cons_zero, List.set_cons_succ]
          rw [e68]
          clear e68
          have HV := Lib.hid r67
          obtain ⟨s2, A5, k5, c5, B5, m5, d5, e67, -⟩ := r67
          rw [e67] at HV ⊢
          clear e67
          replace HJ := Lib.hid (MdS.below HJ.out hb)
          clear hb
          show wpOps _ _ _ [6] _ _
          refine wpOps_next rfl rfl (store_cv2 rfl rfl rfl rfl HJ.out.cu (by simp) (by simp [Value.oneCell']) ?_)
          intro w4 kp hg hsz hC
          have hl := HJ.out.lo
          have HC := Lib.hid hC; have HVv := Lib.hid (HV.out.keepN kp)
          have HW1 := Lib.hid (HJ.out.w1.blk HJ.out.cu (by decide) hg); have HW2 := Lib.hid (HJ.out.w2.blk HJ.out.cu (by decide) hg (fun _ _ _ hv => PN.keep hv kp)); have HP1 := Lib.hid (HJ.out.p1.blk HJ.out.cu (by decide) hg); have HP2 := Lib.hid (HJ.out.p2.blk HJ.out.cu (by decide) hg (fun _ _ _ hv => PN.keep hv kp))
          have HRs := Lib.hid (HJ.out.rs.grown hg (fun e => by injection e with e; omega))
          have HBf := Lib.hid (HJ.out.hb.grown hg HJ.out.hb.size (fun k e => by cases e; omega))
          have HL2 := Lib.hid (show w.heap.size ≤ g2 from HGg1.out.2)
          clear kp hg hsz hC HJ HV hl
          unfold wpOps
          go_upto_region 17 with (fail)
          refine wp_region_joins (kss := [[], [], [], []]) [(7, .pointer (some ⟨g7, 0, none⟩)), (8, .slice A1 a c1), (9, .slice D1 bn d1), (6, .int .i64 ((dn : Int)))] [EV (.agg #[.slice A2 a c2, .slice D2 bn d2, .bool s2, .slice A5 k5 c5, .slice B5 m5 d5]), EV (.slice A1 a c1), EV (.slice D1 bn d1), EV (.int .i64 ((dn : Int)))] 4 (by kernel_rfl) ⟨rfl, rfl, rfl, rfl, trivial⟩ [false, false, false, false] ?_ ?_ ?_
          · exact ⟨eI, eI, eI, eI, trivial⟩
          · refine ⟨?_, ?_, ?_, ?_, trivial⟩
            · exact fun aa ww hb he hd => ob_plain rfl (load_cov rfl he.1 (Blk.keep HC.out hb))
            · exact fun _ _ _ he hd => ob_mv rfl rfl he.2.1
            · exact fun _ _ _ he hd => ob_mv rfl rfl he.2.2.1
            · exact fun _ _ _ he hd => ob_mv rfl rfl he.2.2.2.1
          intro vs w5 hb hR
          have e69 : vs 0 = .agg #[.slice A2 a c2, .slice D2 bn d2, .bool s2, .slice A5 k5 c5, .slice B5 m5 d5] := hR 0 (by decide)
          have e70 : vs 1 = .slice A1 a c1 := hR 1 (by decide)
          have e71 : vs 2 = .slice D1 bn d1 := hR 2 (by decide)
          have e72 : vs 3 = .int .i64 ((dn : Int)) := hR 3 (by decide)
          clear hR
          simp only [putsL, Nat.zero_add, Nat.reduceAdd, List.take_succ_cons, List.take_zero, Act.put, List.setIfInBounds_toArray, List.set_cons_zero, List.set_cons_succ]
          rw [e69, e70, e71, e72]
          clear e69 e70 e71 e72
          replace HC := Lib.hid (HC.out.keep hb)
          replace HVv := Lib.hid (HVv.out.new hb)
          replace HW1 := Lib.hid (HW1.out.below hb)
          replace HW2 := Lib.hid (HW2.out.newN hb)
          replace HP1 := Lib.hid (HP1.out.below hb)
          replace HP2 := Lib.hid (HP2.out.newN hb)
          replace HRs := Lib.hid (HRs.out.keep hb)
          replace HBf := Lib.hid (bthen HBf.out hb HBf.out.size)
          clear hb
          show wpOps _ _ _ [4, 5, 6, 7] _ _
          refine wpOps_next rfl rfl (store_cov rfl rfl rfl rfl HRs.out (by simp) (by simp [Value.oneCell']) ?_)
          intro w6 kp hg hsz hX
          have HXa := Lib.hid hX
          replace HVv := Lib.hid (HVv.out.keepN kp)
          replace HW1 := Lib.hid (HW1.out.blk HRs.out (by decide) hg); replace HW2 := Lib.hid (HW2.out.blk HRs.out (by decide) hg (fun _ _ _ hv => PN.keep hv kp)); replace HP1 := Lib.hid (HP1.out.blk HRs.out (by decide) hg); replace HP2 := Lib.hid (HP2.out.blk HRs.out (by decide) hg (fun _ _ _ hv => PN.keep hv kp))
          replace HBf := Lib.hid (HBf.out.grown hg HBf.out.size (fun k e => by cases e; exact HL2.out))
          clear kp hg hsz hX HRs HC
          refine wpOps_next rfl rfl (wp_assign 3 (.tmp 70) rfl rfl (.slice A1 a c1) rfl ?_)
          simp only [Act.put, List.setIfInBounds_toArray, List.set_cons_zero, List.set_cons_succ]
          refine wpOps_next rfl rfl (wp_assign 4 (.tmp 71) rfl rfl (.slice D1 bn d1) rfl ?_)
          simp only [Act.put, List.setIfInBounds_toArray, List.set_cons_zero, List.set_cons_succ]
          refine wpOps_next rfl rfl (wp_assign 5 (.tmp 72) rfl rfl (.int .i64 (dn : Int)) rfl ?_)
          simp only [Act.put, List.setIfInBounds_toArray, List.set_cons_zero, List.set_cons_succ]
          unfold wpOps
          go_wp2_with fail
          refine bodyPost_ret (v := .tuple #[.agg #[.slice A2 a c2, .slice D2 bn d2, .bool s2, .slice A5 k5 c5, .slice B5 m5 d5], .slice A1 a c1, .slice D1 bn d1, .int .i64 (dn : Int)]) (results_cell_tmp3 Try.results14 _ _ _ _ _ (0, 0) _ rfl HXa.out Try.underlying33 rfl rfl) rfl ?_
          have ex : xs.take a = xs := List.take_of_length_le (by have := HX0.out.2.1.1; omega)
          have ey : ys.take bn = ys := List.take_of_length_le (by have := HY0.out.2.1.1; omega)
          have o1 := HW1.out.own; have o2 := HP1.out.own
          rw [ex] at o1; rw [ey] at o2
          obtain ⟨A1a, c1a, q1, hx1⟩ := Xs.of_own o1 (fun x hx => by have := HX0.out.2.2 x hx; omega)
          obtain ⟨D1a, d1a, q2, hy1⟩ := Xs.of_own o2 (fun x hx => by have := HY0.out.2.2 x hx; omega)
          cases q1; cases q2
          exact ⟨_, rfl, ⟨A2, c2, D2, d2, s2, A5, k5, c5, B5, m5, d5, _, _, _, _, rfl, HW2.out.rs.toW, HP2.out.rs.toW, HVv.out.rw, hx1, hy1⟩, HBf.out⟩
end Go.Proofs.Ytpnklmgfdihjfaa
