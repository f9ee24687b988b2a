/-
  Contract of the closure of hypergraph.smallestClique: is there a clique that no edge contains.
-/
import Derived.Test.YtkiahnffepbgpaaObsE
import Derived.Test.YtkiahnffepbgpaaAdj
namespace Go.Proofs.Ytkiahnffepbgpaa
open Go.RowKit
set_option linter.unusedSimpArgs false
set_option linter.unusedVariables false

section
variable {o : Oper} {a : Act} {w : World} {t u : Tmp}
theorem load_fn {p : Addr} {x : Value} {T : TypeId} (hT : T = 91) (ho : o.op = .load T (.tmp t)) (hx : tv a t = .pointer (some p)) (hc : w.cell? p = some x) : gives Try.prog o a.eval w (fun v w' => v = x ∧ Below w.heap.size w w') := by
  subst hT
  refine gives_val x ?_ ⟨rfl, Below.refl _ _⟩
  unfold execOp; rw [ho]; simp only [eval_tmp, hx]; go_simp
theorem load_u32 {p : Addr} {x : Value} {T : TypeId} (hT : T = 36) (ho : o.op = .load T (.tmp t)) (hx : tv a t = .pointer (some p)) (hc : w.cell? p = some x) : gives Try.prog o a.eval w (fun v w' => v = x ∧ Below w.heap.size w w') := by
  subst hT
  refine gives_val x ?_ ⟨rfl, Below.refl _ _⟩
  unfold execOp; rw [ho]; simp only [eval_tmp, hx]; go_simp
theorem shl1_u32 {v : Nat} {T T2 : TypeId} (hv : v < 32) (ho : o.op = .binOp .shl T (.const (.int .u32 1)) (.tmp t) T2) (h : tv a t = .int .i64 (v : Int)) : gives Try.prog o a.eval w (fun x w' => x = .int .u32 ((2 ^ v : Nat) : Int) ∧ Below w.heap.size w w') := by
  refine gives_val (.int .u32 ((2 ^ v : Nat) : Int)) ?_ ⟨rfl, Below.refl _ _⟩
  have e := shl_mod v hv
  have i1 : (0 : Int) ≤ (v : Int) := by omega
  have i2 : (v : Int) < 32 := by omega
  unfold execOp; rw [ho]; simp only [eval_tmp, eval_const, h]
  go_simp
  have hp : (2 : Nat) ^ v < 4294967296 := pow2_lt32 hv
  have hq : (((2 ^ v : Nat)) : Int) = (2 : Int) ^ v := by simp
  rw [← hq]
  first | done | exact IntWalk.u32_in _ (by omega)
theorem or_u32 {x y : Nat} {T T2 : TypeId} (hx : x < 4294967296) (hy : y < 4294967296) (ho : o.op = .binOp .or T (.tmp t) (.tmp u) T2) (h : tv a t = .int .u32 (x : Int)) (h2 : tv a u = .int .u32 (y : Int)) : gives Try.prog o a.eval w (fun v w' => v = .int .u32 ((x ||| y : Nat) : Int) ∧ Below w.heap.size w w') := by
  refine gives_val (.int .u32 ((x ||| y : Nat) : Int)) ?_ ⟨rfl, Below.refl _ _⟩
  have e := bits_or x y hx hy
  unfold execOp; rw [ho]; simp only [eval_tmp, h, h2]; go_simp
theorem and_u32 {x y : Nat} {T T2 : TypeId} (hx : x < 4294967296) (hy : y < 4294967296) (ho : o.op = .binOp .and T (.tmp t) (.tmp u) T2) (h : tv a t = .int .u32 (x : Int)) (h2 : tv a u = .int .u32 (y : Int)) : gives Try.prog o a.eval w (fun v w' => v = .int .u32 ((x &&& y : Nat) : Int) ∧ Below w.heap.size w w') := by
  refine gives_val (.int .u32 ((x &&& y : Nat) : Int)) ?_ ⟨rfl, Below.refl _ _⟩
  have e := bits_and x y hx hy
  unfold execOp; rw [ho]; simp only [eval_tmp, h, h2]; go_simp
theorem idx_row {p : Nat} {v : Nat} {T : TypeId} (hT : T = 78) (hv : v < 32) (ho : o.op = .indexAddr T (.tmp t) (.tmp u)) (h : tv a t = .pointer (some ⟨p, 0, none⟩)) (h2 : tv a u = .int .i64 (v : Int)) : gives Try.prog o a.eval w (fun x w' => x = .pointer (some ⟨p, v, none⟩) ∧ Below w.heap.size w w') := by
  subst hT
  refine gives_val (.pointer (some ⟨p, v, none⟩)) ?_ ⟨rfl, Below.refl _ _⟩
  have i1 : (0 : Int) ≤ (v : Int) := by omega
  have i2 : (v : Int) < 32 := by omega
  unfold execOp; rw [ho]; simp only [eval_tmp, h, h2]; go_simp
theorem sub_int {i j : Int} {T T2 : TypeId} {y : Operand} (hb : -1000 ≤ i - j ∧ i - j ≤ 1000) (ho : o.op = .binOp .sub T (.tmp t) y T2) (h : tv a t = .int .i64 i) (h2 : a.eval y = .int .i64 j) : gives Try.prog o a.eval w (fun v w' => v = .int .i64 (i - j) ∧ Below w.heap.size w w') := by
  refine gives_val (.int .i64 (i - j)) ?_ ⟨rfl, Below.refl _ _⟩
  have e : IntKind.i64.wrap (i - j) = i - j := IntWalk.i64_in _ (by omega)
  unfold execOp; rw [ho]; simp only [eval_tmp, h, h2]; go_simp
theorem gives_dyn {P : Program} {K : Value → World → Prop} (f : FuncId) (xs : Array Operand) (ts : Array TypeId) (caps : Array Value) (ho : o.op = .call { callee := .value (.tmp t), args := xs, argTypes := ts }) (hv : tv a t = .func (.func f) #[] caps) (hf : callsB P f = true)
    (h : Calls P f (xs.map a.eval ++ caps) w (fun e w'' => ∃ v, e = .returned v ∧ K v w'')) : gives P o a.eval w K := by
  have hr : (execOp a.eval o).run P w = .ok (.enter f (xs.map a.eval ++ caps)) w := by
    unfold execOp
    rw [ho]
    simp [resolve, eval_tmp, hv, Deferred.ofValue, invoke, run_callFunc hf]
  unfold gives; rw [hr]; exact h
theorem gives_dyn3 {P : Program} {K : Value → World → Prop} (f : FuncId) (x y z : Operand) (vx vy vz c1 c2 c3 : Value) (ts : Array TypeId) (ho : o.op = .call { callee := .value (.tmp t), args := #[x, y, z], argTypes := ts }) (hv : tv a t = .func (.func f) #[] #[c1, c2, c3]) (hf : callsB P f = true) (hx : a.eval x = vx) (hy : a.eval y = vy) (hz : a.eval z = vz)
    (h : Calls P f #[vx, vy, vz, c1, c2, c3] w (fun e w'' => ∃ v, e = .returned v ∧ K v w'')) : gives P o a.eval w K := by
  refine gives_dyn f _ ts _ ho hv hf ?_
  have e : (#[x, y, z].map a.eval ++ #[c1, c2, c3]) = #[vx, vy, vz, c1, c2, c3] := by simp [hx, hy, hz]
  rw [e]; exact h
end
/-- What the closure answers. -/
def Pv (n : Nat) (es : List Nat) (c r k : Nat) (v : Value) (_ : World) : Prop := ∃ b : Bool, v = .bool b ∧ (b = true ↔ Ext n es c r k)
/-- What the closure has captured. -/
structure Cap (n : Nat) (A : Option Addr) (es : List Nat) (len cp p3 p4 p5 : Nat) (w : World) : Prop where
  ed : Es w w.heap.size A len es
  gb : GB w p3 24 (.int .i64 n) (.slice A len cp)
  fn : Blk w p4 91 #[.func (.func 53) #[] #[.pointer (some ⟨p3, 0, none⟩), .pointer (some ⟨p4, 0, none⟩), .pointer (some ⟨p5, 0, none⟩)]]
  ro : Blk w p5 78 (urow (adjRow n es))
theorem Cap.new {n : Nat} {A : Option Addr} {es : List Nat} {len cp p3 p4 p5 : Nat} {w w' : World} (h : Cap n A es len cp p3 p4 p5 w) (hb : Below w.heap.size w w') : Cap n A es len cp p3 p4 p5 w' := ⟨h.ed.new hb, h.gb.new hb, h.fn.below hb h.fn.lt, h.ro.below hb h.ro.lt⟩
theorem Cap.adj {n : Nat} {A : Option Addr} {es : List Nat} {len cp p3 p4 p5 : Nat} {w : World} (h : Cap n A es len cp p3 p4 p5 w) {v : Nat} (hv : v < n) (hn : n ≤ 32) : w.cell? ⟨p5, v, none⟩ = some (.int .u32 (adj es v : Int)) := by
  rw [h.ro.cell, urow_get (by rw [adjRow_length]; omega), nth_adjRow (by omega), if_pos hv]

set_option maxRecDepth 100000 in
set_option maxHeartbeats 8000000 in
theorem possible_any (n : Nat) (hn : n ≤ 32) (A : Option Addr) (es : List Nat) (len cp p3 p4 p5 : Nat) (hes : ∀ e ∈ es, e < 2 ^ n) (hl : len ≤ 64) : ∀ (k c r : Nat) (w : World), k ≤ 64 → Cap n A es len cp p3 p4 p5 w → Pre n es c r →
    Calls Try.prog 53 #[.int .u32 c, .int .u32 r, .int .i64 k, .pointer (some ⟨p3, 0, none⟩), .pointer (some ⟨p4, 0, none⟩), .pointer (some ⟨p5, 0, none⟩)] w (RV w (Pv n es c r k)) := by
  intro k
  induction k using Nat.strongRecOn with
  | ind k ih =>
  intro c r w hk64 hcap hpre
  have hc32 : c < 4294967296 := Nat.lt_of_lt_of_le hpre.cl (two_pow_le hn)
  have hr32 : r < 4294967296 := Nat.lt_of_lt_of_le hpre.rl (two_pow_le hn)
  have IH := Lib.hid ih; clear ih
  have HP := Lib.hid hpre; clear hpre
  have HC := Lib.hid hcap; clear hcap
  have HES := Lib.hid hes; clear hes
  have g0 := HC.out.gb.c0; have g1 := HC.out.gb.c1
  go_enter Try.func53, Try.ntmps53
  go_wp2_with fail
  clear g0 g1
  refine (escapes_any n A es len cp c r _ HC.out.ed hc32 hr32).mono ?_
  rintro e w1 ⟨o, cov, rfl, ho, hy, hno, hb⟩
  have HW := Lib.hid hb
  replace HC := Lib.hid (HC.out.new hb); clear hb
  cases cov with
  | false =>
    have HNO := Lib.hid (hno rfl).2; clear hy hno
    go_wp2_with fail
    go_ret
    exact ⟨_, rfl, ⟨true, rfl, by simp; exact Ext.now HNO.out⟩, HW.out⟩
  | true =>
    obtain ⟨x, hx, hcx, hox⟩ := hy rfl
    have x32 : x < 2 ^ 32 := lt32_of hn HES.out x hx
    have hbo : ∀ u, o.testBit u = true ↔ r.testBit u = true ∧ x.testBit u = false := by
      intro u; rw [hox, testBit_andn x32 hr32]; simp
    have HX := Lib.hid (show x ∈ es ∧ sub c x from ⟨hx, hcx⟩)
    have HBO := Lib.hid hbo
    have HCOV := Lib.hid (show Cov es c from ⟨x, hx, hcx⟩)
    clear hy hno hx hcx hox x32 hbo
    by_cases ho0 : o = 0
    · have to0 : ((o : Int) == 0) = true := by simp [ho0]
      have HNE := Lib.hid (show ¬ Ext n es c r k from Ext.none HX.out.1 HX.out.2 (fun u hu => by
        cases hxu : x.testBit u with
        | true => rfl
        | false =>
          have := (HBO.out u).2 ⟨hu, hxu⟩
          rw [ho0] at this; simp at this))
      clear ho0
      go_wp2_with fail
      go_ret
      exact ⟨_, rfl, ⟨false, rfl, by simp; exact HNE.out⟩, HW.out⟩
    · have to0 : ((o : Int) == 0) = false := by simp; omega
      have g0 := HC.out.gb.c0; have g1 := HC.out.gb.c1
      clear ho0
      go_wp2_with fail
      clear g0 g1
      refine (disjoint_any n hn A es len cp c r _ HC.out.ed hl hc32 HP.out.rl).mono ?_
      rintro e w2 ⟨d, used, rfl, hd, hhit, hone, hb⟩
      replace HW := Lib.hid (bthen HW.out hb HW.out.size)
      replace HC := Lib.hid (HC.out.new hb); clear hb
      have hel : es.length ≤ 64 := by have := HC.out.ed.len; omega
      by_cases hkd : k < d
      · have tk : decide ((k : Int) < (d : Int)) = true := by simp; omega
        have HNE := Lib.hid (hhit.none hkd)
        have tn : decide (k < d) = true := by simp; omega
        clear hhit hone
        go_wp2_with fail
        go_ret
        exact ⟨_, rfl, ⟨false, rfl, by simp; exact HNE.out⟩, HW.out⟩
      · have tk : decide ((k : Int) < (d : Int)) = false := by simp; omega
        have hk1 : 1 ≤ k := by have := hone HCOV.out; omega
        have g0 := HC.out.gb.c0; have lg := HC.out.gb.lt
        have tn : decide (k < d) = false := by simp; omega
        clear hhit hone hd
        go_wp2_with fail
        clear g0 lg tk tn to0 hkd
        go_loopw [1, 34] (fun rv iv wr => ∃ (v r' : Nat), iv = .int .i64 v ∧ v ≤ n ∧ rv = .int .u32 r' ∧ r' < 4294967296 ∧ Hid ((∀ u, r'.testBit u = true ↔ r.testBit u = true ∧ ¬ (o.testBit u = true ∧ u < v)) ∧ (Ext n es c r k → Ext n es c r' k) ∧ Below w2.heap.size w2 wr)) (fun _ iv _ => n - (intOf iv).toNat)
        case atStart => exact ⟨0, r, rfl, Nat.zero_le _, rfl, hr32, Lib.hid ⟨fun u => by simp, fun h => h, Below.refl _ _⟩⟩
        case round =>
          obtain ⟨v, r', rfl, hv, rfl, hr', HJ⟩ := hrel
          by_cases hvn : v < n
          · have hbit := bit_zero' o v ho
            have i1 : (0 : Int) ≤ (v : Int) := by omega
            have i2 : (v : Int) < 32 := by omega
            cases hov : o.testBit v with
            | false =>
              rw [hov] at hbit
              have HN := Lib.hid (show ∀ u, r'.testBit u = true ↔ r.testBit u = true ∧ ¬ (o.testBit u = true ∧ u < v + 1) from fun u => by
                rw [HJ.out.1 u]
                constructor
                · rintro ⟨h1, h2⟩
                  refine ⟨h1, fun ⟨h3, h4⟩ => ?_⟩
                  by_cases huv : u = v
                  · subst huv; rw [hov] at h3; cases h3
                  · exact h2 ⟨h3, by omega⟩
                · rintro ⟨h1, h2⟩
                  exact ⟨h1, fun ⟨h3, h4⟩ => h2 ⟨h3, by omega⟩⟩)
              clear hov
              go_wp2_with fail
              exact ⟨⟨v + 1, r', by go_num, by omega, rfl, hr', Lib.hid ⟨HN.out, HJ.out.2.1, HJ.out.2.2⟩⟩, by simp [intOf]; omega⟩
            | true =>
              rw [hov] at hbit
              have hrv : r'.testBit v = true := (HJ.out.1 v).2 ⟨((HBO.out v).1 hov).1, fun ⟨_, h⟩ => by omega⟩
              have HSUB := Lib.hid (show sub r' r from fun u hu => ((HJ.out.1 u).1 hu).1)
              have r'l := sub_lt HSUB.out HP.out.rl
              have HPT := Lib.hid (HP.out.take hn HSUB.out hrv)
              have HTK := Lib.hid (fun (h : Ext n es (c ||| 2 ^ v) (andn r' (2 ^ v) &&& adj es v) (k - 1)) => (Ext.take hn HES.out r'l hrv hk1 h).mono HSUB.out)
              have HSP := Lib.hid (fun (h : Ext n es c r k) => Ext.split hn r'l hrv (HJ.out.2.1 h))
              have hdr := drop_bit hr' (show v < 32 by omega)
              have HN := Lib.hid (show ∀ u, (andn r' (2 ^ v)).testBit u = true ↔ r.testBit u = true ∧ ¬ (o.testBit u = true ∧ u < v + 1) from fun u => by
                rw [hdr u, HJ.out.1 u]
                constructor
                · rintro ⟨⟨h1, h2⟩, h3⟩
                  exact ⟨h1, fun ⟨h4, h5⟩ => h2 ⟨h4, by omega⟩⟩
                · rintro ⟨h1, h2⟩
                  refine ⟨⟨h1, fun ⟨h4, h5⟩ => h2 ⟨h4, by omega⟩⟩, fun e => ?_⟩
                  subst e; exact h2 ⟨hov, by omega⟩)
              have ean := bits_andNot r' (2 ^ v) hr' (pow2_lt32 (by omega))
              have esh := shl_mod v (by omega)
              have hnr : andn r' (2 ^ v) < 4294967296 := andn_lt hr'
              have hadj : adj es v < 4294967296 := adj_lt (lt32_of hn HES.out) v
              have hcap2 := HC.out.new HJ.out.2.2
              have HC2 := Lib.hid hcap2
              have hcell := hcap2.adj hvn hn
              have hor32 : (2 : Nat) ^ v < 4294967296 := pow2_lt32 (by omega)
              have hcor : c ||| 2 ^ v < 4294967296 := Nat.or_lt_two_pow (n := 32) hc32 hor32
              obtain ⟨nr, hnre⟩ : ∃ x, x = andn r' (2 ^ v) := ⟨_, rfl⟩
              rw [← hnre] at ean hnr HPT HTK HSP HN
              have HIC := Lib.hid (fun W (hb : Below wr.heap.size wr W) => IH.out (k - 1) (by omega) (c ||| 2 ^ v) (nr &&& adj es v) W (by omega) (HC2.out.new hb) HPT.out)
              have HADJ := Lib.hid (fun W (hb : Below wr.heap.size wr W) => (HC2.out.new hb).adj hvn hn)
              have HFN := Lib.hid (fun W (hb : Below wr.heap.size wr W) => (HC2.out.new hb).fn)
              have esub : ((k : Int) - 1) = ((k - 1 : Nat) : Int) := by omega
              have HSB := Lib.hid esub
              clear hov hrv hdr hnre hcap2 r'l esub hcell
              have HNR := Lib.hid hnr
              generalize hpv : 2 ^ v = pv at *
              have HPV := Lib.hid hpv; clear hpv
              go_upto_region 11 with (fail)
              try rw [esh]
              try rw [ean]
              refine wp_region_each (kss := [[], [], [], [(2, 48)], [(1, 47), (3, 49)], [], [], [(6, 52)], [(7, 53)], [(5, 51), (8, 54)], [], [(10, 56)], [(0, 46), (4, 50), (9, 55), (11, 57)]]) [(4, .pointer (some ⟨p4, 0, none⟩)), (0, .int .u32 c), (12, .int .i64 v), (1, .int .u32 nr), (5, .pointer (some ⟨p5, 0, none⟩)), (2, .int .i64 k)] [fun zz _ => zz = .func (.func 53) #[] #[.pointer (some ⟨p3, 0, none⟩), .pointer (some ⟨p4, 0, none⟩), .pointer (some ⟨p5, 0, none⟩)], fun zz _ => zz = .int .u32 c, fun zz _ => zz = .int .i64 v, fun zz _ => zz = .int .u32 pv, fun zz _ => zz = .int .u32 (((c ||| pv : Nat) : Int)), fun zz _ => zz = .int .u32 nr, fun zz _ => zz = .int .i64 v, fun zz _ => zz = .pointer (some ⟨p5, v, none⟩), fun zz _ => zz = .int .u32 ((adj es v)), fun zz _ => zz = .int .u32 (((nr &&& adj es v : Nat) : Int)), fun zz _ => zz = .int .i64 k, fun zz _ => zz = .int .i64 (((k - 1 : Nat) : Int)), Pv n es (c ||| pv) (nr &&& adj es v) (k - 1)] (by kernel_rfl) (by kernel_rfl) ⟨rfl, rfl, rfl, rfl, rfl, rfl, trivial⟩ ?_ ?_ ?_
              · exact ⟨fun _ _ _ h _ => h, fun _ _ _ h _ => h, fun _ _ _ h _ => h, fun _ _ _ h _ => h, fun _ _ _ h _ => h, fun _ _ _ h _ => h, fun _ _ _ h _ => h, fun _ _ _ h _ => h, fun _ _ _ h _ => h, fun _ _ _ h _ => h, fun _ _ _ h _ => h, fun _ _ _ h _ => h, fun _ _ _ h _ => h, trivial⟩
              · refine ⟨?_, ?_, ?_, ?_, ?_, ?_, ?_, ?_, ?_, ?_, ?_, ?_, ?_, trivial⟩
                · exact fun aa ww hb he hd => ob_plain rfl (load_fn rfl rfl he.1 (by rw [(HFN.out ww hb).cell]; rfl))
                · exact fun aa ww hb he hd => ob_plain rfl (gives_move _ rfl ⟨he.2.1, Below.refl _ _⟩)
                · exact fun aa ww hb he hd => ob_plain rfl (gives_move _ rfl ⟨he.2.2.1, Below.refl _ _⟩)
                · exact fun aa ww hb he hd => ob_plain rfl (by rw [← HPV.out]; exact shl1_u32 (by omega) rfl hd.1)
                · exact fun aa ww hb he hd => ob_plain rfl (or_u32 hc32 hor32 rfl hd.1 hd.2.1)
                · exact fun aa ww hb he hd => ob_plain rfl (gives_move _ rfl ⟨he.2.2.2.1, Below.refl _ _⟩)
                · exact fun aa ww hb he hd => ob_plain rfl (gives_move _ rfl ⟨he.2.2.1, Below.refl _ _⟩)
                · exact fun aa ww hb he hd => ob_plain rfl (idx_row rfl (by omega) rfl he.2.2.2.2.1 hd.1)
                · exact fun aa ww hb he hd => ob_plain rfl (load_u32 rfl rfl hd.1 (HADJ.out ww hb))
                · exact fun aa ww hb he hd => ob_plain rfl (and_u32 hnr hadj rfl hd.1 hd.2.1)
                · exact fun aa ww hb he hd => ob_plain rfl (gives_move _ rfl ⟨he.2.2.2.2.2.1, Below.refl _ _⟩)
                · exact fun aa ww hb he hd => ob_plain rfl (by rw [← HSB.out]; exact sub_int (by omega) rfl hd.1 rfl)
                · exact fun aa ww hb he hd => ob_plain rfl (gives_dyn3 53 (.tmp 50) (.tmp 55) (.tmp 57) _ _ _ _ _ _ _ rfl hd.1 (by kernel_rfl) hd.2.1 hd.2.2.1 hd.2.2.2.1 (HIC.out ww hb))
              intro vs W hb hR
              obtain ⟨b', e58, hP⟩ : Pv n es (c ||| pv) (nr &&& adj es v) (k - 1) (vs 12) W := hR 12 (by decide)
              clear hR
              simp only [putsL, Nat.zero_add, Nat.reduceAdd, List.take_succ_cons, List.take_zero, Act.put, List.setIfInBounds_toArray, List.set_cons_zero, List.set_cons_succ]
              rw [e58]
              clear e58
              have HPR := Lib.hid hP; clear hP
              have HB := Lib.hid hb; clear hb
              clear esh ean hadj hor32 hcor hnr
              cases b' with
              | true =>
                have HYES := Lib.hid (HTK.out (HPR.out.1 rfl))
                go_wp2_with fail
                go_ret
                exact ⟨_, rfl, ⟨true, rfl, by simp; exact HYES.out⟩, bthen HW.out (bthen HJ.out.2.2 HB.out (HJ.out.2.2).size) HW.out.size⟩
              | false =>
                have HNO := Lib.hid (fun h => (HSP.out h).resolve_right (fun h2 => by have := HPR.out.2 h2; cases this))
                go_wp2_with fail
                exact ⟨⟨v + 1, nr, by go_num, by omega, rfl, HNR.out, Lib.hid ⟨HN.out, HNO.out, bthen HJ.out.2.2 HB.out (HJ.out.2.2).size⟩⟩, by simp [intOf]; omega⟩
          · obtain rfl : v = n := by omega
            have HNE := Lib.hid (show ¬ Ext v es c r k from fun h => Ext.none HX.out.1 HX.out.2 (fun u hu => by
              obtain ⟨h1, h2⟩ := (HJ.out.1 u).1 hu
              cases hxu : x.testBit u with
              | true => rfl
              | false => exact absurd ⟨(HBO.out u).2 ⟨h1, hxu⟩, testBit_lt HP.out.rl h1⟩ h2) (HJ.out.2.1 h))
            go_wp2_with fail
            go_ret
            exact ⟨_, rfl, ⟨false, rfl, by simp; exact HNE.out⟩, bthen HW.out HJ.out.2.2 HW.out.size⟩
end Go.Proofs.Ytkiahnffepbgpaa
