/-
  The walk of TrioBack.
-/
import Derived.Test.YtdagdamliggfmaaRen
import Derived.Test.YtdagdamliggfmaaComp
import Derived.Test.YtdagdamliggfmaaRegG
import Derived.Test.YtdagdamliggfmaaFill
import Derived.Test.YtdagdamliggfmaaRefPerm
import Derived.Test.YtdagdamliggfmaaAwake
namespace Go.Proofs.Ytdagdamliggfmaa
open Go.RowKit
set_option linter.unusedSimpArgs false
set_option linter.unusedVariables false

theorem acy_val {n : Nat} {es : List Nat} {b0 : Bool} (h0 : b0 = true ↔ Acyc n es) (A : Option Addr) (len c : Nat) (w : World) (hr : Es w w.heap.size A len es) (hcc : checkCode n es = 0) :
    Calls Try.prog 25 #[.agg #[.int .i64 n, .slice A len c]] w fun e w' => e = .returned (.bool b0) ∧ Below w.heap.size w w' := by
  refine (acyclic_ok n A es len c w hr hcc).mono ?_
  rintro e w1 ⟨b, hb, rfl, hw⟩
  have : b = b0 := by rw [Bool.eq_iff_iff]; exact hb.trans h0.symm
  rw [this]; exact ⟨rfl, hw⟩
/-- A list of components, and its length. -/
def Cs (n : Nat) (es : List Nat) (v : Value) (_ : World) : Prop := ∃ A l c, v = .slice A (l : List Nat).length c ∧ IsComps n es l
def Ln (n : Nat) (es : List Nat) (v : Value) (_ : World) : Prop := ∃ l : List Nat, v = .int .i64 (l.length : Int) ∧ IsComps n es l
theorem comps_v {n : Nat} {es : List Nat} (A : Option Addr) (len c : Nat) (w : World) (hr : Es w w.heap.size A len es) (hcc : checkCode n es = 0) :
    Calls Try.prog 28 #[.agg #[.int .i64 n, .slice A len c]] w (RV w (Cs n es)) := by
  refine (comps_any n A es len c w hr hcc).mono ?_
  rintro e w1 ⟨A', l, c', rfl, h1, -, -, hb⟩
  exact ⟨_, rfl, ⟨A', l, c', rfl, h1⟩, hb⟩
theorem len_cs {o : Oper} {a : Act} {w : World} {t : Tmp} {n : Nat} {es : List Nat} (ho : o.op = .call { callee := .builtin .len, args := #[.tmp t], argTypes := #[22] }) (h : Cs n es (tv a t) w) : gives Try.prog o a.eval w (fun v w' => Ln n es v w' ∧ Below w.heap.size w w') := by
  obtain ⟨A, l, c, h1, h2⟩ := h
  have := len_c (o := o) (a := a) (w := w) (t := t) Try.underlying22 ho h1
  exact gives_mono this (fun v w' ⟨h3, h4⟩ => ⟨⟨l, h3, h2⟩, h4⟩)
theorem eq_ln {o : Oper} {a : Act} {w : World} {t u : Tmp} {T T2 : TypeId} {n : Nat} {es es' : List Nat} (hc : ∀ l l', IsComps n es l → IsComps n es' l' → l'.length = l.length) (ho : o.op = .binOp .eql T (.tmp t) (.tmp u) T2) (h : Ln n es' (tv a t) w) (h2 : Ln n es (tv a u) w) : gives Try.prog o a.eval w (fun v w' => v = .bool true ∧ Below w.heap.size w w') := by
  obtain ⟨l', h3, h4⟩ := h
  obtain ⟨l, h5, h6⟩ := h2
  refine gives_eq_int _ _ .i64 _ _ _ _ ho h3 h5 ⟨?_, Below.refl _ _⟩
  rw [hc l l' h6 h4]; simp
theorem pn_inj {n : Nat} {p : List Int} (hp : permB p 0 n = true) {i j : Nat} (hi : i < n) (hj : j < n) (h : pn p i = pn p j) : i = j := by
  obtain ⟨h1, h2, h3⟩ := of_decide_eq_true hp
  have hi' : i < p.length := by omega
  have hj' : j < p.length := by omega
  have a := h2 _ (inth_mem hi')
  have b := h2 _ (inth_mem hj')
  unfold pn at h
  have e : inth p i = inth p j := by omega
  rw [inth_eq hi', inth_eq hj'] at e
  exact (List.getElem_inj h3).1 e
theorem pn_at {n : Nat} {p : List Int} (hp : permB p 0 n = true) {i : Nat} (hi : i < n) : inth p i = (pn p i : Int) ∧ pn p i < n := by
  obtain ⟨h1, h2, h3⟩ := of_decide_eq_true hp
  have := h2 _ (inth_mem (show i < p.length by omega))
  unfold pn; omega
theorem eq_same {a b : Bool} (h : a = b) : (a == b) = true := by simp [h]

section
variable (n : Int) (A : Option Addr) (es : List Nat) (len c : Nat) (Ap : Option Addr) (np cp : Nat) (w : World)
set_option maxHeartbeats 2000000 in
theorem back_far (hr : Es w w.heap.size A len es) (h : fewB n es = false) : Calls Try.prog 7 #[.agg #[.int .i64 n, .slice A len c], .slice Ap np cp] w fun e w' => e = .returned (.bool true) ∧ Below w.heap.size w w' := by
  have HF := Lib.hid h; clear h
  have HR := Lib.hid (hr.new (al w (.cells #[.int .i64 n, .slice A len c] 24))); clear hr
  have HW := Lib.hid (al w (.cells #[.int .i64 n, .slice A len c] 24))
  go_enter Try.func7, Try.ntmps7
  go_wp2_with fail
  refine (few_any n A es len c _ HR.out).mono ?_
  rintro e w1 ⟨rfl, hb⟩
  rw [HF.out]
  replace HW := Lib.hid (bthen HW.out hb HW.out.size); clear hb
  go_wp2_with fail
  refine (awake_any _).mono ?_
  rintro e w2 ⟨rfl, hb⟩
  replace HW := Lib.hid (bthen HW.out hb HW.out.size); clear hb
  go_wp2_with fail
  go_ret
  exact ⟨rfl, HW.out⟩
end
set_option maxRecDepth 100000 in
set_option maxHeartbeats 8000000 in
theorem back_noperm (n : Nat) (A : Option Addr) (es : List Nat) (len c : Nat) (Ap : Option Addr) (p : List Int) (np cp : Nat) (w : World) (hr : Es w w.heap.size A len es) (hp : Xs w w.heap.size Ap np p) (h : fewB n es = true) (hn : n ≤ 6) (hm : permB p 0 n = false) :
    Calls Try.prog 7 #[.agg #[.int .i64 n, .slice A len c], .slice Ap np cp] w fun e w' => e = .returned (.bool true) ∧ Below w.heap.size w w' := by
  have hcc := (of_decide_eq_true h).2.2.2
  have HCC := Lib.hid hcc; clear hcc
  have HF := Lib.hid h; clear h
  have HM := Lib.hid hm; clear hm
  have hnp := hp.le
  have HG := Lib.hid (GB.made w 24 (.int .i64 n) (.slice A len c))
  have HR := Lib.hid (hr.new (al w (.cells #[.int .i64 n, .slice A len c] 24))); clear hr
  have HP := Lib.hid (hp.new (al w (.cells #[.int .i64 n, .slice A len c] 24))); clear hp
  have HW := Lib.hid (al w (.cells #[.int .i64 n, .slice A len c] 24))
  go_enter Try.func7, Try.ntmps7
  go_wp2_with fail
  refine (few_any n A es len c _ HR.out).mono ?_
  rintro e w1 ⟨rfl, hb⟩
  rw [HF.out]
  replace HG := Lib.hid (HG.out.new hb); replace HR := Lib.hid (HR.out.new hb); replace HP := Lib.hid (HP.out.new hb); replace HW := Lib.hid (bthen HW.out hb HW.out.size); clear hb HF
  have g0 := HG.out.c0; have lg := HG.out.lt
  go_wp2_with fail
  refine (perm_any Ap p np cp 0 n _ HP.out (by omega) (by omega) (by omega) (by omega)).mono ?_
  rintro e w2 ⟨rfl, hb⟩
  rw [HM.out]
  replace HG := Lib.hid (HG.out.new hb); replace HR := Lib.hid (HR.out.new hb); replace HP := Lib.hid (HP.out.new hb); replace HW := Lib.hid (bthen HW.out hb HW.out.size); clear hb g0 lg
  go_wp2_with fail
  refine (awake_any _).mono ?_
  rintro e w3 ⟨rfl, hb⟩
  replace HW := Lib.hid (bthen HW.out hb HW.out.size); clear hb
  go_wp2_with fail
  go_ret
  exact ⟨rfl, HW.out⟩
set_option maxRecDepth 100000 in
set_option maxHeartbeats 8000000 in
theorem back_ok (n : Nat) (A : Option Addr) (es : List Nat) (len c : Nat) (Ap : Option Addr) (p : List Int) (np cp : Nat) (w : World) (hr : Es w w.heap.size A len es) (hp : Xs w w.heap.size Ap np p) (h : fewB n es = true) (hn : n ≤ 6) (hm : permB p 0 n = true) :
    Calls Try.prog 7 #[.agg #[.int .i64 n, .slice A len c], .slice Ap np cp] w fun e w' => e = .returned (.bool true) ∧ Below w.heap.size w w' := by
  have hcc := (of_decide_eq_true h).2.2.2
  have HCC := Lib.hid hcc; clear hcc
  have HF := Lib.hid h; clear h
  have HM := Lib.hid hm; clear hm
  have hnp := hp.le
  have HG := Lib.hid (GB.made w 24 (.int .i64 n) (.slice A len c))
  have HR := Lib.hid (hr.new (al w (.cells #[.int .i64 n, .slice A len c] 24))); clear hr
  have HP := Lib.hid (hp.new (al w (.cells #[.int .i64 n, .slice A len c] 24))); clear hp
  have HW := Lib.hid (al w (.cells #[.int .i64 n, .slice A len c] 24))
  go_enter Try.func7, Try.ntmps7
  go_wp2_with fail
  refine (few_any n A es len c _ HR.out).mono ?_
  rintro e w1 ⟨rfl, hb⟩
  rw [HF.out]
  replace HG := Lib.hid (HG.out.new hb); replace HR := Lib.hid (HR.out.new hb); replace HP := Lib.hid (HP.out.new hb); replace HW := Lib.hid (bthen HW.out hb HW.out.size); clear hb HF
  have g0 := HG.out.c0; have lg := HG.out.lt
  go_wp2_with fail
  refine (perm_any Ap p np cp 0 n _ HP.out (by omega) (by omega) (by omega) (by omega)).mono ?_
  rintro e w2 ⟨rfl, hb⟩
  rw [HM.out]
  replace HG := Lib.hid (HG.out.new hb); replace HR := Lib.hid (HR.out.new hb); replace HP := Lib.hid (HP.out.new hb); replace HW := Lib.hid (bthen HW.out hb HW.out.size); clear hb g0 lg
  obtain ⟨_, _, hl64, hes⟩ := checkCode_zero HCC.out
  have hpl : p.length = n := by have := (of_decide_eq_true HM.out).1; omega
  have hnp2 : np = n := by have := HP.out.len; omega
  have hlen := HR.out.len
  have HES := Lib.hid (show ∀ e ∈ es, e < 2 ^ n by simpa using hes)
  have HCC2 := Lib.hid (check_ren hpl (by omega) (by omega : es.length ≤ 64))
  have HPL := Lib.hid hpl
  clear hes hl64 hlen
  subst hnp2
  clear hnp hpl
  have g0 := HG.out.c0; have g1 := HG.out.c1; have lg := HG.out.lt
  go_wp2_with fail
  clear g0 g1 lg
  refine (permute_ok np A es len c Ap p np cp _ HR.out HP.out HCC.out HM.out).mono ?_
  rintro e w3 ⟨gx, cx, rfl, hY, hb⟩
  have HX := Lib.hid hY; clear hY
  replace HG := Lib.hid (HG.out.new hb); replace HR := Lib.hid (HR.out.new hb); replace HP := Lib.hid (HP.out.new hb); replace HW := Lib.hid (bthen HW.out hb HW.out.size)
  clear hb
  go_upto_region 4 with (fail)
  have hx := GB.made w3 24 (.int .i64 np) (.slice (some ⟨gx, 0, none⟩) len cx)
  have hb := al w3 (.cells #[.int .i64 np, .slice (some ⟨gx, 0, none⟩) len cx] 24)
  obtain ⟨g5, hg5⟩ : ∃ g, g = w3.heap.size := ⟨_, rfl⟩
  rw [← hg5] at hx
  generalize w3.alloc (.cells #[.int .i64 np, .slice (some ⟨gx, 0, none⟩) len cx] 24) = w4 at hx hb ⊢
  replace HG := Lib.hid (HG.out.new hb); replace HR := Lib.hid (HR.out.new hb); replace HP := Lib.hid (HP.out.new hb); replace HX := Lib.hid (HX.out.new hb); replace HW := Lib.hid (bthen HW.out hb HW.out.size)
  have HXB := Lib.hid hx
  rw [← hg5]
  clear hx hb hg5
  have hmk := mk_int np (by omega)
  go_wp2_with fail
  clear hmk
  have hq := Blk.new w4 3 (irow (List.replicate np 0))
  have hb := al w4 (.cells (irow (List.replicate np 0)) 3)
  obtain ⟨gq, hgq⟩ : ∃ g, g = w4.heap.size := ⟨_, rfl⟩
  rw [← hgq] at hq
  generalize w4.alloc (.cells (irow (List.replicate np 0)) 3) = w5 at hq hb ⊢
  have HGQ := Lib.hid (show w.heap.size ≤ gq by rw [hgq]; exact HW.out.size)
  have HGQ4 := Lib.hid (show w4.heap.size ≤ gq by omega)
  have HNE := Lib.hid (show g5 ≠ gq by rw [hgq]; have := HXB.out.lt; omega)
  have HB5 := Lib.hid hb
  rw [← hgq]
  clear hb hgq
  go_loopw [38] (fun iv wr => ∃ (k : Nat) (Q : List Int), iv = .int .i64 k ∧ k ≤ np ∧ Hid (Q.length = np ∧ (∀ j, j < k → inth Q (pn p j) = j) ∧ (∀ x ∈ Q, 0 ≤ x ∧ x ≤ 6) ∧ Blk wr gq 3 (irow Q) ∧ Below w4.heap.size w4 wr)) (fun iv _ => np - (intOf iv).toNat)
  case atStart => exact ⟨0, List.replicate np 0, rfl, Nat.zero_le _, Lib.hid ⟨by simp, fun j hj => by omega, fun x hx => by rw [List.eq_of_mem_replicate hx]; omega, hq, HB5.out⟩⟩
  case round =>
    obtain ⟨k, Q, rfl, hk, HJ⟩ := hrel
    by_cases hlt : k < np
    · obtain ⟨ad, rfl, hb1, hcell⟩ := (HP.out.new HJ.out.2.2.2.2).at_ hlt
      obtain ⟨hpm, hm⟩ := pn_at HM.out hlt
      rw [hpm] at hcell
      have HPM := Lib.hid (show ∀ j, j < k → pn p j ≠ pn p k from fun j hj h => by have := pn_inj HM.out (by omega) hlt h; omega)
      obtain ⟨m, hmm⟩ : ∃ m, m = pn p k := ⟨_, rfl⟩
      rw [← hmm] at hcell hm HPM
      have HMM := Lib.hid hmm
      clear hpm hmm
      have hmQ : m < Q.length := by rw [HJ.out.1]; exact hm
      have cq : wr.cell? ⟨gq, m, none⟩ = some (.int .i64 (inth Q m)) := by rw [HJ.out.2.2.2.1.cell, irow_get hmQ]
      have fq : wr.frozen? ⟨gq, m, none⟩ = false := HJ.out.2.2.2.1.frozen m
      have HBW := Lib.hid (HJ.out.2.2.2.2.setCell (p := ⟨gq, m, none⟩) HGQ4.out (.int .i64 (k : Int)))
      have HBK := HJ.out.2.2.2.1.set_ m (.int .i64 (k : Int))
      rw [irow_set] at HBK
      have HBQ := Lib.hid HBK; clear HBK
      have HSET := Lib.hid (show (∀ j, j < k + 1 → inth (Q.set m (k : Int)) (pn p j) = j) ∧ (∀ x ∈ Q.set m (k : Int), 0 ≤ x ∧ x ≤ 6) from ⟨fun j hj => by
        rw [inth_set hmQ]
        by_cases h : j = k
        · subst h; rw [if_pos HMM.out.symm]
        · rw [if_neg (HPM.out j (by omega))]; exact HJ.out.2.1 j (by omega), fun x hx => by
        rcases List.mem_or_eq_of_mem_set hx with h | h
        · exact HJ.out.2.2.1 x h
        · omega⟩)
      clear hmQ
      go_wp2_with fail
      exact ⟨⟨k + 1, Q.set m (k : Int), by go_num, by omega, Lib.hid ⟨by rw [List.length_set]; exact HJ.out.1, HSET.out.1, HSET.out.2, HBQ.out, HBW.out⟩⟩, by simp [intOf]; omega⟩
    · obtain rfl : k = np := by omega
      have HINV := Lib.hid (inv_of HM.out HJ.out.1 HJ.out.2.1)
      have HQX := Lib.hid (Xs.of_blk HJ.out.2.2.2.1 (by rw [HJ.out.1]; omega) (fun x hx => by have := HJ.out.2.2.1 x hx; omega))
      rw [HJ.out.1] at HQX
      have HQM := Lib.hid (HINV.out.symm.perm (fun x hx => (HJ.out.2.2.1 x hx).1))
      have hb := HJ.out.2.2.2.2
      clear hlt hk hq HJ HB5
      replace HG := Lib.hid (HG.out.new hb); replace HR := Lib.hid (HR.out.new hb); replace HP := Lib.hid (HP.out.new hb); replace HX := Lib.hid (HX.out.new hb); replace HXB := Lib.hid (HXB.out.new hb); replace HW := Lib.hid (bthen HW.out hb HW.out.size)
      clear hb
      have g0 := HG.out.c0; have g1 := HG.out.c1; have lg := HG.out.lt
      have x0 := HXB.out.c0; have x1 := HXB.out.c1; have lx := HXB.out.lt
      go_wp2_with fail
      clear g0 g1 lg x0 x1 lx
      refine (permute_ok k (some ⟨gx, 0, none⟩) (es.map (ren p)) len cx _ Q k k _ HX.out HQX.out HCC2.out HQM.out).mono ?_
      rintro e w6 ⟨gy, cy, rfl, hY, hb⟩
      rw [ren_map HINV.out HES.out] at hY
      have HY := Lib.hid hY; clear hY
      replace HG := Lib.hid (HG.out.new hb); replace HR := Lib.hid (HR.out.new hb); replace HP := Lib.hid (HP.out.new hb); replace HX := Lib.hid (HX.out.new hb); replace HXB := Lib.hid (HXB.out.new hb); replace HW := Lib.hid (bthen HW.out hb HW.out.size)
      clear hb HQX HQM
      go_upto_region 11 with (fail)
      have hy := GB.made w6 24 (.int .i64 k) (.slice (some ⟨gy, 0, none⟩) len cy)
      have hb := al w6 (.cells #[.int .i64 k, .slice (some ⟨gy, 0, none⟩) len cy] 24)
      obtain ⟨g10, hg10⟩ : ∃ g, g = w6.heap.size := ⟨_, rfl⟩
      rw [← hg10] at hy
      generalize w6.alloc (.cells #[.int .i64 k, .slice (some ⟨gy, 0, none⟩) len cy] 24) = w7 at hy hb ⊢
      replace HG := Lib.hid (HG.out.new hb); replace HR := Lib.hid (HR.out.new hb); replace HP := Lib.hid (HP.out.new hb); replace HX := Lib.hid (HX.out.new hb); replace HXB := Lib.hid (HXB.out.new hb); replace HY := Lib.hid (HY.out.new hb); replace HW := Lib.hid (bthen HW.out hb HW.out.size)
      rw [← hg10]
      have y1 := hy.c1; have g1 := HG.out.c1; have lg := HG.out.lt; have ly := hy.lt
      clear hb hg10
      go_wp2_with fail
      refine (equal_u32 _ _ es es len len _ _ _ HY.out HR.out).mono ?_
      rintro e w8 ⟨rfl, hb⟩
      rw [show (es == es) = true by simp]
      clear y1 g1 lg ly
      replace HG := Lib.hid (HG.out.new hb); replace HR := Lib.hid (HR.out.new hb); replace HP := Lib.hid (HP.out.new hb); replace HX := Lib.hid (HX.out.new hb); replace HXB := Lib.hid (HXB.out.new hb); replace HW := Lib.hid (bthen HW.out hb HW.out.size)
      clear hb HY hy
      go_wp2_with fail
      go_loopw [70] (fun iv wr => ∃ i : Nat, iv = .int .i64 i ∧ i ≤ k ∧ Hid (Below w8.heap.size w8 wr)) (fun iv _ => k - (intOf iv).toNat)
      case atStart => exact ⟨0, rfl, Nat.zero_le _, Lib.hid (Below.refl _ _)⟩
      case round =>
        obtain ⟨i, rfl, hi, HB⟩ := hrel
        by_cases hik : i < k
        · obtain ⟨ad, rfl, hb1, hcell⟩ := (HP.out.new HB.out).at_ hik
          obtain ⟨hpm, hv⟩ := pn_at HM.out hik
          rw [hpm] at hcell
          obtain ⟨v, hvv⟩ : ∃ m, m = pn p i := ⟨_, rfl⟩
          rw [← hvv] at hcell hv
          have HV := Lib.hid hvv
          clear hpm hvv
          go_wp2_with fail
          clear hcell
          go_loopw [77] (fun iv wr => ∃ j : Nat, iv = .int .i64 j ∧ j ≤ k ∧ Hid (Below w8.heap.size w8 wr)) (fun iv _ => k - (intOf iv).toNat)
          case atStart => exact ⟨0, rfl, Nat.zero_le _, HB⟩
          case round =>
            obtain ⟨j, rfl, hj, HB2⟩ := hrel
            by_cases hjk : j < k
            · obtain ⟨ad2, had, hb2, hcell⟩ := (HP.out.new HB2.out).at_ hjk
              obtain rfl : ad = ad2 := Option.some.inj had
              obtain ⟨hpm, hx⟩ := pn_at HM.out hjk
              rw [hpm] at hcell
              obtain ⟨x, hxx⟩ : ∃ m, m = pn p j := ⟨_, rfl⟩
              rw [← hxx] at hcell hx
              have HXX := Lib.hid hxx
              clear hpm hxx had
              go_upto_region 19 with (fail)
              clear hcell
              have HG' := Lib.hid (HG.out.new HB2.out); have HXB' := Lib.hid (HXB.out.new HB2.out)
              have HR' := Lib.hid (HR.out.new HB2.out); have HX' := Lib.hid (HX.out.new HB2.out)
              have hbit := adj_ren (by omega) HINV.out HES.out hik hjk
              rw [← HV.out, ← HXX.out] at hbit
              have l1 := adj_lt (lt32_of (by omega) (map_lt (es := es) HPL.out)) i
              have l2 := adj_lt (lt32_of (by omega) HES.out) v
              have HN1 := Lib.hid (fun W (hb : Below wr.heap.size wr W) => neighbors_ok k i (some ⟨gx, 0, none⟩) (es.map (ren p)) len cx W (HX'.out.new hb) HCC2.out hik)
              have HN2 := Lib.hid (fun W (hb : Below wr.heap.size wr W) => neighbors_ok k v A es len c W (HR'.out.new hb) HCC.out hv)
              generalize adj (es.map (ren p)) i = X1 at *
              generalize adj es v = X2 at *
              have HBIT := Lib.hid hbit; clear hbit HR' HX'
              refine wp_region_each (kss := [[], [], [(0, 82), (1, 83)], [], [(2, 84), (3, 85)], [(4, 86)], [], [], [(6, 88), (7, 89)], [], [(8, 90), (9, 91)], [(10, 92)], [(5, 87), (11, 93)]]) [(5, .pointer (some ⟨g5, 0, none⟩)), (12, .int .i64 ((i : Int))), (14, .int .i64 ((j : Int))), (2, .pointer (some ⟨w.heap.size, 0, none⟩)), (13, .int .i64 ((v : Int))), (15, .int .i64 ((x : Int)))] [fun zz _ => zz = .agg #[.int .i64 ((k : Int)), .slice ((some ⟨gx, 0, none⟩)) len cx], fun zz _ => zz = .int .i64 ((i : Int)), fun zz _ => zz = .int .u32 ((X1 : Int)), fun zz _ => zz = .int .i64 ((j : Int)), fun zz _ => zz = .int .u32 ((X1 : Int) / 2 ^ j), fun zz _ => zz = .int .u32 ((if X1.testBit j then 1 else 0 : Nat) : Int), fun zz _ => zz = .agg #[.int .i64 ((k : Int)), .slice A len c], fun zz _ => zz = .int .i64 ((v : Int)), fun zz _ => zz = .int .u32 ((X2 : Int)), fun zz _ => zz = .int .i64 ((x : Int)), fun zz _ => zz = .int .u32 ((X2 : Int) / 2 ^ x), fun zz _ => zz = .int .u32 ((if X2.testBit x then 1 else 0 : Nat) : Int), fun zz _ => zz = .bool false] (by kernel_rfl) (by kernel_rfl) ⟨rfl, rfl, rfl, rfl, rfl, rfl, trivial⟩ ?_ ?_ ?_
              · exact ⟨fun _ _ _ h _ => h, fun _ _ _ h _ => h, fun _ _ _ h _ => h, fun _ _ _ h _ => h, fun _ _ _ h _ => h, fun _ _ _ h _ => h, fun _ _ _ h _ => h, fun _ _ _ h _ => h, fun _ _ _ h _ => h, fun _ _ _ h _ => h, fun _ _ _ h _ => h, fun _ _ _ h _ => h, fun _ _ _ h _ => h, trivial⟩
              · refine ⟨?_, ?_, ?_, ?_, ?_, ?_, ?_, ?_, ?_, ?_, ?_, ?_, ?_, trivial⟩
                · exact fun aa ww hb he hd => ob_plain rfl (load_gr rfl rfl he.1 (GB.new HXB'.out hb))
                · exact fun aa ww hb he hd => ob_plain rfl (gives_move _ rfl ⟨he.2.1, Below.refl _ _⟩)
                · exact fun aa ww hb he hd => ob_plain rfl (gives_call2 _ _ _ _ rfl (by kernel_rfl) (by rw [show aa.eval (.tmp 82) = .agg #[.int .i64 ((k : Int)), .slice ((some ⟨gx, 0, none⟩)) len cx] from hd.1, show aa.eval (.tmp 83) = .int .i64 ((i : Int)) from hd.2.1]; exact rv_one (HN1.out _ hb)))
                · exact fun aa ww hb he hd => ob_plain rfl (gives_move _ rfl ⟨he.2.2.1, Below.refl _ _⟩)
                · exact fun aa ww hb he hd => ob_plain rfl (shr_u32 (by omega) rfl hd.1 hd.2.1)
                · exact fun aa ww hb he hd => ob_plain rfl (bit_u32 l1 rfl hd.1)
                · exact fun aa ww hb he hd => ob_plain rfl (load_gr rfl rfl he.2.2.2.1 (GB.new HG'.out hb))
                · exact fun aa ww hb he hd => ob_plain rfl (gives_move _ rfl ⟨he.2.2.2.2.1, Below.refl _ _⟩)
                · exact fun aa ww hb he hd => ob_plain rfl (gives_call2 _ _ _ _ rfl (by kernel_rfl) (by rw [show aa.eval (.tmp 88) = .agg #[.int .i64 ((k : Int)), .slice A len c] from hd.1, show aa.eval (.tmp 89) = .int .i64 ((v : Int)) from hd.2.1]; exact rv_one (HN2.out _ hb)))
                · exact fun aa ww hb he hd => ob_plain rfl (gives_move _ rfl ⟨he.2.2.2.2.2.1, Below.refl _ _⟩)
                · exact fun aa ww hb he hd => ob_plain rfl (shr_u32 (by omega) rfl hd.1 hd.2.1)
                · exact fun aa ww hb he hd => ob_plain rfl (bit_u32 l2 rfl hd.1)
                · exact fun aa ww hb he hd => ob_plain rfl (gives_mono (ne_u32 rfl hd.1 hd.2.1) (fun v w' ⟨h1, h2⟩ => ⟨by rw [h1, HBIT.out]; simp, h2⟩))
              intro vs w9 hb hR
              have e94 : vs 12 = .bool false := hR 12 (by decide)
              clear hR
              simp only [putsL, Nat.zero_add, Nat.reduceAdd, List.take_succ_cons, List.take_zero, Act.put, List.setIfInBounds_toArray, List.set_cons_zero, List.set_cons_succ]
              rw [e94]
              clear e94
              have HB3 := Lib.hid (bthen HB2.out hb HB2.out.size)
              clear hb l1 l2 HN1 HN2 HBIT
              go_wp2_with fail
              exact ⟨⟨j + 1, by go_num, by omega, HB3⟩, by simp [intOf]; omega⟩
            · obtain rfl : j = k := by omega
              go_wp2_with fail
              exact ⟨⟨i + 1, by go_num, by omega, HB2⟩, by simp [intOf]; omega⟩
        · obtain rfl : i = k := by omega
          clear hik hi
          go_upto_region 23 with (fail)
          obtain ⟨b0, hb0⟩ : ∃ b : Bool, b = true ↔ Acyc i es := by
            by_cases h : Acyc i es
            · exact ⟨true, by simp [h]⟩
            · exact ⟨false, by simp [h]⟩
          have HB0 := Lib.hid hb0
          have HB1 := Lib.hid (hb0.trans (acyc_ren (by omega) HINV.out HES.out).symm)
          have HCNT := Lib.hid (fun l l' (h1 : IsComps i es l) (h2 : IsComps i (es.map (ren p)) l') => comps_count (by omega) HINV.out HES.out h1 h2)
          clear hb0
          replace HG := Lib.hid (HG.out.new HB.out); replace HXB := Lib.hid (HXB.out.new HB.out); replace HR := Lib.hid (HR.out.new HB.out); replace HX := Lib.hid (HX.out.new HB.out); replace HW := Lib.hid (bthen HW.out HB.out HW.out.size)
          clear HB
          refine wp_region_each (kss := [[], [(0, 97)], [(1, 98)], [(1, 98), (2, 99)], [(1, 98)], [(1, 98), (4, 101)], [(1, 98), (3, 100), (5, 102)], [(1, 98), (6, 103)], [(7, 104)], [(8, 105)], [(8, 105), (9, 106)], [(8, 105), (10, 107)], [(8, 105)], [(8, 105), (12, 109)], [(8, 105), (13, 110)], [(8, 105), (11, 108), (14, 111)], [(8, 105), (15, 112)], [(16, 113)]]) [(5, .pointer (some ⟨g5, 0, none⟩)), (2, .pointer (some ⟨w.heap.size, 0, none⟩))] [fun zz _ => zz = .bool true, fun zz _ => zz = .bool true, fun zz _ => zz = .agg #[.int .i64 ((i : Int)), .slice ((some ⟨gx, 0, none⟩)) len cx], fun zz _ => zz = .bool b0, fun zz _ => zz = .agg #[.int .i64 ((i : Int)), .slice A len c], fun zz _ => zz = .bool b0, fun zz _ => zz = .bool true, fun zz _ => zz = .bool true, fun zz _ => zz = .bool true, fun zz _ => zz = .agg #[.int .i64 ((i : Int)), .slice ((some ⟨gx, 0, none⟩)) len cx], Cs i (es.map (ren p)), Ln i (es.map (ren p)), fun zz _ => zz = .agg #[.int .i64 ((i : Int)), .slice A len c], Cs i es, Ln i es, fun zz _ => zz = .bool true, fun zz _ => zz = .bool true, fun zz _ => zz = .bool true] (by kernel_rfl) (by kernel_rfl) ⟨rfl, rfl, trivial⟩ ?_ ?_ ?_
          · exact ⟨fun _ _ _ h _ => h, fun _ _ _ h _ => h, fun _ _ _ h _ => h, fun _ _ _ h _ => h, fun _ _ _ h _ => h, fun _ _ _ h _ => h, fun _ _ _ h _ => h, fun _ _ _ h _ => h, fun _ _ _ h _ => h, fun _ _ _ h _ => h, fun _ _ _ h _ => h, fun _ _ _ h _ => h, fun _ _ _ h _ => h, fun _ _ _ h _ => h, fun _ _ _ h _ => h, fun _ _ _ h _ => h, fun _ _ _ h _ => h, fun _ _ _ h _ => h, trivial⟩
          · refine ⟨?_, ?_, ?_, ?_, ?_, ?_, ?_, ?_, ?_, ?_, ?_, ?_, ?_, ?_, ?_, ?_, ?_, ?_, trivial⟩
            · exact fun aa ww hb he hd => ob_plain rfl (gives_call0 _ _ rfl (by kernel_rfl) (rv_one (awake_any _)))
            · exact fun aa ww hb he hd => ob_plain rfl (gives_move _ rfl ⟨hd.1, Below.refl _ _⟩)
            · exact fun aa ww hb he hd => ob_on 98 rfl (by kernel_rfl) hd.1 (load_gr rfl rfl he.1 (GB.new HXB.out hb))
            · exact fun aa ww hb he hd => ob_on 98 rfl (by kernel_rfl) hd.1 (gives_call1 _ _ _ rfl (by kernel_rfl) (by rw [show aa.eval (.tmp 99) = .agg #[.int .i64 ((i : Int)), .slice ((some ⟨gx, 0, none⟩)) len cx] from hd.2.1]; exact rv_one (acy_val HB1.out _ _ _ _ (HX.out.new hb) HCC2.out)))
            · exact fun aa ww hb he hd => ob_on 98 rfl (by kernel_rfl) hd.1 (load_gr rfl rfl he.2.1 (GB.new HG.out hb))
            · exact fun aa ww hb he hd => ob_on 98 rfl (by kernel_rfl) hd.1 (gives_call1 _ _ _ rfl (by kernel_rfl) (by rw [show aa.eval (.tmp 101) = .agg #[.int .i64 ((i : Int)), .slice A len c] from hd.2.1]; exact rv_one (acy_val HB0.out _ _ _ _ (HR.out.new hb) HCC.out)))
            · exact fun aa ww hb he hd => ob_on 98 rfl (by kernel_rfl) hd.1 (gives_eq_bool b0 b0 _ _ _ _ rfl Try.underlying4 hd.2.1 hd.2.2.1 ⟨congrArg Value.bool (eq_same rfl), Below.refl _ _⟩)
            · exact fun aa ww hb he hd => ob_plain rfl (gives_pick true _ _ _ rfl hd.1 ⟨hd.2.1, Below.refl _ _⟩)
            · exact fun aa ww hb he hd => ob_plain rfl (gives_move _ rfl ⟨hd.1, Below.refl _ _⟩)
            · exact fun aa ww hb he hd => ob_on 105 rfl (by kernel_rfl) hd.1 (load_gr rfl rfl he.1 (GB.new HXB.out hb))
            · exact fun aa ww hb he hd => ob_on 105 rfl (by kernel_rfl) hd.1 (gives_call1 _ _ _ rfl (by kernel_rfl) (by rw [show aa.eval (.tmp 106) = .agg #[.int .i64 ((i : Int)), .slice ((some ⟨gx, 0, none⟩)) len cx] from hd.2.1]; exact  (comps_v _ _ _ _ (HX.out.new hb) HCC2.out)))
            · exact fun aa ww hb he hd => ob_on 105 rfl (by kernel_rfl) hd.1 (len_cs rfl hd.2.1)
            · exact fun aa ww hb he hd => ob_on 105 rfl (by kernel_rfl) hd.1 (load_gr rfl rfl he.2.1 (GB.new HG.out hb))
            · exact fun aa ww hb he hd => ob_on 105 rfl (by kernel_rfl) hd.1 (gives_call1 _ _ _ rfl (by kernel_rfl) (by rw [show aa.eval (.tmp 109) = .agg #[.int .i64 ((i : Int)), .slice A len c] from hd.2.1]; exact  (comps_v _ _ _ _ (HR.out.new hb) HCC.out)))
            · exact fun aa ww hb he hd => ob_on 105 rfl (by kernel_rfl) hd.1 (len_cs rfl hd.2.1)
            · exact fun aa ww hb he hd => ob_on 105 rfl (by kernel_rfl) hd.1 (eq_ln HCNT.out rfl hd.2.1 hd.2.2.1)
            · exact fun aa ww hb he hd => ob_plain rfl (gives_pick true _ _ _ rfl hd.1 ⟨hd.2.1, Below.refl _ _⟩)
            · exact fun aa ww hb he hd => ob_plain rfl (gives_assign _ rfl ⟨hd.1, Below.refl _ _⟩)
          intro vs w9 hb hR
          have e4 : vs 17 = .bool true := hR 17 (by decide)
          clear hR
          simp only [putsL, Nat.zero_add, Nat.reduceAdd, List.take_succ_cons, List.take_zero, Act.put, List.setIfInBounds_toArray, List.set_cons_zero, List.set_cons_succ]
          rw [e4]
          clear e4
          go_wp2_with fail
          go_ret
          exact ⟨rfl, bthen HW.out hb HW.out.size⟩
theorem trioBack_walk (n : Int) (A : Option Addr) (es : List Nat) (len c : Nat) (Ap : Option Addr) (p : List Int) (np cp : Nat) (w : World) (hr : Es w w.heap.size A len es) (hn : -9223372036854775808 ≤ n ∧ n ≤ 9223372036854775807) (_hc : len ≤ c) (hp : Xs w w.heap.size Ap np p) (_ : np ≤ cp) :
    Calls Try.prog 7 #[.agg #[.int .i64 n, .slice A len c], .slice Ap np cp] w fun e w' => e = .returned (.bool true) ∧ Below w.heap.size w w' := by
  by_cases hf : fewB n es = true
  · have h0 := (of_decide_eq_true hf).1
    have h6 := (of_decide_eq_true hf).2.1
    obtain ⟨k, rfl⟩ := Int.eq_ofNat_of_zero_le h0
    cases hm : permB p 0 k with
    | true => exact back_ok k A es len c Ap p np cp w hr hp hf (by omega) hm
    | false => exact back_noperm k A es len c Ap p np cp w hr hp hf (by omega) hm
  · exact back_far n A es len c Ap np cp w hr (by simpa using hf)
end Go.Proofs.Ytdagdamliggfmaa
