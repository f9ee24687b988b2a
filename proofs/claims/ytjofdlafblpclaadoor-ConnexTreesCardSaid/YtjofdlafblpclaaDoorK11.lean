/-
Contracts of jointree.order, rooted and Reroot (trees whose parents are a rooted tree).
Contract of jointree.Build.
Plain: the tree of the extended hypergraph out of the tree of its greatest edges.
-/
import Derived.Test.YtjofdlafblpclaaDoorK10
import Derived.Test.YtjofdlafblpclaaDoorK4
import Derived.Test.YtjofdlafblpclaaDoorK8
import Derived.Deep.LoopGhost
import Derived.Test.YtjofdlafblpclaaDoorK5
namespace Go.Proofs.YtjofdlafblpclaaDoor
open Go.RowKit
set_option linter.unusedSimpArgs false
set_option linter.unusedVariables false

/-- A store into a block below an owned row keeps the row. -/
theorem own_low {w : World} {g : Nat} {e : TypeId} {base size n : Nat} {v : Value} {xs : List Value} (h : w.ownsRow base e size v n xs) (hb : g < base) (i : Nat) (u : Value) : (w.setCell ⟨g, i, none⟩ u).ownsRow base e size v n xs := by
  refine ⟨h.1, ?_⟩
  rcases h.2 with h0 | ⟨g', cap, cur, rfl, h1, h2, h3⟩
  · exact .inl h0
  · have hgg : g' ≠ g := by omega
    exact .inr ⟨g', cap, cur, rfl, h1, (Below.heap_setCell w ⟨g, i, none⟩ u g' hgg).trans h2, h3⟩
theorem Blk.kept {w w' : World} {g : Nat} {t e : TypeId} {cs : Array Value} {base size n : Nat} {v : Value} {xs : List Value} (h : Blk w g t cs) (hown : w.ownsRow base e size v n xs) (hg : w.grownBy w' v.ownBlock) (hb : g < base) : Blk w' g t cs :=
  h.grown hg (fun he => by have := own_base hown g he.symm; omega)
theorem TB.c0 {w : World} {g : Nat} {t : TypeId} {v : Value} (h : Blk w g t #[v]) : w.cell? ⟨g, 0, none⟩ = some v := by rw [h.cell]; rfl

/-- What stands while order counts and returns. -/
def OrdSt (w : World) (A : Option Addr) (n c : Nat) (C : List Int) (v : Value) (R : List Nat) (wr : World) : Prop :=
  Blk wr w.heap.size 44 #[.slice A n c] ∧ Blk wr (w.heap.size + 1) 3 (irow C) ∧ C.length = n ∧ wr.ownsRow (w.heap.size + 2) 3 1 v R.length (I64 (ints R)) ∧ Below w.heap.size w wr ∧ w.heap.size + 2 ≤ wr.heap.size
section
variable {w wr : World} {A : Option Addr} {n c : Nat} {C : List Int} {v : Value} {R : List Nat}
theorem OrdSt.set_ (h : OrdSt w A n c C v R wr) (k : Nat) (x : Int) : OrdSt w A n c (C.set k x) v R (wr.setCell ⟨w.heap.size + 1, k, none⟩ (.int .i64 x)) := by
  have hb := h.2.1.set_ k (.int .i64 x)
  rw [irow_set] at hb
  refine ⟨h.1.far (p := ⟨w.heap.size + 1, k, none⟩) (by show w.heap.size ≠ w.heap.size + 1; omega) _, hb, by rw [List.length_set]; exact h.2.2.1, own_low h.2.2.2.1 (by omega) k _, h.2.2.2.2.1.setCell (p := ⟨w.heap.size + 1, k, none⟩) (by show w.heap.size ≤ w.heap.size + 1; omega) _, ?_⟩
  have := h.2.2.2.2.2
  simpa [World.setCell] using this
theorem OrdSt.alloc (h : OrdSt w A n c C v R wr) (o : Obj) : OrdSt w A n c C v R (wr.alloc o) :=
  ⟨h.1.alloc o, h.2.1.alloc o, h.2.2.1, h.2.2.2.1.alloc o, h.2.2.2.2.1.alloc h.2.2.2.2.1.size o, by have := h.2.2.2.2.2; simp; omega⟩
theorem OrdSt.app {w' : World} {v' : Value} {u : Nat} (h : OrdSt w A n c C v R wr) (h1 : w'.ownsRow (w.heap.size + 2) 3 1 v' (R.length + 1) (I64 (ints R ++ [(u : Int)]))) (hg : wr.grownBy w' v.ownBlock) : OrdSt w A n c C v' (R ++ [u]) w' :=
  ⟨h.1.kept h.2.2.2.1 hg (by omega), h.2.1.kept h.2.2.2.1 hg (by omega), h.2.2.1, by rw [ints_snoc, List.length_append]; exact h1, Below.appended h.2.2.2.2.1 h.2.2.2.1 hg h.2.2.2.2.1.size (by omega), Nat.le_trans h.2.2.2.2.2 hg.size⟩
theorem OrdSt.at_ (h : OrdSt w A n c C v R wr) {k : Nat} (hk : k < n) : wr.cell? ⟨w.heap.size + 1, k, none⟩ = some (.int .i64 (inth C k)) := by
  rw [h.2.1.cell, irow_get (by rw [h.2.2.1]; exact hk)]
theorem OrdSt.fz (h : OrdSt w A n c C v R wr) (k : Nat) : wr.frozen? ⟨w.heap.size + 1, k, none⟩ = false := h.2.1.frozen k
end
/-- The children that are left, as the row of counts holds them. -/
def KidsAre (P : List Int) (n : Nat) (R : List Nat) (C : List Int) : Prop := ∀ u, u < n → inth C u = (kids P n R u : Int)
def OrdRet (n : Nat) (w : World) (e : Ending) (w' : World) : Prop := ∃ A c, e = .returned (.slice A n c) ∧ Below w.heap.size w w'

set_option maxRecDepth 100000 in
set_option maxHeartbeats 4000000 in
theorem order_any (A : Option Addr) (P : List Int) (n c rt : Nat) (w : World) (hr : Xs w w.heap.size A n P) (hP : PTree P n rt) (hn : n ≤ 1000) :
    Calls Tryd.prog 54 #[.agg #[.slice A n c]] w (OrdRet n w) := by
  have HR := Lib.hid hr; clear hr
  have HP := Lib.hid hP; clear hP
  have hmk := mk_int n (by omega)
  have h0 : OrdSt w A n c (List.replicate n 0) (.slice none 0 0) [] ((w.alloc (.cells #[.slice A n c] 44)).alloc (.cells (irow (List.replicate n 0)) 3)) := by
    refine ⟨(Blk.new _ _ _).alloc _, ?_, by simp, own_nil _ _ _, bthen (al w _) (al _ _) (by simp), by simp⟩
    have h := Blk.new (w.alloc (.cells #[.slice A n c] 44)) 3 (irow (List.replicate n 0))
    rwa [World.size_alloc] at h
  have H0 := Lib.hid h0; clear h0
  have hb0 := (Blk.new w 44 #[Value.slice A n c]).cell 0
  have hl0 := (Blk.new w 44 #[Value.slice A n c]).lt
  go_enter Tryd.func54, Tryd.ntmps54
  go_wp2_with fail
  clear hmk hb0 hl0
  generalize (w.alloc (.cells #[.slice A n c] 44)).alloc (.cells (irow (List.replicate n 0)) 3) = W0 at *
  have k0 := TB.c0 H0.out.1; have kl := H0.out.1.lt
  go_wp2_with fail
  clear k0 kl
  go_loopw [16] (fun i wr => ∃ (k : Nat) (C : List Int), i = .int .i64 k ∧ k ≤ n ∧ Hid (OrdSt w A n c C (.slice none 0 0) [] wr ∧ ∀ u, u < n → inth C u = (kidsTo P k u : Int))) (fun i _ => n - (intOf i).toNat)
  case atStart => exact ⟨0, _, rfl, Nat.zero_le _, Lib.hid ⟨H0.out, fun u _ => by rw [inth_replicate]; simp [kidsTo]⟩⟩
  case round =>
    obtain ⟨k, C, rfl, hk, HI⟩ := hrel
    have hbw := HI.out.1.2.2.2.2.1
    have HBW := Lib.hid hbw; clear hbw
    by_cases hkn : k < n
    · obtain ⟨ad, rfl, hb1, hc⟩ := (HR.out.new HBW.out).at_ hkn
      rcases HP.out.up hkn with ⟨-, hp⟩ | ⟨-, p, hpn, hpk, hp⟩
      · have HPK := Lib.hid hp
        rw [hp] at hc; clear hp
        go_wp2_with fail
        refine ⟨⟨k + 1, C, by go_num, by omega, Lib.hid ⟨HI.out.1, fun u hu => ?_⟩⟩, by simp [intOf]; omega⟩
        rw [HI.out.2 u hu, kidsTo_succ, HPK.out, if_neg (by omega)]; simp
      · have HPK := Lib.hid hp
        rw [hp] at hc; clear hp hpk
        have x1 := HI.out.1.at_ hpn
        have x2 := HI.out.1.fz p
        have t0 : decide ((p : Int) ≥ 0) = true := by simp
        have HCP := Lib.hid (HI.out.2 p hpn)
        have hkb := cnt_le (fun c => inth P c == (p : Int)) k
        have hkb2 : kidsTo P k p ≤ k := hkb
        clear hkb
        rw [HCP.out] at x1
        generalize hq : kidsTo P k p = q at *
        have HQ := Lib.hid hq; clear hq
        have i1 : (0 : Int) ≤ (p : Int) := by omega
        have i2 : (p : Int) < (n : Int) := by omega
        go_wp2_with fail
        refine ⟨⟨k + 1, C.set p ((q + 1 : Nat) : Int), by go_num, by omega, Lib.hid ⟨?_, fun u hu => ?_⟩⟩, by simp [intOf]; omega⟩
        · have h := HI.out.1.set_ p ((q + 1 : Nat) : Int)
          simpa using h
        · rw [inth_set (by rw [HI.out.1.2.2.1]; exact hpn)]
          by_cases hup : u = p
          · rw [if_pos hup, kidsTo_succ, HPK.out, if_pos (by omega), hup, HQ.out]
          · rw [if_neg hup, HI.out.2 u hu, kidsTo_succ, HPK.out, if_neg (by omega)]; simp
    · obtain rfl : n = k := by omega
      have k0 := TB.c0 HI.out.1.1; have kl := HI.out.1.1.lt
      have HK0 := Lib.hid (show KidsAre P n [] C from fun u hu => by rw [HI.out.2 u hu, kids_nil])
      go_wp2_with fail
      clear k0 kl
      obtain ⟨wo, rfl⟩ : ∃ wo : World, wo = wr := ⟨_, rfl⟩
      go_loopw [6, 32] (fun v i wr => ∃ (k : Nat) (R : List Nat) (C : List Int), i = .int .i64 k ∧ k ≤ n ∧ Hid (OrdSt w A n c C v R wr ∧ KidsAre P n R C ∧ OInv P n R k)) (fun _ i _ => n - (intOf i).toNat)
      case atStart => exact ⟨0, [], C, rfl, Nat.zero_le _, Lib.hid ⟨HI.out.1, HK0.out, OInv.start⟩⟩
      case round =>
        obtain ⟨k, R, C, rfl, hk, HJ⟩ := hrel
        obtain ⟨A6, c6, rfl⟩ := own_form HJ.out.1.2.2.2.1
        have hRl : (ints R).length = R.length := ints_length R
        by_cases hkn : k < n
        · go_wp2_with fail
          clear HK0 HI
          go_loopg [6, 8] (n + 1) (fun N v x wr => ∃ (R : List Nat) (C : List Int) (z : Int) (A6 : Option Addr) (c6 : Nat), v = .slice A6 R.length c6 ∧ x = .int .i64 z ∧ Hid ((OrdSt w A n c C v R wr ∧ KidsAre P n R C ∧ IInv P n R k z) ∧ n + 1 ≤ N + R.length))
          case atStart => exact ⟨R, C, k, A6, c6, rfl, rfl, Lib.hid ⟨⟨HJ.out.1, HJ.out.2.1, HJ.out.2.2.enter hkn⟩, by omega⟩⟩
          case round =>
            obtain ⟨R, C, z, A6, c6, rfl, rfl, HV⟩ := hrel
            rename_i N
            by_cases hz0 : z < 0
            · have t0 : decide (z ≥ 0) = false := by simp; omega
              have HZ := Lib.hid hz0; clear hz0
              go_wp2_with fail
              exact ⟨⟨k + 1, R, C, by go_num, by omega, Lib.hid ⟨HV.out.1.1, HV.out.1.2.1, HV.out.1.2.2.leave (.inl HZ.out)⟩⟩, by simp [intOf]; omega⟩
            · obtain ⟨q, rfl⟩ : ∃ q : Nat, z = (q : Int) := ⟨z.toNat, by omega⟩
              have t0 : decide ((q : Int) ≥ 0) = true := by simp
              clear hz0
              by_cases hqk : q ≤ k
              · have t1 : decide ((q : Int) ≤ (k : Int)) = true := by simp [hqk]
                have hqn : q < n := by omega
                have x1 := HV.out.1.1.at_ hqn
                rw [HV.out.1.2.1 q hqn] at x1
                have i1 : (0 : Int) ≤ (q : Int) := by omega
                have i2 : (q : Int) < (n : Int) := by omega
                obtain ⟨kd, hkd⟩ : ∃ kd, kd = kids P n R q := ⟨_, rfl⟩
                rw [← hkd] at x1
                by_cases hk0 : kd = 0
                · have t2 : ((kd : Int) == 0) = true := by simp [hk0]
                  have HST := Lib.hid (HV.out.1.2.2.step HP.out hqk (by rw [← hkd]; exact hk0))
                  have hIR := HST.out.len_le
                  rw [List.length_append, List.length_singleton] at hIR
                  have hrl : (ints R).length ≤ 1000000 := by rw [ints_length]; omega
                  have HRI := Lib.hid (ints_length R)
                  have HKS := Lib.hid (fun u => kids_snoc (P := P) hqn (show q ∉ R by
                    rcases HV.out.1.2.2.at_ with h | ⟨q', _, h, h2⟩
                    · omega
                    · obtain rfl : q = q' := by omega
                      exact h2) u)
                  have hsz := HV.out.1.1.2.2.2.2.2
                  clear hk0 hkd hRl
                  have HS1 := Lib.hid (HV.out.1.1.alloc (.cells #[.int .i64 q] 3))
                  have hmeas : (R ++ [q]).length = R.length + 1 := by simp
                  rcases HP.out.up hqn with ⟨-, hp⟩ | ⟨-, p, hpn, hpq, hp⟩
                  · have HPQ := Lib.hid hp; clear hp
                    go_wp2_with (at_builtin; refine app_int rfl _ _ rfl (w.heap.size + 2) (Value.slice A6 R.length c6) R.length (ints R) rfl HS1.out.2.2.2.1 wr.heap.size (q : Int) rfl (Blk.new _ _ _) (by omega) (by simp; omega) ?_; intro v' w5 hown' hgr hor; obtain ⟨A7, c7, rfl⟩ := own_form hown'; have HM := Lib.hid (HS1.out.app hown' hgr); clear hown' hgr hor; have k0 := TB.c0 HM.out.1; have kl := HM.out.1.lt; obtain ⟨ad, hAd, hb1, hc⟩ := (HR.out.new HM.out.2.2.2.2.1).at_ hqn; subst hAd; rw [HPQ.out] at hc)
                    go_roundg (n - R.length)
                    case measure => have := HV.out.2; omega
                    case rel =>
                      have hst := HST.out
                      rw [HPQ.out] at hst
                      refine ⟨R ++ [q], C, -1, A7, c7, by rw [hmeas], rfl, Lib.hid ⟨⟨by simpa using HM.out, fun u hu => ?_, hst⟩, by rw [hmeas]; omega⟩⟩
                      have := HKS.out u
                      rw [HPQ.out, if_neg (by omega)] at this
                      rw [HV.out.1.2.1 u hu, this]; simp
                  · have HPQ := Lib.hid hp; clear hp hpq
                    have hkp := HKS.out p
                    rw [HPQ.out, if_pos rfl] at hkp
                    obtain ⟨kp, hkpp⟩ : ∃ kp, kp = kids P n (R ++ [q]) p := ⟨_, rfl⟩
                    have HCP := Lib.hid (show inth C p = ((kp + 1 : Nat) : Int) by rw [HV.out.1.2.1 p hpn, hkp, hkpp])
                    have hkle := kids_le P n (R ++ [q]) p
                    rw [← hkpp] at hkle
                    have HKP := Lib.hid hkpp
                    clear hkp hkpp
                    have u0 : decide ((p : Int) ≥ 0) = true := by simp
                    have j1 : (0 : Int) ≤ (p : Int) := by omega
                    have j2 : (p : Int) < (n : Int) := by omega
                    go_wp2_with (at_builtin; refine app_int rfl _ _ rfl (w.heap.size + 2) (Value.slice A6 R.length c6) R.length (ints R) rfl HS1.out.2.2.2.1 wr.heap.size (q : Int) rfl (Blk.new _ _ _) (by omega) (by simp; omega) ?_; intro v' w5 hown' hgr hor; obtain ⟨A7, c7, rfl⟩ := own_form hown'; have HM := Lib.hid (HS1.out.app hown' hgr); clear hown' hgr hor; have k0 := TB.c0 HM.out.1; have kl := HM.out.1.lt; obtain ⟨ad, hAd, hb1, hc⟩ := (HR.out.new HM.out.2.2.2.2.1).at_ hqn; subst hAd; rw [HPQ.out] at hc; have y1 := HM.out.at_ hpn; have y2 := HM.out.fz p; rw [HCP.out] at y1)
                    go_roundg (n - R.length)
                    case measure => have := HV.out.2; omega
                    case rel =>
                      have hst := HST.out
                      rw [HPQ.out] at hst
                      refine ⟨R ++ [q], C.set p (kp : Int), (p : Int), A7, c7, by rw [hmeas], rfl, Lib.hid ⟨⟨?_, fun u hu => ?_, hst⟩, by rw [hmeas]; omega⟩⟩
                      · have h := HM.out.set_ p (kp : Int)
                        simpa using h
                      · have := HKS.out u
                        rw [inth_set (by rw [HM.out.2.2.1]; exact hpn)]
                        by_cases hup : u = p
                        · rw [if_pos hup, hup, ← HKP.out]
                        · rw [HPQ.out, if_neg (by omega)] at this
                          rw [if_neg hup, HV.out.1.2.1 u hu, this]; simp
                · have t2 : ((kd : Int) == 0) = false := by simp; omega
                  have HLV := Lib.hid (HV.out.1.2.2.leave (.inr (.inr ⟨q, rfl, by rw [← hkd]; exact hk0⟩))); clear hk0 hkd
                  go_wp2_with fail
                  exact ⟨⟨k + 1, R, C, by go_num, by omega, Lib.hid ⟨HV.out.1.1, HV.out.1.2.1, HLV.out⟩⟩, by simp [intOf]; omega⟩
              · have t1 : decide ((q : Int) ≤ (k : Int)) = false := by simp; omega
                have t1' : decide (q ≤ k) = false := by simp; omega
                have HLV := Lib.hid (HV.out.1.2.2.leave (.inr (.inl (by omega)))); clear hqk
                go_wp2_with fail
                exact ⟨⟨k + 1, R, C, by go_num, by omega, Lib.hid ⟨HV.out.1.1, HV.out.1.2.1, HLV.out⟩⟩, by simp [intOf]; omega⟩
        · obtain rfl : n = k := by omega
          have HF := Lib.hid (HJ.out.2.2.full HP.out)
          go_wp2_with fail
          go_ret
          rw [HF.out]
          exact ⟨A6, c6, rfl, HJ.out.1.2.2.2.2.1⟩
section
variable {o : Oper} {a : Act} {w : World} {t : Tmp}
theorem load_tr {g : Nat} {x : Value} {T : TypeId} (hT : T = 44) (ho : o.op = .load T (.tmp t)) (ht : tv a t = .pointer (some ⟨g, 0, none⟩)) (h : Blk w g 44 #[x]) : gives Tryd.prog o a.eval w (fun v w' => v = .agg #[x] ∧ Below w.heap.size w w') := by
  subst hT
  exact gives_load_blk 44 (.tmp t) ho g 44 _ _ ht h Tryd.underlying44 rfl (by kernel_rfl) ⟨rfl, Below.refl _ _⟩
theorem fld_t {g : Nat} (ho : o.op = .fieldAddr 44 (.tmp t) 0) (hx : tv a t = .pointer (some ⟨g, 0, none⟩)) : gives Tryd.prog o a.eval w (fun v w' => v = .pointer (some ⟨g, 0, none⟩) ∧ Below w.heap.size w w') := by
  refine gives_val (.pointer (some ⟨g, 0, none⟩)) ?_ ⟨rfl, Below.refl _ _⟩
  unfold execOp; rw [ho]; simp only [eval_tmp, hx]; go_simp
theorem load_xs {p : Addr} {u : Value} (ho : o.op = .load 33 (.tmp t)) (hx : tv a t = .pointer (some p)) (hc : w.cell? p = some u) : gives Tryd.prog o a.eval w (fun v w' => v = u ∧ Below w.heap.size w w') := by
  refine gives_val u ?_ ⟨rfl, Below.refl _ _⟩
  unfold execOp; rw [ho]; simp only [eval_tmp, hx]; go_simp
theorem len_p {n : Nat} {T e : TypeId} (hu : Tryd.prog.underlying T = some (.slice e)) (ho : o.op = .call { callee := .builtin .len, args := #[.tmp t], argTypes := #[T] }) (h : ∃ (A : Option Addr) (c : Nat), tv a t = .slice A n c) : gives Tryd.prog o a.eval w (fun v w' => v = .int .i64 (n : Int) ∧ Below w.heap.size w w') := by
  obtain ⟨A, c, h⟩ := h
  exact len_c hu ho h
end
theorem rv_ord {P : Program} {f : FuncId} {args : Array Value} {w : World} {n : Nat} (h : Calls P f args w (OrdRet n w)) : Calls P f args w (RV w (fun v _ => ∃ (A : Option Addr) (c : Nat), v = .slice A n c)) :=
  h.mono fun _ _ ⟨A, c, he, hb⟩ => ⟨_, he, ⟨A, c, rfl⟩, hb⟩
def RtSt (w : World) (A : Option Addr) (n c : Nat) (wr : World) : Prop := Blk wr w.heap.size 44 #[.slice A n c] ∧ Below w.heap.size w wr
set_option maxRecDepth 100000 in
set_option maxHeartbeats 4000000 in
theorem rooted_any (A : Option Addr) (P : List Int) (n c rt : Nat) (w : World) (hr : Xs w w.heap.size A n P) (hP : PTree P n rt) (hn : n ≤ 1000) :
    Calls Tryd.prog 43 #[.agg #[.slice A n c]] w fun e w' => e = .returned (.bool true) ∧ Below w.heap.size w w' := by
  have HR := Lib.hid hr; clear hr
  have HP := Lib.hid hP; clear hP
  have H0 := Lib.hid (show RtSt w A n c (w.alloc (.cells #[.slice A n c] 44)) from ⟨Blk.new _ _ _, al w _⟩)
  have k0 := TB.c0 H0.out.1; have kl := H0.out.1.lt
  go_enter Tryd.func43, Tryd.ntmps43
  go_wp2_with fail
  generalize w.alloc (.cells #[.slice A n c] 44) = W0 at *
  go_loop [3, 9] (fun rv iv => ∃ k : Nat, iv = .int .i64 k ∧ k ≤ n ∧ rv = .int .i64 (rootsTo P k : Nat)) (fun _ iv => n - (intOf iv).toNat)
  case atStart => exact ⟨0, rfl, Nat.zero_le _, by simp [rootsTo]⟩
  case round =>
    obtain ⟨k, rfl, hk, rfl⟩ := hrel
    have hrk : rootsTo P k ≤ k := cnt_le _ k
    by_cases hkn : k < n
    · obtain ⟨ad, rfl, hb1, hc⟩ := (HR.out.new H0.out.2).at_ hkn
      have HS := Lib.hid (rootsTo_succ P k)
      rcases HP.out.up hkn with ⟨-, hp⟩ | ⟨-, p, hpn, hpk, hp⟩
      · have HPK := Lib.hid hp
        rw [hp] at hc; clear hp
        rw [HPK.out, if_pos rfl] at HS
        generalize rootsTo P k = q at *
        have t0 : ((-1 : Int) == (k : Int)) = false := by rw [beq_eq_false_iff_ne]; omega
        have t1 : decide ((-1 : Int) ≥ (n : Int)) = false := by simp; omega
        go_wp2_with fail
        exact ⟨⟨k + 1, by go_num, by omega, by rw [HS.out]; go_num⟩, by simp [intOf]; omega⟩
      · have HPK := Lib.hid hp
        rw [hp] at hc; clear hp
        rw [HPK.out, if_neg (by omega), Nat.add_zero] at HS
        generalize rootsTo P k = q at *
        have t0 : ((p : Int) == (k : Int)) = false := by rw [beq_eq_false_iff_ne]; omega
        have t1 : decide ((p : Int) ≥ (n : Int)) = false := by simp; omega
        have t1' : decide (n ≤ p) = false := by simp; omega
        have t2 : decide ((p : Int) < (-1 : Int)) = false := by rw [decide_eq_false_iff_not]; omega
        have t3 : ((p : Int) == (-1 : Int)) = false := by rw [beq_eq_false_iff_ne]; omega
        go_wp2_with fail
        exact ⟨⟨k + 1, by go_num, by omega, by rw [HS.out]; rfl⟩, by simp [intOf]; omega⟩
    · obtain rfl : n = k := by omega
      rw [HP.out.one]
      go_upto_region 10 with (fail)
      have HT := Lib.hid H0.out.1
      have HB := Lib.hid H0.out.2
      clear k0 kl H0
-- %R10
      refine wp_region_each (kss := [[], [(0, 33)], [(1, 34)], [(2, 35)], [(2, 35), (3, 36)], [(2, 35), (4, 37)], [(2, 35)], [(2, 35), (6, 39)], [(2, 35), (7, 40)], [(2, 35), (5, 38), (8, 41)], [(2, 35), (9, 42)], [(10, 43)]]) [(3, .int .i64 1), (1, .pointer (some ⟨w.heap.size, 0, none⟩))] [fun zz _ => zz = .int .i64 1, fun zz _ => zz = .bool true, fun zz _ => zz = .bool true, fun zz _ => zz = .agg #[.slice A n c], fun v _ => ∃ (A : Option Addr) (c : Nat), v = .slice A n c, fun zz _ => zz = .int .i64 ((n : Int)), fun zz _ => zz = .pointer (some ⟨w.heap.size, 0, none⟩), fun zz _ => zz = .slice A n c, fun zz _ => zz = .int .i64 n, fun zz _ => zz = .bool true, fun zz _ => zz = .bool true, fun zz _ => zz = .bool true] (by kernel_rfl) (by kernel_rfl) ⟨rfl, rfl, trivial⟩ ?_ ?_ ?_
      · exact ⟨fun _ _ _ h _ => h, fun _ _ _ h _ => h, fun _ _ _ h _ => h, fun _ _ _ h _ => h, fun _ _ _ h _ => h, fun _ _ _ h _ => h, fun _ _ _ h _ => h, fun _ _ _ h _ => h, fun _ _ _ h _ => h, fun _ _ _ h _ => h, fun _ _ _ h _ => h, fun _ _ _ h _ => h, trivial⟩
      · refine ⟨?_, ?_, ?_, ?_, ?_, ?_, ?_, ?_, ?_, ?_, ?_, ?_, trivial⟩
        · exact fun aa ww hb he hd => ob_plain rfl (gives_move _ rfl ⟨he.1, Below.refl _ _⟩)
        · exact fun aa ww hb he hd => ob_plain rfl (gives_eq_int 1 1 .i64 _ _ _ _ rfl hd.1 rfl ⟨congrArg Value.bool (rfl), Below.refl _ _⟩)
        · exact fun aa ww hb he hd => ob_plain rfl (gives_move _ rfl ⟨hd.1, Below.refl _ _⟩)
        · exact fun aa ww hb he hd => ob_on 35 rfl (by kernel_rfl) hd.1 (load_tr rfl rfl he.2.1 (Blk.below HT.out hb HT.out.lt))
        · exact fun aa ww hb he hd => ob_on 35 rfl (by kernel_rfl) hd.1 (gives_call1 _ _ _ rfl (by kernel_rfl) (by rw [show aa.eval (.tmp 36) = .agg #[.slice A n c] from hd.2.1]; exact rv_ord (order_any _ P _ _ rt _ (HR.out.new (bthen HB.out hb HB.out.size)) HP.out hn)))
        · exact fun aa ww hb he hd => ob_on 35 rfl (by kernel_rfl) hd.1 (len_p Tryd.underlying33 rfl hd.2.1)
        · exact fun aa ww hb he hd => ob_on 35 rfl (by kernel_rfl) hd.1 (fld_t rfl he.2.1)
        · exact fun aa ww hb he hd => ob_on 35 rfl (by kernel_rfl) hd.1 (load_xs rfl hd.2.1 (TB.c0 (Blk.below HT.out hb HT.out.lt)))
        · exact fun aa ww hb he hd => ob_on 35 rfl (by kernel_rfl) hd.1 (len_c Tryd.underlying33 rfl hd.2.1)
        · exact fun aa ww hb he hd => ob_on 35 rfl (by kernel_rfl) hd.1 (gives_eq_int ((n : Int)) n .i64 _ _ _ _ rfl hd.2.1 hd.2.2.1 ⟨congrArg Value.bool (by simp), Below.refl _ _⟩)
        · exact fun aa ww hb he hd => ob_plain rfl (gives_pick true _ _ _ rfl hd.1 ⟨hd.2.1, Below.refl _ _⟩)
        · exact fun aa ww hb he hd => ob_plain rfl (gives_assign _ rfl ⟨hd.1, Below.refl _ _⟩)
      intro vs w2 hb hR
      have e2 : vs 11 = .bool true := hR 11 (by decide)
      clear hR
      simp only [putsL, Nat.zero_add, Nat.reduceAdd, List.take_succ_cons, List.take_zero, Act.put, List.setIfInBounds_toArray, List.set_cons_zero, List.set_cons_succ]
      rw [e2]
      clear e2
-- %end R10
      go_wp2_with fail
      go_ret
      exact ⟨rfl, bthen HB.out hb HB.out.size⟩
theorem tree_size (a : Value) : (Tryd.prog.info? 44).map (·.size) = some (#[a] : Array Value).size := by kernel_rfl
/-- What stands while Reroot turns the edges. -/
def ReSt (w : World) (A : Option Addr) (n c : Nat) (g6 : Nat) (A6 : Option Addr) (c6 : Nat) (Q : List Int) (wr : World) : Prop :=
  Blk wr w.heap.size 44 #[.slice A n c] ∧ Blk wr (w.heap.size + 1) 44 #[.slice none 0 0] ∧ Blk wr g6 44 #[.slice A6 n c6] ∧ wr.ownsRow (w.heap.size + 2) 3 1 (.slice A6 n c6) n (I64 Q) ∧ Below w.heap.size w wr ∧ w.heap.size + 2 ≤ wr.heap.size
theorem I64_set (r : List Int) (e : Nat) (x : Int) : (I64 r).set e (.int .i64 x) = I64 (r.set e x) := by simp [I64, List.map_set]
section
variable {w wr : World} {A : Option Addr} {n c g6 c6 : Nat} {A6 : Option Addr} {Q : List Int}
theorem ReSt.set_ {b : Nat} (h : ReSt w A n c g6 (some ⟨b, 0, none⟩) c6 Q wr) (hb : w.heap.size + 2 ≤ b) (k : Nat) (x : Int) : ReSt w A n c g6 (some ⟨b, 0, none⟩) c6 (Q.set k x) (wr.setCell ⟨b, k, none⟩ (.int .i64 x)) := by
  obtain ⟨h1, h2⟩ := World.ownsRow.stored h.2.2.2.1 k (.int .i64 x)
  rw [I64_set] at h1
  refine ⟨h.1.far (p := ⟨b, k, none⟩) (by show w.heap.size ≠ b; omega) _, h.2.1.far (p := ⟨b, k, none⟩) (by show w.heap.size + 1 ≠ b; omega) _, h.2.2.1.appended h.2.2.2.1 h2 (by decide), h1, h.2.2.2.2.1.setCell (p := ⟨b, k, none⟩) (by show w.heap.size ≤ b; omega) _, ?_⟩
  have := h.2.2.2.2.2
  simpa [World.setCell] using this
end
def ReRet (P : List Int) (n s : Nat) (w : World) (e : Ending) (w' : World) : Prop := ∃ (Q : List Int) (A : Option Addr) (c : Nat), PTree Q n s ∧ (∀ es x, tops es Q n x = tops es P n x) ∧ e = .returned (.tuple #[.agg #[.slice A n c], .int .i64 0]) ∧ w'.ownsRow w.heap.size 3 1 (.slice A n c) n (I64 Q) ∧ Below w.heap.size w w'
set_option maxRecDepth 100000 in
set_option maxHeartbeats 4000000 in
theorem reroot_any (A : Option Addr) (P : List Int) (n c rt s : Nat) (w : World) (hr : Xs w w.heap.size A n P) (hP : PTree P n rt) (hn : n ≤ 1000) (hs : s < n) :
    Calls Tryd.prog 41 #[.agg #[.slice A n c], .int .i64 s] w (ReRet P n s w) := by
  have HR := Lib.hid hr; clear hr
  have HP := Lib.hid hP
  obtain ⟨_, _, _, d, hd⟩ := hP
  have HD := Lib.hid hd; clear hd
  have hS : Below w.heap.size w ((w.alloc (.cells #[.slice A n c] 44)).alloc (.cells #[.slice none 0 0] 44)) := bthen (al w _) (al _ _) (by simp)
  have hT : Blk ((w.alloc (.cells #[.slice A n c] 44)).alloc (.cells #[.slice none 0 0] 44)) w.heap.size 44 #[.slice A n c] := (Blk.new _ _ _).alloc _
  have hZ : Blk ((w.alloc (.cells #[.slice A n c] 44)).alloc (.cells #[.slice none 0 0] 44)) (w.heap.size + 1) 44 #[.slice none 0 0] := by
    have h := Blk.new (w.alloc (.cells #[.slice A n c] 44)) 44 #[Value.slice none 0 0]
    rwa [World.size_alloc] at h
  have HB := Lib.hid hS; have HT := Lib.hid hT; have HZ := Lib.hid hZ
  have k0 := TB.c0 HT.out; have kl := HT.out.lt
  clear hS hT hZ
  go_enter Tryd.func41, Tryd.ntmps41
  go_wp2_with fail
  generalize (w.alloc (.cells #[.slice A n c] 44)).alloc (.cells #[.slice none 0 0] 44) = W0 at *
  go_wp2_with fail
  refine (rooted_any A P n c rt _ (HR.out.new HB.out) HP.out hn).mono ?_
  rintro e w1 ⟨rfl, hb⟩
  replace HT := Lib.hid (HT.out.below hb HT.out.lt); replace HZ := Lib.hid (HZ.out.below hb HZ.out.lt); replace HB := Lib.hid (bthen HB.out hb HB.out.size)
  clear hb k0 kl
  have k0 := TB.c0 HT.out; have kl := HT.out.lt
  have t1 : decide ((s : Int) < 0) = false := by simp
  have t2 : decide ((s : Int) ≥ (n : Int)) = false := by simp; omega
  have t2' : decide (n ≤ s) = false := by simp; omega
  go_wp2_with fail
  refine (clone_int A P n c _ (HR.out.new HB.out) (by omega)).mono ?_
  rintro e w2 ⟨A6, c6, rfl, hown, hb⟩
  have hsz : w.heap.size + 2 ≤ w1.heap.size := HZ.out.lt
  replace HT := Lib.hid (HT.out.below hb HT.out.lt); replace HZ := Lib.hid (HZ.out.below hb HZ.out.lt); replace HB := Lib.hid (bthen HB.out hb HB.out.size)
  have HI := Lib.hid (show ReSt w A n c w2.heap.size A6 c6 P (w2.alloc (.cells #[.slice A6 n c6] 44)) from ⟨HT.out.alloc _, HZ.out.alloc _, Blk.new _ _ _, (own_lower hown hsz).alloc _, HB.out.alloc HB.out.size _, by have := hb.size; simp; omega⟩)
  have hz2 : w.heap.size + 2 ≤ w2.heap.size := by have := hb.size; omega
  clear hb k0 kl hown HT HZ HB
  have k0 := TB.c0 HI.out.2.2.1; have kl := HI.out.2.2.1.lt
  go_wp2_with fail
  clear k0 kl
  go_loopw [7, 8] (fun vv fv wr => ∃ (v fr : Int), vv = .int .i64 v ∧ fv = .int .i64 fr ∧ Hid (∃ (Q : List Int) (vis : Nat → Bool) (d' : Nat → Nat) (j : Nat), ReSt w A n c w2.heap.size A6 c6 Q wr ∧ ReI P Q n rt s d vis d' j v fr ∧ (fr = -1 ∨ ∃ a : Nat, fr = (a : Int)) ∧ ∀ es x, tops es Q n x = tops es P n x + linkB es fr v x)) (fun vv _ _ => match vv with | .int _ v => if v < 0 then 0 else d v.toNat + 1 | _ => 0)
  case atStart => exact ⟨s, -1, rfl, rfl, Lib.hid ⟨P, _, _, _, HI.out, ReI.start HP.out hs d, .inl rfl, fun es x => by simp [linkB]⟩⟩
  case round =>
    obtain ⟨v, fr, rfl, rfl, HV⟩ := hrel
    obtain ⟨Q, vis, d', j, hQ⟩ := HV.out
    have HQ := Lib.hid hQ; clear hQ HV
    by_cases hv : v < 0
    · have t3 : decide (v ≥ 0) = false := by simp; omega
      have hv1 : v = -1 := by
        rcases HQ.out.2.1.to_ with ⟨h, _⟩ | ⟨b, _, h, _⟩ <;> omega
      subst hv1
      have k0 := TB.c0 HQ.out.1.2.2.1; have kl := HQ.out.1.2.2.1.lt
      have z0 := TB.c0 HQ.out.1.2.1; have zl := HQ.out.1.2.1.lt; have zf := HQ.out.1.2.1.frozen 0
      clear hv
      go_wp2_with fail
      refine bodyPost_ret (v := .tuple #[.agg #[.slice A6 n c6], .int .i64 0]) ?_ rfl ⟨Q, A6, c6, HQ.out.2.1.done HP.out hs HD.out, fun es x => by rw [HQ.out.2.2.2]; simp [linkB], rfl, ?_, ?_⟩
      · exact results_step Tryd.results41 _ _ _ _ _ (0, 0) _ rfl (HQ.out.1.2.1.set_ 0 (.slice A6 n c6)) Tryd.underlying44 rfl (tree_size _)
      · exact own_lower (own_far HQ.out.1.2.2.2.1 HQ.out.1.2.1 (by decide) 0 _) (by omega)
      · exact HQ.out.1.2.2.2.2.1.setCell (p := ⟨w.heap.size + 1, 0, none⟩) (by show w.heap.size ≤ w.heap.size + 1; omega) _
    · obtain ⟨b, rfl⟩ : ∃ b : Nat, v = (b : Int) := ⟨v.toNat, by omega⟩
      have t3 : decide ((b : Int) ≥ 0) = true := by simp
      obtain ⟨hbn, hst⟩ := HQ.out.2.1.step HP.out HD.out
      have HST := Lib.hid hst; clear hst
      obtain ⟨g4, cap, hv4, hb4, hg4⟩ := HQ.out.1.2.2.2.1.form (by omega)
      injection hv4 with hv1 _ hv2
      subst hv1; subst hv2
      obtain ⟨ad, rfl, hb1, hc⟩ := (HR.out.new HQ.out.1.2.2.2.2.1).at_ hbn
      have HPB := Lib.hid (HP.out.up hbn)
      have k0 := TB.c0 HQ.out.1.2.2.1; have kl := HQ.out.1.2.2.1.lt
      have y0 := TB.c0 HQ.out.1.1; have yl := HQ.out.1.1.lt
      have x1 : wr.cell? ⟨g4, b, none⟩ = some (.int .i64 (inth Q b)) := by
        rw [HQ.out.1.2.2.2.1.cellAt b (by omega)]
        have h1 : b < Q.length := by rw [HQ.out.2.1.len]; exact hbn
        simp [I64, inth, List.getD, h1]
      have x2 := HQ.out.1.2.2.2.1.frozenAt b
      have i1 : (0 : Int) ≤ (b : Int) := by omega
      have i2 : (b : Int) < (n : Int) := by omega
      clear hv
      go_wp2_with fail
      refine ⟨⟨_, _, rfl, rfl, Lib.hid ⟨Q.set b fr, _, _, _, HQ.out.1.set_ hb4 b fr, HST.out, .inr ⟨b, rfl⟩, fun es x => HQ.out.2.1.tops HP.out HQ.out.2.2.1 (HQ.out.2.2.2 es x)⟩⟩, ?_⟩
      show (if inth P b < 0 then 0 else d (inth P b).toNat + 1) < (if (b : Int) < 0 then 0 else d (b : Int).toNat + 1)
      rw [if_neg (show ¬ (b : Int) < 0 by omega)]
      split
      · omega
      · rename_i h
        by_cases hbr : b = rt
        · rw [hbr, HP.out.root] at h; omega
        · obtain ⟨p, h1, h2, h3⟩ := HD.out b hbn hbr
          rw [h2]; simpa using h3
end Go.Proofs.YtjofdlafblpclaaDoor
namespace Go.Proofs.YtjofdlafblpclaaDoor
open Go.RowKit
set_option linter.unusedSimpArgs false
set_option linter.unusedVariables false

theorem S3_at {l : List (Int × Int × Int)} {k : Nat} (h : k < l.length) : (S3 l)[3 * k]? = some (.int .i64 (l.getD k (0, 0, 0)).1) ∧ (S3 l)[3 * k + 1]? = some (.int .i64 (l.getD k (0, 0, 0)).2.1) ∧ (S3 l)[3 * k + 2]? = some (.int .i64 (l.getD k (0, 0, 0)).2.2) := by
  induction l generalizing k with
  | nil => simp at h
  | cons t l ih =>
    cases k with
    | zero => simp [S3]
    | succ k =>
      have := ih (k := k) (by simpa using h)
      simp only [S3, List.flatMap_cons, List.getD_cons_succ] at this ⊢
      have e : ∀ j, ([Value.int .i64 t.1, Value.int .i64 t.2.1, Value.int .i64 t.2.2] ++ List.flatMap (fun t => [Value.int .i64 t.1, Value.int .i64 t.2.1, Value.int .i64 t.2.2]) l)[3 * (k + 1) + j]? = (List.flatMap (fun t : Int × Int × Int => [Value.int .i64 t.1, Value.int .i64 t.2.1, Value.int .i64 t.2.2]) l)[3 * k + j]? := by
        intro j
        rw [List.getElem?_append_right (by simp; omega)]
        congr 1
        simp; omega
      exact ⟨(e 0).trans this.1, (e 1).trans this.2.1, (e 2).trans this.2.2⟩
theorem run_step_lt {n : Nat} {r0 : List Nat} {g0 : List Bool} {l : List (Int × Int × Int)} {r : List Nat} {g : List Bool} (h : Run n r0 g0 l r g) : ∀ t ∈ l, (∃ e : Nat, t.1 = (e : Int) ∧ e < r0.length) ∧ (t.2.1 = -1 ∨ ∃ f : Nat, t.2.1 = (f : Int) ∧ f < r0.length) := by
  induction h with
  | nil => intro t ht; simp at ht
  | @abs l r g e f h ha ih =>
    intro t ht
    rw [List.mem_append, List.mem_singleton] at ht
    rcases ht with h1 | rfl
    · exact ih t h1
    · have := h.lengths.1
      exact ⟨⟨e, rfl, by have := ha.1; omega⟩, .inr ⟨f, rfl, by have := ha.2.1; omega⟩⟩
  | @iso l r g e v h ha hi ih =>
    intro t ht
    rw [List.mem_append, List.mem_singleton] at ht
    rcases ht with h1 | rfl
    · exact ih t h1
    · have := h.lengths.1
      exact ⟨⟨e, rfl, by have := hi.2.1; omega⟩, .inl rfl⟩
theorem parOf_take (m : Nat) {l : List (Int × Int × Int)} {k : Nat} (h : k < l.length) : parOf m (l.take (k + 1)) = if 0 ≤ (l.getD k (0, 0, 0)).2.1 then (parOf m (l.take k)).set (l.getD k (0, 0, 0)).1.toNat (l.getD k (0, 0, 0)).2.1 else parOf m (l.take k) := by
  rw [List.take_succ_eq_append_getElem h, parOf_snoc]
  simp [List.getD, h]
theorem run_len {n : Nat} {es : List Nat} (hn : n ≤ 32) (hl : es.length ≤ 64) (hb : ∀ x ∈ es, x < 2 ^ n) {l : List (Int × Int × Int)} {r : List Nat} {g : List Bool} (h : Run n es (List.replicate es.length false) l r g) : l.length ≤ 2112 := by
  have key : ∀ {l r g}, Run n es (List.replicate es.length false) l r g → l.length + meas n r g ≤ meas n es (List.replicate es.length false) := by
    intro l r g h
    induction h with
    | nil => simp
    | abs h ha ih =>
      have hs := (h.sane hn (sane_start hb)).1
      have := meas_abs (n := n) hs.len ha
      simp only [List.length_append, List.length_singleton]; omega
    | iso h ha hi ih =>
      have hs := (h.sane hn (sane_start hb)).1
      have := meas_iso (g := ‹List Bool›) hn (hs.lt32 hn) hi
      simp only [List.length_append, List.length_singleton]; omega
  have h1 := key h
  have h2 := meas_le (n := n) (r := es) (g := List.replicate es.length false)
  rw [List.length_replicate] at h2
  have h3 : es.length * n ≤ 64 * 32 := Nat.mul_le_mul (by omega) (by omega)
  omega
/-- What stands while Build lays the parents. -/
def BuSt (w : World) (n : Nat) (A : Option Addr) (len c g5 : Nat) (P : List Int) (wr : World) : Prop :=
  GB wr w.heap.size 24 (.int .i64 n) (.slice A len c) ∧ Blk wr (w.heap.size + 1) 44 #[.slice none 0 0] ∧ (Blk wr g5 3 (irow P) ∧ P.length = len) ∧ Below w.heap.size w wr ∧ w.heap.size + 2 ≤ g5
section
variable {w wr : World} {n : Nat} {A : Option Addr} {len c g5 : Nat} {P : List Int}
theorem BuSt.set_ (h : BuSt w n A len c g5 P wr) (k : Nat) (x : Int) : BuSt w n A len c g5 (P.set k x) (wr.setCell ⟨g5, k, none⟩ (.int .i64 x)) := by
  have hb := h.2.2.1.1.set_ k (.int .i64 x)
  rw [irow_set] at hb
  have h5 := h.2.2.2.2
  exact ⟨h.1.far (p := ⟨g5, k, none⟩) (by show w.heap.size ≠ g5; omega) _, h.2.1.far (p := ⟨g5, k, none⟩) (by show w.heap.size + 1 ≠ g5; omega) _, ⟨hb, by rw [List.length_set]; exact h.2.2.1.2⟩, h.2.2.2.1.setCell (p := ⟨g5, k, none⟩) (by show w.heap.size ≤ g5; omega) _, h5⟩
theorem BuSt.new {w' : World} (h : BuSt w n A len c g5 P wr) (hb : Below wr.heap.size wr w') : BuSt w n A len c g5 P w' :=
  ⟨h.1.new hb, h.2.1.below hb h.2.1.lt, ⟨h.2.2.1.1.below hb h.2.2.1.1.lt, h.2.2.1.2⟩, bthen h.2.2.2.1 hb h.2.2.2.1.size, h.2.2.2.2⟩
theorem BuSt.at_ (h : BuSt w n A len c g5 P wr) {k : Nat} (hk : k < len) : wr.cell? ⟨g5, k, none⟩ = some (.int .i64 (inth P k)) := by
  rw [h.2.2.1.1.cell, irow_get (by rw [h.2.2.1.2]; exact hk)]
end
def BuRet (n : Nat) (es : List Nat) (len : Nat) (w : World) (e : Ending) (w' : World) : Prop := ∃ (P : List Int) (rt : Nat) (A : Option Addr) (c : Nat), PTree P len rt ∧ JoinT es P len ∧ e = .returned (.tuple #[.agg #[.slice A len c], .int .i64 0]) ∧ Xs w' w'.heap.size A len P ∧ Below w.heap.size w w'
theorem ptree_int {P : List Int} {m rt : Nat} (h : PTree P m rt) (hm : m ≤ 1000) : ∀ x ∈ P, -9223372036854775808 ≤ x ∧ x ≤ 9223372036854775807 := by
  intro x hx
  obtain ⟨u, hu, rfl⟩ := List.getElem_of_mem hx
  rw [← inth_eq hu]
  rw [h.len] at hu
  rcases h.up hu with ⟨_, h1⟩ | ⟨_, p, h1, _, h2⟩
  · rw [h1]; omega
  · rw [h2]; omega
set_option maxRecDepth 100000 in
set_option maxHeartbeats 4000000 in
theorem build_any (n : Nat) (A : Option Addr) (es : List Nat) (len c : Nat) (w : World) (hr : Es w w.heap.size A len es) (hcc : checkCode n es = 0) (h0 : 0 < len) (ha : Acyc n es) :
    Calls Tryd.prog 40 #[.agg #[.int .i64 n, .slice A len c]] w (BuRet n es len w) := by
  obtain ⟨_, hn, hl64, hes⟩ := checkCode_zero hcc
  have hn' : n ≤ 32 := by omega
  have hes' : ∀ e ∈ es, e < 2 ^ n := by simpa using hes
  have HES := Lib.hid hes'; clear hes hes' hn
  have hll := hr.len
  subst hll
  have HR := Lib.hid hr; clear hr
  have HC := Lib.hid hcc; clear hcc
  have HA := Lib.hid ha; clear ha
  have hmk := mk_int es.length (by omega)
  have HG := Lib.hid ((GB.made w 24 (.int .i64 n) (.slice A es.length c)).alloc (.cells #[.slice none 0 0] 44))
  have HB := Lib.hid (show Below w.heap.size w ((w.alloc (.cells #[.int .i64 n, .slice A es.length c] 24)).alloc (.cells #[.slice none 0 0] 44)) from bthen (al w _) (al _ _) (by simp))
  have HZ := Lib.hid (show Blk ((w.alloc (.cells #[.int .i64 n, .slice A es.length c] 24)).alloc (.cells #[.slice none 0 0] 44)) (w.heap.size + 1) 44 #[.slice none 0 0] by
    have h := Blk.new (w.alloc (.cells #[.int .i64 n, .slice A es.length c] 24)) 44 #[Value.slice none 0 0]
    rwa [World.size_alloc] at h)
  have g0 := HG.out.c0; have g1 := HG.out.c1; have gl := HG.out.lt
  go_enter Tryd.func40, Tryd.ntmps40
  go_wp2_with fail
  generalize (w.alloc (.cells #[.int .i64 n, .slice A es.length c] 24)).alloc (.cells #[.slice none 0 0] 44) = W0 at *
  go_wp2_with fail
  refine (check_any n A es es.length c _ (HR.out.new HB.out)).mono ?_
  rintro e w1 ⟨rfl, hb⟩
  rw [HC.out]
  replace HG := Lib.hid (HG.out.new hb); replace HZ := Lib.hid (HZ.out.below hb HZ.out.lt); replace HB := Lib.hid (bthen HB.out hb HB.out.size)
  clear hb g0 g1 gl
  have g0 := HG.out.c0; have g1 := HG.out.c1; have gl := HG.out.lt
  have t0 : ((es.length : Int) == 0) = false := by rw [beq_eq_false_iff_ne]; omega
  go_wp2_with fail
  refine (acyclic_ok n A es es.length c _ (HR.out.new HB.out) HC.out).mono ?_
  rintro e w2 ⟨b, hb0, rfl, hb⟩
  obtain rfl := hb0.2 HA.out
  replace HG := Lib.hid (HG.out.new hb); replace HZ := Lib.hid (HZ.out.below hb HZ.out.lt); replace HB := Lib.hid (bthen HB.out hb HB.out.size)
  clear hb g0 g1 gl hb0
  have g0 := HG.out.c0; have g1 := HG.out.c1; have gl := HG.out.lt
  have H5 := Lib.hid (show BuSt w n A es.length c w2.heap.size (List.replicate es.length 0) (w2.alloc (.cells (irow (List.replicate es.length 0)) 3)) from ⟨HG.out.alloc _, HZ.out.alloc _, ⟨Blk.new _ _ _, by simp⟩, HB.out.alloc HB.out.size _, HZ.out.lt⟩)
  go_wp2_with fail
  clear g0 g1 gl hmk
  go_loopw [32] (fun i wr => ∃ (k : Nat) (P : List Int), i = .int .i64 k ∧ k ≤ es.length ∧ Hid (BuSt w n A es.length c w2.heap.size P wr ∧ ∀ j, j < k → inth P j = -1)) (fun i _ => es.length - (intOf i).toNat)
  case atStart => exact ⟨0, _, rfl, Nat.zero_le _, Lib.hid ⟨H5.out, fun j hj => absurd hj (by omega)⟩⟩
  case round =>
    obtain ⟨k, P, rfl, hk, HI⟩ := hrel
    by_cases hkl : k < es.length
    · have x1 := HI.out.1.at_ hkl
      have x2 := HI.out.1.2.2.1.1.frozen k
      have i1 : (0 : Int) ≤ (k : Int) := by omega
      have i2 : (k : Int) < (es.length : Int) := by omega
      go_wp2_with fail
      refine ⟨⟨k + 1, P.set k (-1), by go_num, by omega, Lib.hid ⟨HI.out.1.set_ k (-1), fun j hj => ?_⟩⟩, by simp [intOf]; omega⟩
      rw [inth_set (by rw [HI.out.1.2.2.1.2]; exact hkl)]
      split
      · rfl
      · exact HI.out.2 j (by omega)
    · obtain ⟨m, hm⟩ : ∃ m, m = es.length := ⟨_, rfl⟩
      have HM := Lib.hid hm
      have hkm : k = m := by omega
      subst hkm
      have hP : P = parOf k [] := by
        refine List.ext_getElem (by rw [HI.out.1.2.2.1.2, parOf_length, HM.out]) fun i h1 h2 => ?_
        rw [← inth_eq h1, HI.out.2 i (by rw [HI.out.1.2.2.1.2] at h1; omega)]
        simp [parOf]
      subst hP
      clear hkl
      have g0 := HI.out.1.1.c0; have g1 := HI.out.1.1.c1; have gl := HI.out.1.1.lt
      go_wp2_with fail
      refine (reduce_ok n A es es.length c _ (HR.out.new HI.out.1.2.2.2.1) HC.out).mono ?_
      rintro e w3 ⟨l, r, g, A6, c6, A4, c4, hrun, hab, hiso, rfl, hS, hE4, hb⟩
      have HI3 := Lib.hid (HI.out.1.new hb)
      have hbs : wr.heap.size + 1 ≤ w3.heap.size ∨ l = [] := by
        rcases hS.2 with ⟨_, h1⟩ | ⟨g', cap, cur, _, h1, h2, _⟩
        · exact .inr (List.eq_nil_of_length_eq_zero h1)
        · exact .inl (by have := Blk.lt' h2; omega)
      have HS := Lib.hid (own_lower hS (show w2.heap.size + 1 ≤ wr.heap.size + 1 by have := HI.out.1.2.2.1.1.lt; omega))
      have HBW := Lib.hid hb
      have HRUN := Lib.hid hrun
      have hlen := run_len hn' hl64 HES.out hrun
      have HFIN := Lib.hid (show AbsSpec r g none ∧ ∀ x ∈ r, x = 0 by
        obtain ⟨l', r', g', h1, h2, h3⟩ := HA.out
        obtain ⟨_, rfl, rfl⟩ := h1.final h2 hrun ⟨hab, hiso⟩
        exact ⟨hab, h3⟩)
      clear hrun hab hiso hS hE4 hb g0 g1 gl HI HB HZ HG
      go_wp2_with fail
      clear hbs
      have hg5 : w2.heap.size < w3.heap.size := HI3.out.2.2.1.1.lt
      go_loopw [46] (fun i wr => ∃ k : Nat, i = .int .i64 k ∧ k ≤ l.length ∧ Hid (BuSt w n A es.length c w2.heap.size (parOf es.length (l.take k)) wr ∧ wr.ownsRow (w2.heap.size + 1) 76 3 (.slice A6 l.length c6) l.length (S3 l))) (fun i _ => l.length - (intOf i).toNat)
      case atStart => exact ⟨0, rfl, Nat.zero_le _, Lib.hid ⟨by rw [List.take_zero, show parOf es.length [] = parOf k [] from by rw [HM.out]]; exact HI3.out, HS.out⟩⟩
      case round =>
        obtain ⟨k, rfl, hk, HK⟩ := hrel
        by_cases hkl : k < l.length
        · obtain ⟨gs, cs, hv, hbs, hgs⟩ := HK.out.2.form (by omega)
          injection hv with hv1 _ hv2
          subst hv1; subst hv2
          obtain ⟨s0, s1, s2⟩ := S3_at hkl
          have HPT := Lib.hid (parOf_take es.length hkl)
          have hlt := run_step_lt HRUN.out (l.getD k (0, 0, 0)) (by simp [List.getD, hkl])
          generalize l.getD k (0, 0, 0) = t at *
          obtain ⟨t0, t1, t2⟩ := t
          obtain ⟨⟨e, he, hel⟩, hf⟩ := hlt
          simp only at he
          subst he
          simp only at s0 s1 s2
          have i1 : (0 : Int) ≤ (k : Int) := by omega
          have i2 : (k : Int) < (l.length : Int) := by omega
          have x0 : wr.cell? ⟨gs, k * 3, none⟩ = some (.int .i64 e) := by rw [Nat.mul_comm]; exact (HK.out.2.cellAt (3 * k) (by omega)).trans s0
          have x1 : wr.cell? ⟨gs, k * 3 + 1, none⟩ = some (.int .i64 t1) := by rw [Nat.mul_comm]; exact (HK.out.2.cellAt (3 * k + 1) (by omega)).trans s1
          have x2 : wr.cell? ⟨gs, k * 3 + 2, none⟩ = some (.int .i64 t2) := by rw [Nat.mul_comm]; exact (HK.out.2.cellAt (3 * k + 2) (by omega)).trans s2
          clear s0 s1 s2
          have j1 : (0 : Int) ≤ (e : Int) := by omega
          have j2 : (e : Int) < (es.length : Int) := by omega
          have HK2 := Lib.hid (HK.out.1.new (al wr (.cells #[.int .i64 e, .int .i64 t1, .int .i64 t2] 76)))
          have y1 := HK2.out.at_ hel
          have y2 := HK2.out.2.2.1.1.frozen e
          have HO2 := Lib.hid (HK.out.2.alloc (.cells #[.int .i64 e, .int .i64 t1, .int .i64 t2] 76))
          rcases hf with h1 | ⟨f, h1, hfl⟩
          · simp only at h1
            subst h1
            have HN := Lib.hid (show parOf es.length (l.take (k + 1)) = parOf es.length (l.take k) by rw [HPT.out, if_neg (by simp)])
            clear HPT
            go_wp2_with fail
            exact ⟨⟨k + 1, by go_num, by omega, Lib.hid ⟨by rw [HN.out]; exact HK2.out, HO2.out⟩⟩, by simp [intOf]; omega⟩
          · simp only at h1
            subst h1
            have HN := Lib.hid (show parOf es.length (l.take (k + 1)) = (parOf es.length (l.take k)).set e (f : Int) by rw [HPT.out, if_pos (by simp)]; simp)
            clear HPT
            have t9 : decide ((f : Int) ≥ 0) = true := by simp
            go_wp2_with fail
            exact ⟨⟨k + 1, by go_num, by omega, Lib.hid ⟨by rw [HN.out]; exact HK2.out.set_ e (f : Int), own_low HO2.out (by omega) e _⟩⟩, by simp [intOf]; omega⟩
        · have hkl2 : k = l.length := by omega
          subst hkl2
          clear hkl
          have HKO := Lib.hid HK.out.1
          obtain ⟨rt, hpt, hjt⟩ := build_tree hn' HES.out h0 HRUN.out HFIN.out.1 HFIN.out.2
          have HPT := Lib.hid hpt; have HJT := Lib.hid hjt; clear hpt hjt
          rw [List.take_length] at HKO
          have z0 := TB.c0 HKO.out.2.1; have zl := HKO.out.2.1.lt; have zf := HKO.out.2.1.frozen 0
          have hwl : w.heap.size ≤ w.heap.size + 1 := by omega
          have g52 := HKO.out.2.2.2.2
          clear HK
          go_wp2_with fail
          refine bodyPost_ret (v := .tuple #[.agg #[.slice (some ⟨w2.heap.size, 0, none⟩) es.length es.length], .int .i64 0]) ?_ rfl ⟨parOf es.length l, rt, _, _, HPT.out, HJT.out, rfl, ?_, ?_⟩
          · exact results_step Tryd.results40 _ _ _ _ _ (0, 0) _ rfl (HKO.out.2.1.set_ 0 _) Tryd.underlying44 rfl (tree_size _)
          · have h := (HKO.out.2.2.1.1.far (p := ⟨w.heap.size + 1, 0, none⟩) (by show w2.heap.size ≠ w.heap.size + 1; omega) (.slice (some ⟨w2.heap.size, 0, none⟩) es.length es.length))
            have hx := Xs.of_blk h (by rw [parOf_length]; omega) (ptree_int HPT.out (by omega))
            rwa [parOf_length] at hx
          · exact HKO.out.2.2.2.1.setCell (p := ⟨w.heap.size + 1, 0, none⟩) hwl _
end Go.Proofs.YtjofdlafblpclaaDoor
namespace Go.Proofs.YtjofdlafblpclaaDoor
set_option linter.unusedVariables false

theorem keptI_mem {es : List Nat} {i : Nat} : i ∈ keptI es ↔ i < es.length ∧ contF es i = i := by
  simp [keptI, List.mem_filter]
theorem keptI_nodup (es : List Nat) : (keptI es).Nodup := List.nodup_range.filter _
/-- The nodes of the smaller tree. -/
def ndF (es : List Nat) (j : Nat) : Nat := nth (keptI es ++ [es.length]) j
section
variable {es : List Nat}
theorem ndF_last : ndF es (keptI es).length = es.length := by simp [ndF, nth, List.getD]
theorem ndF_lt {j : Nat} (h : j < (keptI es).length) : ndF es j ∈ keptI es ∧ ndF es j < es.length := by
  have e : ndF es j = nth (keptI es) j := by simp [ndF, nth, List.getD, List.getElem?_append_left h]
  rw [e]
  exact ⟨nth_mem h, (keptI_mem.1 (nth_mem h)).1⟩
theorem ndF_le {j : Nat} (h : j < (keptI es).length + 1) : ndF es j < es.length + 1 := by
  by_cases hj : j < (keptI es).length
  · have := (ndF_lt hj).2; omega
  · obtain rfl : j = (keptI es).length := by omega
    rw [ndF_last]; omega
theorem ndF_inj {i j : Nat} (hi : i < (keptI es).length + 1) (hj : j < (keptI es).length + 1) (h : ndF es i = ndF es j) : i = j := by
  have hnd : (keptI es ++ [es.length]).Nodup := by
    rw [List.nodup_append]
    refine ⟨keptI_nodup es, by simp, fun a ha b hb => ?_⟩
    rw [List.mem_singleton] at hb
    have := (keptI_mem.1 ha).1; omega
  have hl : (keptI es ++ [es.length]).length = (keptI es).length + 1 := by simp
  unfold ndF at h
  rw [nth_eq (by omega), nth_eq (by omega)] at h
  rcases Nat.lt_trichotomy i j with hlt | rfl | hlt
  · exact absurd h ((List.pairwise_iff_getElem.1 hnd) i j (by omega) (by omega) hlt)
  · rfl
  · exact absurd h.symm ((List.pairwise_iff_getElem.1 hnd) j i (by omega) (by omega) hlt)
theorem ndF_of {u : Nat} (h : u ∈ keptI es) : ∃ j, j < (keptI es).length ∧ ndF es j = u := by
  obtain ⟨j, hj, rfl⟩ := List.getElem_of_mem h
  refine ⟨j, hj, ?_⟩
  simp [ndF, nth, List.getD, List.getElem?_append_left hj, hj]
theorem ndF_edge {b j : Nat} (h : j < (keptI es).length + 1) : nth (keptE es ++ [b]) j = nth (es ++ [b]) (ndF es j) := by
  have hk : (keptE es).length = (keptI es).length := by simp [keptE]
  by_cases hj : j < (keptI es).length
  · have e1 : nth (keptE es ++ [b]) j = nth (keptE es) j := by simp [nth, List.getD, List.getElem?_append_left (show j < (keptE es).length by omega)]
    have e2 : ndF es j = nth (keptI es) j := by simp [ndF, nth, List.getD, List.getElem?_append_left hj]
    have e3 : nth (keptE es) j = nth es (nth (keptI es) j) := by
      rw [nth_eq (by omega), nth_eq hj]; simp [keptE]
    have h2 := (ndF_lt hj).2
    rw [e1, e3, e2]
    rw [e2] at h2
    generalize nth (keptI es) j = q at h2
    simp [nth, List.getD, List.getElem?_append_left h2]
  · obtain rfl : j = (keptI es).length := by omega
    rw [ndF_last, ← hk]
    simp [nth, List.getD]
/-- The parents that connex.Tree lays. -/
structure FinT (es : List Nat) (small F : List Int) : Prop where
  len : F.length = es.length + 1
  cont : ∀ i, i < es.length → i ∉ keptI es → inth F i = (contF es i : Nat)
  nd : ∀ j, j < (keptI es).length + 1 → inth F (ndF es j) = if 0 ≤ inth small j then ((ndF es (inth small j).toNat : Nat) : Int) else -1
theorem cont_kept (hb : ∀ x ∈ es, x < 2 ^ 32) {i : Nat} (hi : i < es.length) : contF es i ∈ keptI es :=
  keptI_mem.2 ⟨cont_lt hb hi, (cont_top hb hi).2⟩
theorem FinT.tree (hb : ∀ x ∈ es, x < 2 ^ 32) {small F : List Int} (h : FinT es small F) (hs : PTree small ((keptI es).length + 1) (keptI es).length) : PTree F (es.length + 1) es.length := by
  obtain ⟨_, _, hroot, d, hd⟩ := id hs
  obtain ⟨D, hD⟩ := fun_bound d ((keptI es).length + 1)
  have hlast : inth F es.length = -1 := by
    have := h.nd (keptI es).length (by omega)
    rwa [ndF_last, hroot, if_neg (by omega)] at this
  have hidx : ∀ j, j < (keptI es).length + 1 → (keptI es ++ [es.length]).idxOf (ndF es j) = j := fun j hj => by
    have hl : (keptI es ++ [es.length]).length = (keptI es).length + 1 := by simp
    have h1 : ndF es j ∈ keptI es ++ [es.length] := nth_mem (by omega)
    have h2 := List.idxOf_lt_length_of_mem h1
    refine ndF_inj (by omega) hj ?_
    rw [ndF, nth_eq h2]
    simp
  refine ⟨h.len, by omega, hlast, fun u => if u = es.length ∨ u ∈ keptI es then d ((keptI es ++ [es.length]).idxOf u) else D + 1, fun u hu hne => ?_⟩
  by_cases huk : u ∈ keptI es
  · obtain ⟨j, hj, rfl⟩ := ndF_of huk
    obtain ⟨p, h1, h2, h3⟩ := hd j (by omega) (by omega)
    refine ⟨ndF es p, ndF_le h1, by rw [h.nd j (by omega), h2, if_pos (by omega)]; simp, ?_⟩
    have hp : ndF es p = es.length ∨ ndF es p ∈ keptI es := by
      by_cases hpl : p < (keptI es).length
      · exact .inr (ndF_lt hpl).1
      · exact .inl (by rw [show p = (keptI es).length by omega, ndF_last])
    dsimp only
    rw [if_pos hp, if_pos (.inr huk), hidx j (by omega), hidx p h1]
    exact h3
  · have hul : u < es.length := by omega
    refine ⟨contF es u, by have := cont_lt hb hul; omega, h.cont u hul huk, ?_⟩
    have hk := cont_kept hb hul
    obtain ⟨j, hj, he⟩ := ndF_of hk
    dsimp only
    rw [if_pos (.inr hk), if_neg (by rintro (h1 | h1); exact hne h1; exact huk h1), ← he, hidx j (by omega)]
    have := hD j (by omega); omega
theorem FinT.join (hb : ∀ x ∈ es, x < 2 ^ 32) {b : Nat} {small F : List Int} (h : FinT es small F) (hs : PTree small ((keptI es).length + 1) (keptI es).length) (hj : JoinT (keptE es ++ [b]) small ((keptI es).length + 1)) : JoinT (es ++ [b]) F (es.length + 1) := by
  intro x
  have key : ∀ u, u < es.length + 1 → topAt (es ++ [b]) F u x = true → ∃ j, j < (keptI es).length + 1 ∧ u = ndF es j ∧ topAt (keptE es ++ [b]) small j x = true := by
    intro u hu ht
    have hkm : u = es.length ∨ u ∈ keptI es := by
      by_cases h1 : u = es.length
      · exact .inl h1
      · by_cases h2 : u ∈ keptI es
        · exact .inr h2
        · exfalso
          have hul : u < es.length := by omega
          have hcl := cont_lt hb hul
          simp only [topAt, Bool.and_eq_true, Bool.not_eq_true'] at ht
          obtain ⟨t1, t2⟩ := ht
          rw [h.cont u hul h2] at t2
          have e1 : nth (es ++ [b]) u = nth es u := by simp [nth, List.getD, List.getElem?_append_left hul]
          have e2 : nth (es ++ [b]) (contF es u) = nth es (contF es u) := by simp [nth, List.getD, List.getElem?_append_left hcl]
          rw [e1] at t1
          have := (cont_top hb hul).1 x t1
          rw [show ((contF es u : Nat) : Int).toNat = contF es u by simp, e2, this] at t2
          simp at t2
    obtain ⟨j, hjl, rfl⟩ : ∃ j, j < (keptI es).length + 1 ∧ ndF es j = u := by
      rcases hkm with rfl | h1
      · exact ⟨_, by omega, ndF_last⟩
      · obtain ⟨j, h2, h3⟩ := ndF_of h1
        exact ⟨j, by omega, h3⟩
    refine ⟨j, hjl, rfl, ?_⟩
    simp only [topAt] at ht ⊢
    rw [ndF_edge hjl]
    rw [h.nd j hjl] at ht
    by_cases h0 : 0 ≤ inth small j
    · rw [if_pos h0] at ht
      obtain ⟨p, hp, hpe⟩ : ∃ p, p < (keptI es).length + 1 ∧ inth small j = (p : Int) := by
        rcases hs.up hjl with ⟨_, h1⟩ | ⟨_, p, h1, _, h2⟩
        · omega
        · exact ⟨p, h1, h2⟩
      rw [hpe] at ht ⊢
      rw [show ((p : Nat) : Int).toNat = p by simp] at ht ⊢
      rw [ndF_edge hp]
      simpa using ht
    · rw [if_neg h0] at ht
      rw [decide_eq_false h0]
      simpa using ht
  refine cnt_le_one fun u v hu hv h1 h2 => ?_
  obtain ⟨i, hi, rfl, h3⟩ := key u hu h1
  obtain ⟨j, hj', rfl, h4⟩ := key v hv h2
  rw [cnt_one hi hj' h3 h4 (hj x)]
end
end Go.Proofs.YtjofdlafblpclaaDoor
