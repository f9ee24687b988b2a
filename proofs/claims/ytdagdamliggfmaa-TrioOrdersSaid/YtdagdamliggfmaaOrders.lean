/-
  Contract of law32.orders.
-/
import Derived.Test.YtdagdamliggfmaaOrdQ
import Derived.Test.YtdagdamliggfmaaInts
import Derived.Test.YtdagdamliggfmaaTrioPerm
import Derived.Test.YtdagdamliggfmaaRegU
namespace Go.Proofs.Ytdagdamliggfmaa
open Go.RowKit

def RetOrd (w : World) (n : Nat) (es : List Nat) (p : List Int) (e : Ending) (w' : World) : Prop := ∃ b : Bool, ((∃ q, p <+: q ∧ GoodOrd n es q) → b = true) ∧ e = .returned (.bool b) ∧ Below w.heap.size w w'

/-- A prefix of an order of the vertices. -/
def PreOrd (n : Nat) (p : List Int) : Prop := p.length ≤ n ∧ (∀ x ∈ p, 0 ≤ x ∧ x < n) ∧ p.Nodup
theorem GoodOrd.len {n : Nat} {es : List Nat} {q : List Int} (h : GoodOrd n es q) : q.length = n := by have := (of_decide_eq_true h.1).1; omega
theorem checkCode_ren {n : Nat} {es : List Nat} {p : List Int} (h : checkCode n es = 0) (hp : p.length = n) : checkCode n (es.map (ren p)) = 0 := by
  obtain ⟨_, h1, h2, h3⟩ := checkCode_zero h
  rw [checkCode, if_neg (by omega), if_neg (by simp; omega), if_pos]
  rw [List.all_eq_true]
  intro e he
  obtain ⟨x, hx, rfl⟩ := List.mem_map.1 he
  have := renTo_lt p x p.length
  rw [hp] at this
  simp [ren, hp]
  exact this

set_option maxHeartbeats 2000000 in
theorem orders_full (n : Nat) (A : Option Addr) (es : List Nat) (len c : Nat) (Ap : Option Addr) (p : List Int) (cp : Nat) (w : World) (hr : Es w w.heap.size A len es) (hcc : checkCode n es = 0) (hx : Xs w w.heap.size Ap p.length p) (hp : PreOrd n p) (hl : p.length = n) :
    Calls Try.prog 26 #[.agg #[.int .i64 n, .slice A len c], .slice Ap p.length cp] w (RetOrd w n es p) := by
  have hn := (checkCode_zero hcc).2.1
  have HPM := Lib.hid (show permB p 0 n = true from decide_eq_true ⟨by omega, hp.2.1, hp.2.2⟩)
  have HCC2 := Lib.hid (checkCode_ren (p := p) hcc hl)
  have HCC := Lib.hid hcc; clear hcc
  have HR := Lib.hid hr; clear hr
  have HX := Lib.hid hx; clear hx
  have HP := Lib.hid hp; clear hp
  have ht : ((p.length : Int) == (n : Int)) = true := by rw [hl]; simp
  have HL := Lib.hid hl; clear hl
  have HW := Lib.hid (al w (.cells #[.int .i64 n, .slice A len c] 24))
  have HG := Lib.hid (GB.made w 24 (.int .i64 n) (.slice A len c))
  go_enter Try.func26, Try.ntmps26
  go_wp2_with fail
  refine (permute_ok n A es len c Ap p p.length cp _ (HR.out.new HW.out) (HX.out.new HW.out) HCC.out HPM.out).mono ?_
  rintro e w1 ⟨g, c', rfl, hE, hb⟩
  have HB1 := Lib.hid (bthen HW.out hb (by simp))
  have HG1 := Lib.hid (HG.out.new hb); clear hb
  have HE1 := Lib.hid hE; clear hE
  have g0 := HG1.out.c0
  have glt := HG1.out.lt
  go_wp2_with fail
  refine (find_any n n (some ⟨g, 0, none⟩) (es.map (ren p)) len c' _ (HE1.out.new (al _ _))).mono ?_
  rintro e w2 ⟨rfl, hb⟩
  have HB2 := Lib.hid (bthen (HB1.out.alloc HB1.out.size _) hb (by have := HB1.out.size; simp; omega)); clear hb g0
  have HFT := Lib.hid (show (∃ q, p <+: q ∧ GoodOrd n es q) → firstTrio n (es.map (ren p)) n = none by
    rintro ⟨q, hpq, hq⟩
    obtain rfl : p = q := hpq.eq_of_length (by rw [HL.out, hq.len])
    have hv : validB n (es.map (ren p)) n = true := decide_eq_true ⟨HCC2.out, by omega, by omega⟩
    simp only [firstTrio, hv, if_true, Int.toNat_natCast]
    rw [trios_eq HE1.out.2.2 (by omega), hq.2]; rfl)
  generalize hft : firstTrio n (es.map (ren p)) n = ft at *
  obtain ⟨x, y, z, hxyz⟩ := tcells_form ft
  rw [hxyz]
  clear hxyz hft
  go_wp2_with fail
  go_ret
  refine ⟨ft.isNone, fun h => by rw [HFT.out h]; rfl, rfl, ?_⟩
  exact HB2.out.alloc HB2.out.size _
theorem pre_snoc {n : Nat} {p : List Int} {v : Nat} (hp : PreOrd n p) (hv : v < n) (hl : p.length < n) (h : (v : Int) ∉ p) : PreOrd n (p ++ [(v : Int)]) := by
  refine ⟨by simp; omega, ?_, ?_⟩
  · intro x hx
    rcases List.mem_append.1 hx with h1 | h1
    · exact hp.2.1 x h1
    · simp at h1; subst h1; omega
  · rw [List.nodup_append]
    exact ⟨hp.2.2, by simp, fun a ha b hb hab => by simp at hb; subst hb; subst hab; exact h ha⟩
/-- No good order goes on from p with v. -/
def NoExt (n : Nat) (es : List Nat) (p : List Int) (v : Nat) : Prop := ¬ ∃ q, (p ++ [(v : Int)]) <+: q ∧ GoodOrd n es q
theorem noExt_mem {n : Nat} {es : List Nat} {p : List Int} {v : Nat} (h : (v : Int) ∈ p) : NoExt n es p v := by
  rintro ⟨q, ⟨t, rfl⟩, hq⟩
  have hnd := (of_decide_eq_true hq.1).2.2
  rw [List.append_assoc, List.nodup_append] at hnd
  exact hnd.2.2 _ h v (by simp) rfl
theorem noExt_all {n : Nat} {es : List Nat} {p : List Int} (hl : p.length < n) (h : ∀ v, v < n → NoExt n es p v) : ¬ ∃ q, p <+: q ∧ GoodOrd n es q := by
  rintro ⟨q, ⟨t, rfl⟩, hq⟩
  have hlen := hq.len
  obtain ⟨_, hrg, _⟩ := of_decide_eq_true hq.1
  cases t with
  | nil => simp at hlen; omega
  | cons x t =>
    have hx := hrg x (by simp)
    obtain ⟨u, hu⟩ := Int.eq_ofNat_of_zero_le hx.1
    exact h u (by omega) ⟨_, ⟨t, by rw [hu]; simp⟩, hq⟩

/-- []int{v}. -/
theorem build_int {o : Oper} {a : Act} {w : World} {x : Operand} {y : Int} (ho : o.op = .buildSlice 25 1 #[(0, x)]) (hx : a.eval x = .int .i64 y) :
    gives Try.prog o a.eval w (fun v w' => (∃ g, v = .slice (some ⟨g, 0, none⟩) 1 1 ∧ Blk w' g 3 #[.int .i64 y]) ∧ Below w.heap.size w w') := by
  have hr : (execOp a.eval o).run Try.prog w = .ok (.value (.slice (some ⟨w.heap.size, 0, none⟩) 1 1)) (w.alloc (.cells #[.int .i64 y] 3)) := by
    unfold execOp
    rw [ho]
    simp only [List.map_toArray, List.map_cons, List.map_nil, hx]
    go_simp
  unfold gives
  rw [hr]
  exact ⟨⟨_, rfl, Blk.new _ _ _⟩, al _ _⟩
theorem late_graph {ops : Array Oper} {o : Oper} {a : Act} {t : Tmp} {g i : Nat} {x y : Value} (u : Tmp) (ho : o.op = .load 24 (.tmp t)) (hg : o.guard = some (i, true)) (hi : dstOf ops i = some u) (hu : tv a u = .bool true) (ht : tv a t = .pointer (some ⟨g, 0, none⟩)) :
    Region.wanted o (yielded ops a.tmps) = true ∧ ∃ v, (∀ w', GB w' g 24 x y → (execOp a.eval o).run Try.prog w' = .ok (.value v) w') ∧ v = .agg #[x, y] := by
  refine ⟨by simp [Region.wanted, hg, yielded_tv hi hu], .agg #[x, y], fun w' h => ?_, rfl⟩
  unfold execOp
  rw [ho]
  simp only [eval_tmp, ht, Instr.loadAt, Instr.sureAddr, Sem.run_bind, Sem.run_pure, Result.andThen_ok, run_loadVar_row w' g 24 24 _ (0, 0) _ h.blk Try.underlying24 rfl (by kernel_rfl)]
theorem load_graph {o : Oper} {a : Act} {w : World} {t : Tmp} {g : Nat} {x y : Value} (ho : o.op = .load 24 (.tmp t)) (ht : tv a t = .pointer (some ⟨g, 0, none⟩)) (h : GB w g 24 x y) :
    gives Try.prog o a.eval w (fun v w' => v = .agg #[x, y] ∧ Below w.heap.size w w') :=
  gives_load_blk 24 (.tmp t) ho g 24 _ _ ht h.blk Try.underlying24 rfl (by kernel_rfl) ⟨rfl, Below.refl _ _⟩
/-- A new row that holds p. -/
def Cl (B : Nat) (p : List Int) (v : Value) (w : World) : Prop := ∃ base, B ≤ base ∧ base ≤ w.heap.size ∧ w.ownsRow base 3 1 v p.length (I64 p)
theorem Cl.new {B : Nat} {p : List Int} {v : Value} {w w' : World} (h : Cl B p v w) (hb : Below w.heap.size w w') : Cl B p v w' := by
  obtain ⟨b, h1, h2, h3⟩ := h
  exact ⟨b, h1, Nat.le_trans h2 hb.size, own_below h3 hb⟩
theorem clone_v {A : Option Addr} {xs : List Int} {c : Nat} {w0 w : World} (hr : Xs w w.heap.size A xs.length xs) (hn : xs.length ≤ 1000000) (hb : Below w0.heap.size w0 w) (v : Value) (hv : v = .slice A xs.length c) :
    Calls Try.prog 44 #[v] w (RV w (Cl w0.heap.size xs)) := by
  subst hv
  refine (clone_int A xs xs.length c w hr hn).mono ?_
  rintro e w1 ⟨A', c', rfl, hown, hb1⟩
  exact ⟨_, rfl, ⟨_, hb.size, hb1.size, hown⟩, hb1⟩
theorem call_contains : callsB Try.prog 43 = true := by kernel_rfl
theorem call_clone : callsB Try.prog 44 = true := by kernel_rfl
theorem call_orders : callsB Try.prog 26 = true := by kernel_rfl
set_option maxHeartbeats 4000000 in
theorem orders_any (n : Nat) (A : Option Addr) (es : List Nat) (len c : Nat) (hcc : checkCode n es = 0) (d : Nat) : ∀ (Ap : Option Addr) (p : List Int) (cp : Nat) (w : World), n - p.length ≤ d → Es w w.heap.size A len es → Xs w w.heap.size Ap p.length p → PreOrd n p →
    Calls Try.prog 26 #[.agg #[.int .i64 n, .slice A len c], .slice Ap p.length cp] w (RetOrd w n es p) := by
  have hn := (checkCode_zero hcc).2.1
  have HCC := Lib.hid hcc; clear hcc
  induction d with
  | zero =>
    intro Ap p cp w hd hr hx hp
    have := hp.1
    exact orders_full n A es len c Ap p cp w hr HCC.out hx hp (by omega)
  | succ d ih =>
    intro Ap p cp w hd hr hx hp
    by_cases hl : p.length = n
    · exact orders_full n A es len c Ap p cp w hr HCC.out hx hp hl
    have hlt : p.length < n := by have := hp.1; omega
    have ht : ((p.length : Int) == (n : Int)) = false := by rw [beq_eq_false_iff_ne]; omega
    have HIH := Lib.hid ih; clear ih
    have HR := Lib.hid hr; clear hr
    have HX := Lib.hid hx; clear hx
    have HP := Lib.hid hp; clear hp hl
    have HW := Lib.hid (al w (.cells #[.int .i64 n, .slice A len c] 24))
    have HG := Lib.hid (GB.made w 24 (.int .i64 n) (.slice A len c))
    go_enter Try.func26, Try.ntmps26
    go_wp2_with fail
    go_loopw [9, 36] (fun _ i wr => ∃ v : Nat, v ≤ n ∧ i = .int .i64 v ∧ Hid ((∀ u, u < v → NoExt n es p u) ∧ Below w.heap.size w wr ∧ GB wr w.heap.size 24 (.int .i64 n) (.slice A len c))) (fun _ i _ => n - (intOf i).toNat)
    case atStart => exact ⟨0, Nat.zero_le _, rfl, Lib.hid ⟨fun u hu => absurd hu (by omega), HW.out, HG.out⟩⟩
    case round =>
      obtain ⟨v, hv, rfl, HI⟩ := hrel
      clear HW HG ht
      by_cases hvn : v < n
      · by_cases hm : (v : Int) ∈ p
        · have HD := Lib.hid (show decide ((v : Int) ∈ p) = true from decide_eq_true hm)
          have HM := Lib.hid hm; clear hm
          go_wp2_with fail
          refine wp_region_each (kss := [[], [], [(0, 39), (1, 40)], [(2, 41)], [(3, 42)], [(4, 43)], [(4, 43)], [(4, 43), (6, 45)], [(4, 43)], [(4, 43), (8, 47)], [(4, 43), (7, 46), (9, 48)], [(4, 43), (5, 44), (10, 49)], [(4, 43), (11, 50)]]) [(1, .slice Ap p.length cp), (9, .int .i64 (v : Int))] [fun u _ => u = .slice Ap p.length cp, fun u _ => u = .int .i64 (v : Int), fun u _ => u = .bool true, fun u _ => u = .bool false, fun u _ => u = .bool false, fun v _ => v = undef, fun v _ => v = undef, fun v _ => v = undef, fun v _ => v = undef, fun v _ => v = undef, fun v _ => v = undef, fun v _ => v = undef, fun u _ => u = .bool false] (by kernel_rfl) (by kernel_rfl) ⟨rfl, rfl, trivial⟩ ?_ ?_ ?_
          · exact ⟨fun _ _ _ h _ => h, fun _ _ _ h _ => h, fun _ _ _ h _ => h, fun _ _ _ h _ => h, fun _ _ _ h _ => h, fun _ _ _ h _ => h, fun _ _ _ h _ => h, fun _ _ _ h _ => h, fun _ _ _ h _ => h, fun _ _ _ h _ => h, fun _ _ _ h _ => h, fun _ _ _ h _ => h, fun _ _ _ h _ => h, trivial⟩
          · refine ⟨?_, ?_, ?_, ?_, ?_, ?_, ?_, ?_, ?_, ?_, ?_, ?_, ?_, trivial⟩
            · exact fun a w hb he hd => ob_plain rfl (gives_move _ rfl ⟨he.1, Below.refl _ _⟩)
            · exact fun a w hb he hd => ob_plain rfl (gives_move _ rfl ⟨he.2.1, Below.refl _ _⟩)
            · intro a W hb he hd
              have h1 : tv a 39 = .slice Ap p.length cp := hd.1
              have h2 : tv a 40 = .int .i64 (v : Int) := hd.2.1
              refine ob_plain rfl (gives_call2 _ _ _ _ rfl call_contains ?_)
              rw [eval_tmp, eval_tmp, h1, h2]
              have := rv_one (contains_int Ap p p.length cp v W (HX.out.new (bthen HI.out.2.1 hb HI.out.2.1.size)))
              rw [HD.out] at this
              exact this
            · exact fun a w hb he hd => ob_plain rfl (gives_not true _ _ rfl hd.1 ⟨rfl, Below.refl _ _⟩)
            · exact fun a w hb he hd => ob_plain rfl (gives_move _ rfl ⟨hd.1, Below.refl _ _⟩)
            · exact fun a w hb he hd => ob_off 43 rfl (by kernel_rfl) hd.1 rfl
            · exact fun a w hb he hd => ob_off 43 rfl (by kernel_rfl) hd.1 rfl
            · exact fun a w hb he hd => ob_off 43 rfl (by kernel_rfl) hd.1 rfl
            · exact fun a w hb he hd => ob_off 43 rfl (by kernel_rfl) hd.1 rfl
            · exact fun a w hb he hd => ob_off 43 rfl (by kernel_rfl) hd.1 rfl
            · exact fun a w hb he hd => ob_off 43 rfl (by kernel_rfl) hd.1 rfl
            · exact fun a w hb he hd => ob_off 43 rfl (by kernel_rfl) hd.1 rfl
            · exact fun a w hb he hd => ob_plain rfl (gives_pick false _ _ _ rfl hd.1 ⟨rfl, Below.refl _ _⟩)
          intro vs w2 hb hR
          have e51 : vs 12 = .bool false := hR 12 (by decide)
          clear hR
          simp only [putsL, Nat.zero_add, Nat.reduceAdd, Act.put, List.setIfInBounds_toArray, List.set_cons_zero, List.set_cons_succ]
          rw [e51]
          clear e51
          have HB2 := Lib.hid (bthen HI.out.2.1 hb HI.out.2.1.size)
          have HG2 := Lib.hid (HI.out.2.2.new hb); clear hb
          go_wp2_with fail
          refine ⟨⟨v + 1, by omega, by go_num, Lib.hid ⟨fun u hu => ?_, HB2.out, HG2.out⟩⟩, by simp [intOf]; omega⟩
          by_cases huv : u = v
          · rw [huv]; exact noExt_mem HM.out
          · exact HI.out.1 u (by omega)
        · have HD := Lib.hid (show decide ((v : Int) ∈ p) = false from decide_eq_false hm)
          have HPS := Lib.hid (pre_snoc HP.out hvn hlt hm); clear hm
          go_wp2_with fail
          refine wp_region_joinH (kss := [[], [], [(0, 39), (1, 40)], [(2, 41)], [(3, 42)], [(4, 43)], [(4, 43)], [(4, 43), (6, 45)], [(4, 43)], [(4, 43), (8, 47)]]) [(1, .slice Ap p.length cp), (9, .int .i64 (v : Int)), (2, .pointer (some ⟨w.heap.size, 0, none⟩))] [fun u _ => u = .slice Ap p.length cp, fun u _ => u = .int .i64 (v : Int), fun u _ => u = .bool false, fun u _ => u = .bool true, fun u _ => u = .bool true, fun u _ => u = .agg #[.int .i64 n, .slice A len c], fun u _ => u = .slice Ap p.length cp, Cl wr.heap.size p, fun u _ => u = .int .i64 (v : Int), fun u W => ∃ g, u = .slice (some ⟨g, 0, none⟩) 1 1 ∧ Blk W g 3 #[.int .i64 (v : Int)]] 10 [5] (fun W => GB W w.heap.size 24 (.int .i64 n) (.slice A len c)) (fun W hb => HI.out.2.2.new hb) (by kernel_rfl) (by kernel_rfl) ⟨rfl, rfl, rfl, trivial⟩ [false, false, false, false, false, false, false, false, false, false] ?_ ?_ ?_ ?_
          · intro i hi
            obtain rfl := List.mem_singleton.1 hi
            exact ⟨rfl, fun o ks ho hk => by cases ho; cases hk; exact fun a W _ he hd => late_graph 43 rfl rfl (by kernel_rfl) hd.1 he.2.2.1⟩
          · exact ⟨fun _ _ _ h _ => h, fun _ _ _ h _ => h, fun _ _ _ h _ => h, fun _ _ _ h _ => h, fun _ _ _ h _ => h, fun _ _ _ h _ => h, fun _ _ _ h _ => h, fun _ _ _ h hb => Cl.new h hb, fun _ _ _ h _ => h, fun _ _ _ h hb => by obtain ⟨g, h1, h2⟩ := h; exact ⟨g, h1, h2.below hb h2.lt⟩, trivial⟩
          · refine ⟨?_, ?_, ?_, ?_, ?_, ?_, ?_, ?_, ?_, ?_, trivial⟩
            · exact fun a w hb he hd => ob_plain rfl (gives_move _ rfl ⟨he.1, Below.refl _ _⟩)
            · exact fun a w hb he hd => ob_plain rfl (gives_move _ rfl ⟨he.2.1, Below.refl _ _⟩)
            · intro a W hb he hd
              have h1 : tv a 39 = .slice Ap p.length cp := hd.1
              have h2 : tv a 40 = .int .i64 (v : Int) := hd.2.1
              refine ob_plain rfl (gives_call2 _ _ _ _ rfl call_contains ?_)
              rw [eval_tmp, eval_tmp, h1, h2]
              have := rv_one (contains_int Ap p p.length cp v W (HX.out.new (bthen HI.out.2.1 hb HI.out.2.1.size)))
              rw [HD.out] at this
              exact this
            · exact fun a w hb he hd => ob_plain rfl (gives_not false _ _ rfl hd.1 ⟨rfl, Below.refl _ _⟩)
            · exact fun a w hb he hd => ob_plain rfl (gives_move _ rfl ⟨hd.1, Below.refl _ _⟩)
            · exact fun a w hb he hd => ob_on 43 rfl (by kernel_rfl) hd.1 (load_graph rfl he.2.2.1 (HI.out.2.2.new hb))
            · exact fun a w hb he hd => ob_on 43 rfl (by kernel_rfl) hd.1 (gives_move _ rfl ⟨he.1, Below.refl _ _⟩)
            · exact fun a w hb he hd => ob_on 43 rfl (by kernel_rfl) hd.1 (gives_call1 _ _ _ rfl call_clone (clone_v (HX.out.new (bthen HI.out.2.1 hb HI.out.2.1.size)) (by omega) hb _ hd.2.1))
            · exact fun a w hb he hd => ob_on 43 rfl (by kernel_rfl) hd.1 (gives_move _ rfl ⟨he.2.1, Below.refl _ _⟩)
            · exact fun a w hb he hd => ob_on 43 rfl (by kernel_rfl) hd.1 (build_int rfl hd.2.1)
          intro vs w2 hb hR _
          have e43 : vs 4 = .bool true := hR 4 (by decide)
          have e44 : vs 5 = .agg #[.int .i64 n, .slice A len c] := hR 5 (by decide)
          obtain ⟨bs, b1, b2, hown⟩ : Cl wr.heap.size p (vs 7) w2 := hR 7 (by decide)
          obtain ⟨gq, e48, hq⟩ : ∃ g, vs 9 = .slice (some ⟨g, 0, none⟩) 1 1 ∧ Blk w2 g 3 #[.int .i64 (v : Int)] := hR 9 (by decide)
          clear hR
          simp only [putsL, Nat.zero_add, Nat.reduceAdd, List.take_succ_cons, List.take_zero, Act.put, List.setIfInBounds_toArray, List.set_cons_zero, List.set_cons_succ]
          rw [e43, e44, e48]
          clear e43 e44 e48
          generalize vs 7 = u7 at *
          show wpAnyH _ _ _ _ _ 3 _ _ _
          refine wpH_go (i := 10) (by kernel_rfl) rfl (step_app_int rfl _ _ rfl bs u7 p rfl hown gq (v : Int) rfl hq (by omega) b2 ?_)
          intro v' w5 hown' hgr hor
          refine ⟨HI.out.2.2.new (Below.appended hb hown hgr hb.size b1), ?_⟩
          have hb5 : Below wr.heap.size wr w5 := Below.appended hb hown hgr hb.size b1
          obtain ⟨A5, c5, rfl⟩ := own_form hown'
          have hx5 : Xs w5 w5.heap.size A5 (p ++ [(v : Int)]).length (p ++ [(v : Int)]) := by
            obtain ⟨A7, c7, he7, h7⟩ := Xs.of_own hown' (fun x hx => by have := HPS.out.2.1 x hx; omega)
            injection he7 with he7; subst he7; exact h7
          clear hown' hgr hor hown hq hb
          show wpAnyH _ _ _ _ _ 2 _ (Act.put _ (some 49) _) _
          simp only [Act.put, List.setIfInBounds_toArray, List.set_cons_zero, List.set_cons_succ]
          refine wpH_go (i := 11) (by kernel_rfl) rfl ?_
          refine ob_on 43 rfl (by kernel_rfl) rfl (wp_of_gives (K := fun u W => ∃ b : Bool, u = .bool b ∧ ((∃ q, (p ++ [(v : Int)]) <+: q ∧ GoodOrd n es q) → b = true) ∧ Below w5.heap.size w5 W) (gives_call2 _ _ _ _ rfl call_orders ((HIH.out A5 (p ++ [(v : Int)]) c5 w5 (by simp; omega) (HR.out.new (bthen HI.out.2.1 hb5 HI.out.2.1.size)) hx5 HPS.out).mono ?_)) ?_)
          · rintro e W ⟨b, h1, rfl, h2⟩; exact ⟨_, rfl, b, rfl, h1, h2⟩
          rintro u w6 ⟨b, rfl, hbq, hb6⟩
          refine ⟨HI.out.2.2.new (bthen hb5 hb6 hb5.size), ?_⟩
          have HB6 := Lib.hid (bthen HI.out.2.1 (bthen hb5 hb6 hb5.size) HI.out.2.1.size)
          have HG6 := Lib.hid (HI.out.2.2.new (bthen hb5 hb6 hb5.size))
          have HBQ := Lib.hid hbq
          clear hb5 hb6 hbq hx5
          show wpAnyH _ _ _ _ _ 1 _ (Act.put _ (some 50) _) _
          simp only [Act.put, List.setIfInBounds_toArray, List.set_cons_zero, List.set_cons_succ]
          refine wpH_go (i := 12) (by kernel_rfl) rfl ?_
          refine ob_plain rfl (wp_of_gives (K := fun u W => u = .bool b ∧ W = w6) (gives_pick true _ _ _ rfl rfl ⟨rfl, rfl⟩) ?_)
          rintro u W ⟨rfl, rfl⟩
          refine ⟨HG6.out, ?_⟩
          show wpAnyH _ _ _ _ _ 0 _ (Act.put _ (some 51) _) _
          refine wpAnyH_done (by kernel_rfl) (calm_normal ?_) _
          simp only [Act.put, List.setIfInBounds_toArray, List.set_cons_zero, List.set_cons_succ]
          cases b with
          | true =>
            go_wp2_with fail
            go_ret
            exact ⟨true, fun _ => rfl, rfl, HB6.out⟩
          | false =>
            go_wp2_with fail
            refine ⟨⟨v + 1, by omega, by go_num, Lib.hid ⟨fun u hu => ?_, HB6.out, HG6.out⟩⟩, by simp [intOf]; omega⟩
            by_cases huv : u = v
            · rw [huv]; exact fun hq => by have := HBQ.out hq; cases this
            · exact HI.out.1 u (by omega)
      · go_wp2_with fail
        go_ret
        exact ⟨false, fun h => absurd h (noExt_all hlt (fun u hu => HI.out.1 u (by omega))), rfl, HI.out.2.1⟩
end Go.Proofs.Ytdagdamliggfmaa
