/-
  Contract of the closure of hypergraph.shortestCycle.
-/
import Derived.Test.YtkiahnffepbgpaaScP
import Derived.Test.YtkiahnffepbgpaaCylFn
import Derived.Test.YtkiahnffepbgpaaMk
import Derived.IntWalk
namespace Go.Proofs.Ytkiahnffepbgpaa
open Go.RowKit
set_option linter.unusedSimpArgs false
set_option linter.unusedVariables false

/-- What the closure has captured. -/
structure SCap (n L : Nat) (R : List Nat) (q2 q3 q4 q5 base : Nat) (w : World) : Prop where
  ln : Blk w q2 3 #[.int .i64 (L : Int)]
  ro : Blk w q3 78 (urow R)
  nn : Blk w q4 3 #[.int .i64 (n : Int)]
  fn : Blk w q5 89 #[.func (.func 51) #[] #[.pointer (some ⟨q2, 0, none⟩), .pointer (some ⟨q3, 0, none⟩), .pointer (some ⟨q4, 0, none⟩), .pointer (some ⟨q5, 0, none⟩)]]
  lt : (q2 < base ∧ q3 < base) ∧ q4 < base ∧ q5 < base
theorem SCap.below {n L : Nat} {R : List Nat} {q2 q3 q4 q5 base : Nat} {w w' : World} (h : SCap n L R q2 q3 q4 q5 base w) (hb : Below base w w') : SCap n L R q2 q3 q4 q5 base w' :=
  ⟨h.ln.below hb h.lt.1.1, h.ro.below hb h.lt.1.2, h.nn.below hb h.lt.2.1, h.fn.below hb h.lt.2.2, h.lt⟩
/-- A row of ints is answered, of one's own from base on. -/
def RowRet (base : Nat) (l : List Nat) (w : World) (e : Ending) (w' : World) : Prop := ∃ v, e = .returned v ∧ w'.ownsRow base 3 1 v l.length (I64 (ints l)) ∧ (l = [] → v = .slice none 0 0) ∧ Below base w w'
theorem own_some {w : World} {base : Nat} {e : TypeId} {n : Nat} {v : Value} {xs : List Value} (h : w.ownsRow base e 1 v n xs) (hn : 0 < n) : ∃ g c, v = .slice (some ⟨g, 0, none⟩) n c ∧ base ≤ g := by
  rcases h.2 with ⟨_, h0⟩ | ⟨g, cap, cur, rfl, h1, _⟩
  · omega
  · exact ⟨g, cap, rfl, h1⟩
theorem own_cell_int {w : World} {base : Nat} {e : TypeId} {g c k : Nat} {p : List Nat} (h : w.ownsRow base e 1 (.slice (some ⟨g, 0, none⟩) p.length c) p.length (I64 (ints p))) (hp : ∀ x ∈ p, x < 4294967296) (hk : k < p.length) : w.cell? ⟨g, k, none⟩ = some (.int .i64 (nth p k : Int)) := by
  have h2 := h
  rw [show p.length = (ints p).length from (ints_length p).symm] at h2
  obtain ⟨A, c', e1, hx⟩ := Xs.of_own h2 (by
    intro x hx
    simp only [ints, List.mem_map] at hx
    obtain ⟨y, hy, rfl⟩ := hx
    have := hp y hy
    omega)
  injection e1 with e2 _ _
  obtain ⟨ad, e3, _, hcell⟩ := hx.at_ (k := k) (by rw [ints_length]; exact hk)
  rw [← e2] at e3
  injection e3 with e3
  subst e3
  rw [inth_ints hk] at hcell
  have e : (Addr.add ⟨g, 0, none⟩ k) = ⟨g, k, none⟩ := by unfold Addr.add; split <;> simp_all
  rw [e] at hcell
  exact hcell
theorem xor_all {x : Nat} (hx : x < 4294967296) : 4294967295 ^^^ x = 4294967295 - x := by
  apply Nat.eq_of_testBit_eq
  intro i
  rw [Nat.testBit_xor, show 4294967295 - x = 2 ^ 32 - (x + 1) from by omega, Nat.testBit_two_pow_sub_succ hx, show (4294967295 : Nat) = 2 ^ 32 - 1 from rfl, Nat.testBit_two_pow_sub_one]
  by_cases h : i < 32
  · simp [h]
  · rw [testBit_big hx (by omega)]; simp
section
variable {o : Oper} {a : Act} {w : World} {t u : Tmp}
theorem gives_call5 {P : Program} {K : Value → World → Prop} (f : FuncId) (x y z x4 x5 : Operand) (ts : Array TypeId) (ho : o.op = .call { callee := .value (.func f), args := #[x, y, z, x4, x5], argTypes := ts }) (hf : callsB P f = true)
    (h : Calls P f #[a.eval x, a.eval y, a.eval z, a.eval x4, a.eval x5] w (fun e w'' => ∃ v, e = .returned v ∧ K v w'')) : gives P o a.eval w K :=
  gives_call f #[x, y, z, x4, x5] ts ho hf (by simpa using h)
theorem load_row32 {g : Nat} {L : List Nat} {T : TypeId} (hT : T = 78) (hl : L.length = 32) (ho : o.op = .load T (.tmp t)) (ht : tv a t = .pointer (some ⟨g, 0, none⟩)) (h : Blk w g 78 (urow L)) : gives Try.prog o a.eval w (fun v w' => v = .agg (urow L) ∧ Below w.heap.size w w') := by
  subst hT
  exact gives_load_blk 78 (.tmp t) ho g 78 _ _ ht h Try.underlying78 rfl (arr_size L hl) ⟨rfl, Below.refl _ _⟩
end
theorem step_app_int {ops : Array Oper} {o : Oper} {a : Act} {w : World} {K : Act → World → Prop} {Q : Exit → Act → World → Prop} {E : Prop} (hgd : o.guard = none) (s x : Operand) (ho : o.op = .call { callee := .builtin .append, args := #[s, x], argTypes := #[44, 44] })
    (base : Nat) (v : Value) (L : List Int) (hs : a.eval s = v) (hown : w.ownsRow base 3 1 v L.length (I64 L)) (g : Nat) (y : Int) (hx : a.eval x = .slice (some ⟨g, 0, none⟩) 1 1) (hb : Blk w g 3 #[.int .i64 y])
    (hk : L.length ≤ 1000000) (hbase : base ≤ w.heap.size)
    (h : ∀ v' w', w'.ownsRow base 3 1 v' (L ++ [y]).length (I64 (L ++ [y])) → w.grownBy w' v.ownBlock → (v'.ownBlock = v.ownBlock ∨ v'.ownBlock = some w.heap.size) → K (a.put o.dst v') w') :
    if Region.wanted o (yielded ops a.tmps) = true then Oper.wp Try.prog o a w K Q else E := by
  obtain ⟨i, hi, hz, hs1, hby⟩ := info_parts info_int
  have hr : Reads w w.heap.size 1 (some ⟨g, 0, none⟩) 1 [.int .i64 y] := ⟨rfl, fun _ => ⟨_, rfl, hb.lt, fun j u hu => by
    have e : (Addr.add ⟨g, 0, none⟩ j) = ⟨g, j, none⟩ := by unfold Addr.add; split <;> simp_all
    rw [e, hb.cell]; simpa using hu⟩⟩
  refine step_append_any w hgd s x 44 ho base 3 i _ 1 8 Try.underlying44 hi hz hs1 hby rfl (by omega) v L.length (I64 L) hs hown w.heap.size _ 1 1 _ hx hr (by simp; rfl) (by simp only [maxLen]; omega) (by omega) hbase ?_
  intro v' w' h1 h2 h3
  exact h v' w' (by rw [List.length_append]; simpa [I64] using h1) h2 h3
theorem own_drew_alloc' {w : World} {base : Nat} {e : TypeId} {size n : Nat} {v : Value} {xs : List Value} (h : w.ownsRow base e size v n xs) (o : Obj) : (w.drew.alloc o).ownsRow base e size v n xs := World.ownsRow.alloc (own_drewN h 1) o
theorem keep_cell {base : Nat} {w w' : World} {p : Addr} {x : Value} (h0 : w.cell? p = some x) (hp : p.block < base) (hb : Below base w w') : w'.cell? p = some x ∧ Below base w w' := ⟨(hb.cell hp).trans h0, hb⟩
set_option maxRecDepth 100000 in
set_option maxHeartbeats 8000000 in
theorem extend_any (n L : Nat) (hn : n ≤ 32) (R : List Nat) (hl : R.length = 32) (hR : ∀ x ∈ R, x < 2 ^ n) (q2 q3 q4 q5 base : Nat) (hL : L ≤ 40) : ∀ (f : Nat) (p : List Nat) (bl : Nat) (v : Value) (w : World), SCap n L R q2 q3 q4 q5 base w → base ≤ w.heap.size → w.ownsRow base 3 1 v p.length (I64 (ints p)) → p.length + f = L → 2 ≤ p.length → (∀ x ∈ p, x < n) → bl < 4294967296 →
    Calls Try.prog 51 #[v, .int .u32 bl, .pointer (some ⟨q2, 0, none⟩), .pointer (some ⟨q3, 0, none⟩), .pointer (some ⟨q4, 0, none⟩), .pointer (some ⟨q5, 0, none⟩)] w (RowRet base (extF R n L f p bl) w) := by
  intro f
  induction f with
  | zero =>
    intro p bl v w hcap hbase hown hf h2 hp hbl
    obtain ⟨g, c, rfl, hg⟩ := own_some hown (by omega)
    have HO := Lib.hid hown; clear hown
    have c2 := hcap.ln.cell 0
    simp only [List.getElem?_toArray, List.getElem?_cons_zero] at c2
    have HC := Lib.hid hcap; clear hcap
    have t1 : (((p.length : Nat) : Int) == (L : Int)) = true := by simp; omega
    clear hf
    go_enter Try.func51, Try.ntmps51
    go_wp2_with fail
    go_ret
    exact ⟨_, rfl, HO.out, fun h => by rw [extF] at h; rw [h] at h2; simp at h2, Below.refl _ _⟩
  | succ f ih =>
    intro p bl v w hcap hbase hown hf h2 hp hbl
    have IH := Lib.hid ih; clear ih
    obtain ⟨g, c, rfl, hg⟩ := own_some hown (by omega)
    have hp32 : ∀ x ∈ p, x < 4294967296 := fun x hx => by have := hp x hx; omega
    have cf := own_cell_int hown hp32 (show 0 < p.length by omega)
    have cl := own_cell_int hown hp32 (show p.length - 1 < p.length by omega)
    have HO := Lib.hid hown; clear hown
    have c2 := hcap.ln.cell 0
    have c4 := hcap.nn.cell 0
    simp only [List.getElem?_toArray, List.getElem?_cons_zero] at c2 c4
    have HC := Lib.hid hcap; clear hcap
    have t1 : (((p.length : Nat) : Int) == (L : Int)) = false := by simp; omega
    have HF := Lib.hid hf; clear hf
    have HP := Lib.hid hp; clear hp hp32
    have hpl : p.length ≤ 40 := by have := HF.out; omega
    have hs := HP.out _ (nth_mem (show 0 < p.length by omega))
    have hla := HP.out _ (nth_mem (show p.length - 1 < p.length by omega))
    obtain ⟨st, hst⟩ : ∃ x, x = nth p 0 := ⟨_, rfl⟩
    obtain ⟨la, hlae⟩ : ∃ x, x = lastN p := ⟨_, rfl⟩
    obtain ⟨m, hm⟩ : ∃ m, m = p.length - 1 := ⟨_, rfl⟩
    have e1 : IntKind.i64.wrap ((p.length : Int) - 1) = (m : Int) := by rw [IntWalk.i64_in _ (by omega)]; omega
    have i1 : (0 : Int) ≤ (m : Int) := by omega
    have i2 : (m : Int) < (p.length : Int) := by omega
    have i0 : (0 : Int) < (p.length : Int) := by omega
    have hl0 : lastN p = nth p (p.length - 1) := rfl
    rw [← hl0, ← hlae] at cl hla
    rw [← hst] at cf hs
    rw [← hm] at cl
    have HST := Lib.hid hst; have HLA := Lib.hid hlae; have HM := Lib.hid hm; clear hst hlae hm hl0
    go_enter Try.func51, Try.ntmps51
    go_wp2_with fail
    go_quiet (fail)
    clear cf cl i0 i1 i2 e1
    go_wp2_with fail
    refine (below_any (st + 1) (by omega) _).mono ?_
    rintro e w1 ⟨rfl, rfl⟩
    have hp1 : 2 ^ (st + 1) ≤ 2 ^ 32 := two_pow_le (by omega)
    have hp0 := pow2_pos (st + 1)
    have hx0 : 2 ^ (st + 1) - 1 < 4294967296 := by omega
    have exo : bits .xor .u32 IntKind.u32.max ((2 ^ (st + 1) - 1 : Nat) : Int) = (aboveN st : Int) := by
      rw [show (IntKind.u32.max : Int) = ((4294967295 : Nat) : Int) from rfl, Go.u32_xor_nat _ _ (by omega) hx0, xor_all hx0]; rfl
    go_wp2_with fail
    clear hp1 hp0 hx0 exo
    have hab := aboveN_lt st
    generalize haE : aboveN st = ab at *
    have HAB := Lib.hid haE; clear haE
    have hRla : nth R la < 4294967296 := Nat.lt_of_lt_of_le (nth_lt2 hR la) (two_pow_le hn)
    have h2la : 2 ^ la < 4294967296 := pow2_lt32 (by omega)
    have cr : w.cell? ⟨q3, la, none⟩ = some (.int .u32 (nth R la : Int)) := by rw [HC.out.ro.cell, urow_get (by omega)]
    have i1 : (0 : Int) ≤ (la : Int) := by omega
    have i2 : (la : Int) < 32 := by omega
    have o1 := bits_or bl (nth R la) hbl hRla
    have ho1 : bl ||| nth R la < 4294967296 := Nat.or_lt_two_pow (n := 32) hbl hRla
    have o2 := bits_or (bl ||| nth R la) (2 ^ la) ho1 h2la
    have haf : (bl ||| nth R la) ||| 2 ^ la < 4294967296 := Nat.or_lt_two_pow (n := 32) ho1 h2la
    rw [← shl_mod la (by omega)] at o2
    go_quiet (fail)
    clear o1 o2 ho1 h2la cr
    have HAF := Lib.hid (show afterF R p bl = (bl ||| nth R la) ||| 2 ^ la by rw [afterF, ← HLA.out])
    generalize hafE : (bl ||| nth R la) ||| 2 ^ la = af at *
    clear hafE
    have HCA := Lib.hid (show candF R p bl = andn (nth R la &&& ab) bl by rw [candF, ← HLA.out, ← HST.out, HAB.out])
    go_wp2_with fail
    go_loopw [42] (fun iv wq => ∃ k : Nat, iv = .int .i64 k ∧ k ≤ n ∧ Hid ((∀ j, j < k → okF R n L p bl j = false) ∧ Below w.heap.size w wq)) (fun iv _ => n - (intOf iv).toNat)
    case atStart => exact ⟨0, rfl, Nat.zero_le _, Lib.hid ⟨fun j hj => by omega, below_drewN (Below.refl _ _) _⟩⟩
    case round =>
      obtain ⟨k, rfl, hk, HJ⟩ := hrel
      by_cases hkn : k < n
      · have hcap2 := HC.out.below (HJ.out.2.mono hbase)
        have cr : wr.cell? ⟨q3, la, none⟩ = some (.int .u32 (nth R la : Int)) := by rw [hcap2.ro.cell, urow_get (by omega)]
        have HC2 := Lib.hid hcap2; clear hcap2
        have i3 : (0 : Int) ≤ (k : Int) := by omega
        have i4 : (k : Int) < 32 := by omega
        have m1 := bits_and (nth R la) ab hRla hab
        have hm1 : nth R la &&& ab < 4294967296 := Nat.and_lt_two_pow (n := 32) _ hab
        have m2 := bits_andNot (nth R la &&& ab) bl hm1 hbl
        have hm2 : andn (nth R la &&& ab) bl < 4294967296 := andn_lt hm1
        have hbit := bit_zero' (andn (nth R la &&& ab) bl) k hm2
        cases hck : (andn (nth R la &&& ab) bl).testBit k with
        | false =>
          rw [hck] at hbit
          have HNO := Lib.hid (show okF R n L p bl k = false by rw [okF, HCA.out, hck]; rfl)
          clear hck
          go_wp2_with fail
          exact ⟨⟨k + 1, by go_num, by omega, Lib.hid ⟨fun j hj => by
            rcases Nat.lt_or_ge j k with h | h
            · exact HJ.out.1 j h
            · obtain rfl : j = k := by omega
              exact HNO.out, HJ.out.2⟩⟩, by simp [intOf]; omega⟩
        | true =>
          rw [hck] at hbit
          have HOK := Lib.hid (show okF R n L p bl k = decide (distF R n k (nth p 0) (allowF R p bl k) = L - p.length) by rw [okF, HCA.out, hck, Bool.true_and])
          clear hck
          go_wp2_with fail
          clear cr m1 m2 hm1 hm2 hbit
          have h2k : 2 ^ k < 4294967296 := pow2_lt32 (by omega)
          have h2s : 2 ^ st < 4294967296 := pow2_lt32 (by omega)
          have a1 := bits_andNot ab af hab haf
          have ha1 : andn ab af < 4294967296 := andn_lt hab
          have a2 := bits_or (andn ab af) (2 ^ k) ha1 h2k
          have ha2 : andn ab af ||| 2 ^ k < 4294967296 := Nat.or_lt_two_pow (n := 32) ha1 h2k
          have a3 := bits_or (andn ab af ||| 2 ^ k) (2 ^ st) ha2 h2s
          have hal : andn ab af ||| 2 ^ k ||| 2 ^ st < 4294967296 := Nat.or_lt_two_pow (n := 32) ha2 h2s
          rw [← shl_mod k (by omega)] at a2
          rw [← shl_mod st (by omega)] at a3
          have i5 : (0 : Int) ≤ (st : Int) := by omega
          have i6 : (st : Int) < 32 := by omega
          go_quiet (fail)
          clear a1 a2 a3 ha1 ha2 h2k h2s i3 i4 i5 i6
          have HAL := Lib.hid (show allowF R p bl k = andn ab af ||| 2 ^ k ||| 2 ^ st by rw [allowF, HAF.out, ← HST.out, HAB.out])
          generalize halE : andn ab af ||| 2 ^ k ||| 2 ^ st = al at *
          clear halE
          have esub : ((L : Int) - (p.length : Int)) = ((L - p.length : Nat) : Int) := by have := HF.out; omega
          have HSB := Lib.hid esub; clear esub
          have HLn := Lib.hid (fun W (hb : Below (wr.drewN nq).heap.size (wr.drewN nq) W) => ((HC2.out.below (below_drewN (Below.refl _ _) nq)).below (hb.mono (show base ≤ wr.heap.size by have := HJ.out.2.size; omega))))
          go_upto_region 11 with (fail)
          refine wp_region_each (kss := [[], [], [], [], [], [(0, 65), (1, 66), (2, 67), (3, 68), (4, 69)], [], [], [(7, 72)], [(6, 71), (8, 73)], [(5, 70), (9, 74)]]) [(4, .pointer (some ⟨q4, 0, none⟩)), (3, .pointer (some ⟨q3, 0, none⟩)), (13, .int .i64 k), (9, .int .i64 st), (14, .int .u32 al), (2, .pointer (some ⟨q2, 0, none⟩)), (0, .slice (some ⟨g, 0, none⟩) (p.length) c)] [fun zz _ => zz = .int .i64 n, fun zz _ => zz = .agg (urow R), fun zz _ => zz = .int .i64 k, fun zz _ => zz = .int .i64 st, fun zz _ => zz = .int .u32 al, fun zz _ => zz = .int .i64 ((distF R n k st al : Nat)), fun zz _ => zz = .int .i64 L, fun zz _ => zz = .slice (some ⟨g, 0, none⟩) (p.length) c, fun zz _ => zz = .int .i64 (p.length), fun zz _ => zz = .int .i64 (((L - p.length : Nat) : Int)), fun zz _ => zz = .bool (decide (distF R n k st al = L - p.length))] (by kernel_rfl) (by kernel_rfl) ⟨rfl, rfl, rfl, rfl, rfl, rfl, rfl, trivial⟩ ?_ ?_ ?_
          · exact ⟨fun _ _ _ h _ => h, fun _ _ _ h _ => h, fun _ _ _ h _ => h, fun _ _ _ h _ => h, fun _ _ _ h _ => h, fun _ _ _ h _ => h, fun _ _ _ h _ => h, fun _ _ _ h _ => h, fun _ _ _ h _ => h, fun _ _ _ h _ => h, fun _ _ _ h _ => h, trivial⟩
          · refine ⟨?_, ?_, ?_, ?_, ?_, ?_, ?_, ?_, ?_, ?_, ?_, trivial⟩
            · exact fun aa ww hb he hd => ob_plain rfl (load_n rfl he.1 ((HLn.out ww hb).nn.cell 0))
            · exact fun aa ww hb he hd => ob_plain rfl (load_row32 rfl hl rfl he.2.1 (HLn.out ww hb).ro)
            · exact fun aa ww hb he hd => ob_plain rfl (gives_move _ rfl ⟨he.2.2.1, Below.refl _ _⟩)
            · exact fun aa ww hb he hd => ob_plain rfl (gives_move _ rfl ⟨he.2.2.2.1, Below.refl _ _⟩)
            · exact fun aa ww hb he hd => ob_plain rfl (gives_move _ rfl ⟨he.2.2.2.2.1, Below.refl _ _⟩)
            · exact fun aa ww hb he hd => ob_plain rfl (gives_call5 _ _ _ _ _ _ _ rfl (by kernel_rfl) (by rw [show aa.eval (.tmp 65) = .int .i64 n from hd.1, show aa.eval (.tmp 66) = .agg (urow R) from hd.2.1, show aa.eval (.tmp 67) = .int .i64 k from hd.2.2.1, show aa.eval (.tmp 68) = .int .i64 st from hd.2.2.2.1, show aa.eval (.tmp 69) = .int .u32 al from hd.2.2.2.2.1]; exact rv_one (distance_fn n k st al hn hkn hs hal R hl hR _)))
            · exact fun aa ww hb he hd => ob_plain rfl (load_n rfl he.2.2.2.2.2.1 ((HLn.out ww hb).ln.cell 0))
            · exact fun aa ww hb he hd => ob_plain rfl (gives_move _ rfl ⟨he.2.2.2.2.2.2.1, Below.refl _ _⟩)
            · exact fun aa ww hb he hd => ob_plain rfl (len_c Try.underlying44 rfl hd.1)
            · exact fun aa ww hb he hd => ob_plain rfl (by rw [← HSB.out]; exact sub_int (by omega) rfl hd.1 hd.2.1)
            · exact fun aa ww hb he hd => ob_plain rfl (gives_eq_int ((distF R n k st al : Nat)) (((L - p.length : Nat) : Int)) .i64 _ _ _ _ rfl hd.1 hd.2.1 ⟨congrArg Value.bool (by rw [Bool.eq_iff_iff]; simp; omega), Below.refl _ _⟩)
          intro vs w5 hb hR
          have e75 : vs 10 = .bool (decide (distF R n k st al = L - p.length)) := hR 10 (by decide)
          clear hR
          simp only [putsL, Nat.zero_add, Nat.reduceAdd, List.take_succ_cons, List.take_zero, Act.put, List.setIfInBounds_toArray, List.set_cons_zero, List.set_cons_succ]
          rw [e75]
          clear e75
          have HB5 := Lib.hid (bthen HJ.out.2 (bthen (below_drewN (Below.refl _ _) nq) hb (Nat.le_refl _)) HJ.out.2.size)
          have HCN := Lib.hid (HLn.out _ hb); clear hb HLn
          by_cases hdd : distF R n k st al = L - p.length
          · have tdd : decide (distF R n k st al = L - p.length) = true := by simp [hdd]
            rw [tdd]
            have HOK1 := Lib.hid (show okF R n L p bl k = true by rw [HOK.out, HAL.out, ← HST.out, tdd]); clear hdd tdd
            have HO5 := Lib.hid (own_below HO.out HB5.out)
            have cfn : w5.cell? ⟨q5, 0, none⟩ = some (.func (.func 51) #[] #[.pointer (some ⟨q2, 0, none⟩), .pointer (some ⟨q3, 0, none⟩), .pointer (some ⟨q4, 0, none⟩), .pointer (some ⟨q5, 0, none⟩)]) := HCN.out.fn.cell 0
            go_upto_region 12 with (fail)
            have HIH := Lib.hid (fun v' W (hb : Below base w5 W) (ho : W.ownsRow base 3 1 v' (ints p ++ [(k : Int)]).length (I64 (ints p ++ [(k : Int)]))) (hs : base ≤ W.heap.size) => IH.out (p ++ [k]) af v' W (HCN.out.below hb) hs (by rw [← ints_snoc, ints_length] at ho; exact ho) (by have := HF.out; simp; omega) (by simp; omega) (fun x hx => by
              rw [List.mem_append, List.mem_singleton] at hx
              rcases hx with h | rfl
              · exact HP.out x h
              · exact hkn) haf)
            have hb5s : base ≤ w5.heap.size := by have := HB5.out.size; omega
            have HQ := Lib.hid HCN.out.lt
            go_region_held3 (fun w' => w'.cell? ⟨q5, 0, none⟩ = some (.func (.func 51) #[] #[.pointer (some ⟨q2, 0, none⟩), .pointer (some ⟨q3, 0, none⟩), .pointer (some ⟨q4, 0, none⟩), .pointer (some ⟨q5, 0, none⟩)]) ∧ Below base w5 w')
              ((refine keep_cell cfn HQ.out.2.2 ?_; first | exact Hid.out HB7 | exact Hid.out HBA | exact (Below.drew (Below.refl _ _)).alloc hb5s _ | exact Below.drew (Below.refl _ _)))
              (first
              | ((refine step_app_int rfl _ _ rfl base (Value.slice (some ⟨g, 0, none⟩) p.length c) (ints p) rfl (by rw [ints_length]; exact own_drew_alloc' HO5.out _) w5.heap.size (k : Int) rfl (Blk.new _ _ _) (by rw [ints_length]; omega) (by simp; omega) ?_; intro v' w6 hown' hgr hor; have HW := Lib.hid hown'; have HGR := Lib.hid hgr; have HBA := Lib.hid (show Below base w5 w6 from Below.appended ((Below.drew (Below.refl _ _)).alloc hb5s _) (own_drew_alloc' HO5.out _) hgr (by simp; omega) (Nat.le_refl _)); clear hown' hgr hor))
              | (go_at_call 51; refine (HIH.out _ _ HBA.out HW.out (by have := HBA.out.size; omega)).mono ?_; rintro e w7 ⟨v7, rfl, hown7, hnil7, hb7⟩; have HW7 := Lib.hid hown7; have HN7 := Lib.hid hnil7; have HB7 := Lib.hid (HBA.out.trans hb7); clear hown7 hnil7 hb7))
            have HE := Lib.hid (show extF R n L (f + 1) p bl = extF R n L f (p ++ [k]) af by rw [extF, find_at HJ.out.1 HOK1.out hkn, HAF.out])
            go_wp2_with fail
            go_ret
            exact ⟨_, rfl, by rw [HE.out]; exact HW7.out, fun h => HN7.out (by rw [← HE.out]; exact h), (HB5.out.mono hbase).trans HB7.out⟩
          · have tdd : decide (distF R n k st al = L - p.length) = false := by simp [hdd]
            rw [tdd]
            have HNO := Lib.hid (show okF R n L p bl k = false by rw [HOK.out, HAL.out, ← HST.out, tdd]); clear hdd tdd
            go_wp2_with fail
            exact ⟨⟨k + 1, by go_num, by omega, Lib.hid ⟨fun j hj => by
              rcases Nat.lt_or_ge j k with h | h
              · exact HJ.out.1 j h
              · obtain rfl : j = k := by omega
                exact HNO.out, HB5.out⟩⟩, by simp [intOf]; omega⟩
      · obtain rfl : k = n := by omega
        have HE := Lib.hid (show extF R k L (f + 1) p bl = [] by rw [extF, find_none HJ.out.1])
        go_wp2_with fail
        go_ret
        exact ⟨_, rfl, by rw [HE.out]; exact own_nil _ _ _, fun _ => rfl, HJ.out.2.mono hbase⟩
end Go.Proofs.Ytkiahnffepbgpaa
