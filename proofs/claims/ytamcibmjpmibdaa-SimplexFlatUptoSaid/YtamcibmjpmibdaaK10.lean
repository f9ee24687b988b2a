/-
Contract of newTableau. Regions printed by gen/sx.py.
Contracts of simplex.nonnegative and law28.least. Regions printed by gen/sx.py.
Contract of simplex.dot. Regions printed by gen/sx.py.
-/
import Derived.Test.YtamcibmjpmibdaaK9
namespace Go.Proofs.Ytamcibmjpmibdaa
open Go.RowKit
set_option linter.unusedVariables false
set_option linter.unusedSimpArgs false

/-- A problem in memory: the lists and what they hold. -/
structure PrW (w : World) (b n m k : Nat) (AC AA AB : Option Addr) (Ar : Nat → Option Addr) (ln cp : Nat → Nat) (A : Nat → Nat → Rat) (C B : Nat → Rat) : Prop where
  c : Rs w w.heap.size AC n (PW w b C)
  a : Reads w w.heap.size 1 AA m ((List.range m).map fun i => Value.slice (Ar i) (ln i) (cp i))
  row : ∀ i, i < m → Rs w w.heap.size (Ar i) (ln i) (PW w b (A i))
  bb : Rs w w.heap.size AB k (PW w b B)
section
variable {w w' : World} {b n m k : Nat} {AC AA AB : Option Addr} {Ar : Nat → Option Addr} {ln cp : Nat → Nat} {A : Nat → Nat → Rat} {C B : Nat → Rat}
theorem PrW.new (h : PrW w b n m k AC AA AB Ar ln cp A C B) (hb : Below w.heap.size w w') : PrW w' b n m k AC AA AB Ar ln cp A C B :=
  ⟨h.c.newW hb, (h.a.below hb).more hb.size, fun i hi => (h.row i hi).newW hb, h.bb.newW hb⟩
theorem PrW.at_ (h : PrW w b n m k AC AA AB Ar ln cp A C B) {i : Nat} (hi : i < m) : ∃ ad, AA = some ad ∧ ad.block < w.heap.size ∧ w.cell? (ad.add i) = some (.slice (Ar i) (ln i) (cp i)) := by
  obtain ⟨ad, e, hb, hc⟩ := h.a.2 (by omega)
  exact ⟨ad, e, hb, hc i _ (by rw [List.getElem?_map, List.getElem?_range hi]; rfl)⟩
end
section
variable {o : Oper} {a : Act} {w : World} {t u : Tmp}
theorem Blk.keep {w w' : World} {g : Nat} {t : TypeId} {cs : Array Value} (h : Blk w g t cs) (hb : Below w.heap.size w w') : Blk w' g t cs := h.below hb h.lt
theorem Blk.at0 {w w' : World} {g : Nat} {t : TypeId} {v : Value} {r : List Value} (h : Blk w g t (v :: r).toArray) (hb : Below w.heap.size w w') : w'.cell? ⟨g, 0, none⟩ = some v := by rw [(h.keep hb).cell]; rfl
theorem Blk.at1 {w w' : World} {g : Nat} {t : TypeId} {v0 v : Value} {r : List Value} (h : Blk w g t (v0 :: v :: r).toArray) (hb : Below w.heap.size w w') : w'.cell? ⟨g, 1, none⟩ = some v := by rw [(h.keep hb).cell]; rfl
theorem Blk.at2 {w w' : World} {g : Nat} {t : TypeId} {v0 v1 v : Value} {r : List Value} (h : Blk w g t (v0 :: v1 :: v :: r).toArray) (hb : Below w.heap.size w w') : w'.cell? ⟨g, 2, none⟩ = some v := by rw [(h.keep hb).cell]; rfl
theorem Blk.at3 {w w' : World} {g : Nat} {t : TypeId} {v0 v1 v2 v : Value} {r : List Value} (h : Blk w g t (v0 :: v1 :: v2 :: v :: r).toArray) (hb : Below w.heap.size w w') : w'.cell? ⟨g, 3, none⟩ = some v := by rw [(h.keep hb).cell]; rfl
theorem Blk.at4 {w w' : World} {g : Nat} {t : TypeId} {v0 v1 v2 v3 v : Value} {r : List Value} (h : Blk w g t (v0 :: v1 :: v2 :: v3 :: v :: r).toArray) (hb : Below w.heap.size w w') : w'.cell? ⟨g, 4, none⟩ = some v := by rw [(h.keep hb).cell]; rfl
theorem fld_prb {g k : Nat} (ho : o.op = .fieldAddr 31 (.tmp t) k) (hk : k < 3) (h : tv a t = .pointer (some ⟨g, 0, none⟩)) : gives Try.prog o a.eval w (fun v w' => v = .pointer (some ⟨g, k, none⟩) ∧ Below w.heap.size w w') := by
  refine gives_val (.pointer (some ⟨g, k, none⟩)) ?_ ⟨rfl, Below.refl _ _⟩
  have : k = 0 ∨ k = 1 ∨ k = 2 := by omega
  rcases this with rfl | rfl | rfl <;> (unfold execOp; rw [ho]; simp only [eval_tmp, h]; go_simp)
theorem load_prb {g : Nat} {v0 v1 v2 : Value} (ho : o.op = .load 31 (.tmp t)) (hx : tv a t = .pointer (some ⟨g, 0, none⟩)) (hb : Blk w g 31 #[v0, v1, v2]) : gives Try.prog o a.eval w (fun v w' => v = .agg #[v0, v1, v2] ∧ Below w.heap.size w w') :=
  gives_load_blk 31 (.tmp t) ho g 31 #[v0, v1, v2] _ hx hb Try.underlying31 rfl (by kernel_rfl) ⟨rfl, Below.refl _ _⟩
end
theorem OwnC.drew {w : World} {base : Nat} {e : TypeId} {size n : Nat} {v : Value} {xs : List Value} (h : OwnC w base e size v n xs) : OwnC w.drew base e size v n xs := ⟨h.own, h.cl⟩
theorem basL_succ (b : Nat → Nat) (i : Nat) : basL b (i + 1) = basL b i ++ [.int .i64 (b i : Int)] := by simp [basL, List.range_succ]
theorem rowsL_succ (rs : Nat → Nat) (N i g : Nat) : rowsL (fun l => if l = i then g else rs l) N (i + 1) = rowsL rs N i ++ [.slice (some ⟨g, 0, none⟩) N N] := by
  simp only [rowsL, List.range_succ, List.map_append, List.map_cons, List.map_nil, if_pos]
  congr 1
  refine List.map_congr_left fun l hl => ?_
  rw [if_neg (by have := List.mem_range.1 hl; omega)]
/-- A tableau of which i rows and k basic columns are laid. -/
structure TabP (base : Nat) (w : World) (p n m N b i k : Nat) (Ar : Option Addr) (cr : Nat) (Ab : Option Addr) (cb : Nat) (rs : Nat → Nat) (T : Nat → Nat → Rat) : Prop where
  blk : Blk w p 88 #[.int .i64 n, .int .i64 m, .slice Ar i cr, .slice none 0 0, .slice Ab k cb]
  rows : OwnC w base 28 1 (.slice Ar i cr) i (rowsL rs N i)
  row : ∀ l, l < i → RB w (rs l) N (PN w b (T l))
  bas : OwnC w base 3 1 (.slice Ab k cb) k (basL (fun l => n + l) k)
  low : base ≤ p ∧ base ≤ w.heap.size ∧ N = n + m + 2
section
variable {base : Nat} {w w' : World} {p n m N b i k cr cb : Nat} {Ar Ab : Option Addr} {rs : Nat → Nat} {T : Nat → Nat → Rat}
theorem TabP.new (h : TabP base w p n m N b i k Ar cr Ab cb rs T) (hb : Below w.heap.size w w') : TabP base w' p n m N b i k Ar cr Ab cb rs T :=
  ⟨h.blk.below hb h.blk.lt, h.rows.below hb, fun l hl => (h.row l hl).newN hb, h.bas.below hb, h.low.1, Nat.le_trans h.low.2.1 hb.size, h.low.2.2⟩
theorem TabP.c0 (h : TabP base w p n m N b i k Ar cr Ab cb rs T) : w.cell? ⟨p, 0, none⟩ = some (.int .i64 (n : Int)) := by rw [h.blk.cell]; rfl
theorem TabP.c2 (h : TabP base w p n m N b i k Ar cr Ab cb rs T) : w.cell? ⟨p, 2, none⟩ = some (.slice Ar i cr) := by rw [h.blk.cell]; rfl
theorem TabP.c4 (h : TabP base w p n m N b i k Ar cr Ab cb rs T) : w.cell? ⟨p, 4, none⟩ = some (.slice Ab k cb) := by rw [h.blk.cell]; rfl
/-- A store into a row of Rats that is not one of the tableau's. -/
theorem TabP.far (h : TabP base w p n m N b i k Ar cr Ab cb rs T) {g n' : Nat} {P : Nat → Value → Prop} (hb : RB w g n' P) (hne : ∀ l, l < i → rs l ≠ g) (kp : KeepsN w w') (hg : w.grownBy w' (some g)) : TabP base w' p n m N b i k Ar cr Ab cb rs T := by
  obtain ⟨cs, hc, -⟩ := hb
  refine ⟨h.blk.grown hg (fun e => ?_), h.rows.blk hc (by decide) hg, fun l hl => (h.row l hl).grown hg (hne l hl) (fun j v _ hv => PN.keep hv kp), h.bas.blk hc (by decide) hg, h.low.1, Nat.le_trans h.low.2.1 hg.size, h.low.2.2⟩
  injection e with e
  exact Blk.ne_ h.blk hc (by decide) e
theorem TabP.pushRow (h : TabP base w p n m N b i k Ar cr Ab cb rs T) {w1 : World} {g6 c9 : Nat} {A9 : Option Addr} (h6 : RB w g6 N (PN w b (T i))) (ho : OwnC w1 base 28 1 (.slice A9 (i + 1) c9) (i + 1) (rowsL rs N i ++ [.slice (some ⟨g6, 0, none⟩) N N])) (hg : w.grownBy w1 (Value.slice Ar i cr).ownBlock) (kp : KeepsN w w1) :
    Blk w1 p 88 #[.int .i64 n, .int .i64 m, .slice Ar i cr, .slice none 0 0, .slice Ab k cb] ∧ TabP base (w1.setCell ⟨p, 2, none⟩ (.slice A9 (i + 1) c9)) p n m N b (i + 1) k A9 c9 Ab cb (fun l => if l = i then g6 else rs l) T := by
  have hbk := Blk.appended h.blk h.rows.own hg (by decide)
  have hkp := kp.trans (KeepsN.blk hbk (i := 2) (by show 2 < 5; omega) (by intro x; simp) (.slice A9 (i + 1) c9))
  have hg2 := only_setCell (World.grownBy.refl w1 (some p)) (p := ⟨p, 2, none⟩) (.inl rfl) (.slice A9 (i + 1) c9)
  have hrb : ∀ {g' : Nat} {f' : Nat → Rat}, RB w g' N (PN w b f') → RB (w1.setCell ⟨p, 2, none⟩ (.slice A9 (i + 1) c9)) g' N (PN (w1.setCell ⟨p, 2, none⟩ (.slice A9 (i + 1) c9)) b f') := by
    intro g' f' hh
    have h1 := hh.beside (Q := PN w b f') h.rows.own (by decide) hg (fun j v _ hv => hv)
    refine h1.far ?_ (fun j v _ hv => PN.keep hv hkp)
    obtain ⟨cs, hb', _⟩ := h1
    exact Blk.ne_ hb' hbk (by decide)
  refine ⟨hbk, ⟨hbk.set_ 2 _, ?_, fun l hl => ?_, ?_, h.low.1, by rw [size_setCell]; exact Nat.le_trans h.low.2.1 hg.size, h.low.2.2⟩⟩
  · rw [rowsL_succ]
    exact ho.blk hbk (by decide) hg2
  · by_cases hli : l = i
    · subst hli
      simp only [if_pos]
      exact hrb h6
    · simp only [if_neg hli]
      exact hrb (h.row l (by omega))
  · exact (h.bas.beside h.rows.own (by decide) hg).blk hbk (by decide) hg2
theorem TabP.pushBas (h : TabP base w p n m N b i k Ar cr Ab cb rs T) {w1 : World} {c9 : Nat} {A9 : Option Addr} (ho : OwnC w1 base 3 1 (.slice A9 (k + 1) c9) (k + 1) (basL (fun l => n + l) k ++ [.int .i64 ((n + k : Nat) : Int)])) (hg : w.grownBy w1 (Value.slice Ab k cb).ownBlock) (kp : KeepsN w w1) :
    Blk w1 p 88 #[.int .i64 n, .int .i64 m, .slice Ar i cr, .slice none 0 0, .slice Ab k cb] ∧ TabP base (w1.setCell ⟨p, 4, none⟩ (.slice A9 (k + 1) c9)) p n m N b i (k + 1) Ar cr A9 c9 rs T := by
  have hbk := Blk.appended h.blk h.bas.own hg (by decide)
  have hkp := kp.trans (KeepsN.blk hbk (i := 4) (by show 4 < 5; omega) (by intro x; simp) (.slice A9 (k + 1) c9))
  have hg2 := only_setCell (World.grownBy.refl w1 (some p)) (p := ⟨p, 4, none⟩) (.inl rfl) (.slice A9 (k + 1) c9)
  refine ⟨hbk, ⟨hbk.set_ 4 _, (h.rows.beside h.bas.own (by decide) hg).blk hbk (by decide) hg2, fun l hl => ?_, ?_, h.low.1, by rw [size_setCell]; exact Nat.le_trans h.low.2.1 hg.size, h.low.2.2⟩⟩
  · have h1 := (h.row l hl).beside (Q := PN w b (T l)) h.bas.own (by decide) hg (fun j v _ hv => hv)
    refine h1.far ?_ (fun j v _ hv => PN.keep hv hkp)
    obtain ⟨cs, hb', _⟩ := h1
    exact Blk.ne_ hb' hbk (by decide)
  · rw [basL_succ]
    exact ho.blk hbk (by decide) hg2
end
/-- The row of a constraint while it is laid. -/
def rowF (A : Nat → Nat → Rat) (i j : Nat) : Nat → Rat := fun l => if l < j then A i l else 0
theorem rowF_next (A : Nat → Nat → Rat) (i j : Nat) : upd (rowF A i j) j (A i j) = rowF A i (j + 1) := by
  funext l
  by_cases hl : l = j
  · subst hl
    rw [upd_self]; exact (if_pos (by omega)).symm
  · rw [upd_ne _ _ hl]
    unfold rowF
    by_cases h : l < j
    · rw [if_pos h, if_pos (by omega)]
    · rw [if_neg h, if_neg (by omega)]
theorem rowF_tab (n m N : Nat) (hN : N = n + m + 2) (A : Nat → Nat → Rat) (B : Nat → Rat) (i : Nat) (hi : i < m) (l : Nat) (hl : l < N) : upd (upd (upd (rowF A i n) (n + i) 1) (n + m) (-1)) (n + m + 1) (B i) l = tab0 n m A B i l := by
  subst hN
  by_cases h1 : l = n + m + 1
  · subst h1
    rw [upd_self, tab0_right]
  · rw [upd_ne _ _ h1]
    by_cases h2 : l = n + m
    · subst h2
      rw [upd_self, tab0_art]
    · rw [upd_ne _ _ h2]
      by_cases h3 : l = n + i
      · subst h3
        rw [upd_self, tab0_slack hi, if_pos rfl]
      · rw [upd_ne _ _ h3]
        unfold rowF tab0
        by_cases h4 : l < n
        · rw [if_pos h4, if_pos h4]
        · rw [if_neg h4, if_neg h4, if_pos (by omega), if_neg h3]
def NtRet (n m N b : Nat) (A : Nat → Nat → Rat) (B : Nat → Rat) (w : World) (e : Ending) (w' : World) : Prop := ∃ (p cr cb : Nat) (Ar Ab : Option Addr) (rs : Nat → Nat), e = .returned (.pointer (some ⟨p, 0, none⟩)) ∧ Tab0 w.heap.size w' p n m N b none 0 0 Ar cr Ab cb rs (P1 n m A B) ∧ Below w.heap.size w w'
set_option maxRecDepth 100000 in
set_option maxHeartbeats 8000000 in
theorem newTableau_any (n m N b cC cA cB : Nat) (AC AA AB : Option Addr) (Ar : Nat → Option Addr) (ln cp : Nat → Nat) (A : Nat → Nat → Rat) (C B : Nat → Rat) (w : World) (hP : PrW w b n m m AC AA AB Ar ln cp A C B) (hl : ∀ i, i < m → ln i = n) (hN : N = n + m + 2) (hN2 : N ≤ 1000) (hb2 : 2 ≤ b) (hb0 : b ≤ 1000) :
    Calls Try.prog 33 #[.agg #[.slice AC n cC, .slice AA m cA, .slice AB m cB]] w (NtRet n m N b A B w) := by
  have HP := Lib.hid hP; clear hP
  have HL := Lib.hid hl; clear hl
  have hm1 : m ≤ 1000 := by omega
  have hnN : n < N := by omega
  have HN := Lib.hid hN; clear hN
  go_enter Try.func33, Try.ntmps33
  go_upto_region 1 with (fail)
  have TQ := Lib.hid (Blk.new w 31 #[.slice AC n cC, .slice AA m cA, .slice AB m cB])
  have HB := Lib.hid (al w (.cells #[.slice AC n cC, .slice AA m cA, .slice AB m cB] 31))
  generalize w.alloc (.cells #[.slice AC n cC, .slice AA m cA, .slice AB m cB] 31) = w1 at *
  have c0 : w1.cell? ⟨w.heap.size, 0, none⟩ = some (.slice AC n cC) := by rw [TQ.out.cell]; rfl
  have c1 : w1.cell? ⟨w.heap.size, 1, none⟩ = some (.slice AA m cA) := by rw [TQ.out.cell]; rfl
  have c2 : w1.cell? ⟨w.heap.size, 2, none⟩ = some (.slice AB m cB) := by rw [TQ.out.cell]; rfl
  obtain ⟨gq, hgq⟩ : ∃ gq, gq = w.heap.size := ⟨_, rfl⟩
  rw [← hgq] at TQ c0 c1 c2 ⊢
  have HGq := Lib.hid hgq; clear hgq
  go_upto_region 2 with (fail)
  have TQ2 := Lib.hid (TQ.out.below (al w1 (.cells #[.int .i64 n, .int .i64 m, .slice none 0 0, .slice none 0 0, .slice none 0 0] 88)) TQ.out.lt)
  have HB2 := Lib.hid (bthen HB.out (al w1 (.cells #[.int .i64 n, .int .i64 m, .slice none 0 0, .slice none 0 0, .slice none 0 0] 88)) HB.out.size)
  have HT2 := Lib.hid (show TabP w.heap.size (w1.alloc (.cells #[.int .i64 n, .int .i64 m, .slice none 0 0, .slice none 0 0, .slice none 0 0] 88)) w1.heap.size n m N b 0 0 none 0 none 0 (fun _ => 0) (tab0 n m A B) from
    ⟨Blk.new w1 88 _, OwnC.nil _ _ _ _, fun l hl => absurd hl (by omega), OwnC.nil _ _ _ _, HB.out.size, HB2.out.size, HN.out⟩)
  clear TQ HB c0 c1 c2
  generalize w1.alloc (.cells #[.int .i64 n, .int .i64 m, .slice none 0 0, .slice none 0 0, .slice none 0 0] 88) = w2 at *
  generalize w1.heap.size = p at *
  have d1 : w2.cell? ⟨gq, 1, none⟩ = some (.slice AA m cA) := by rw [TQ2.out.cell]; rfl
  go_wp2_with fail
  clear d1
  go_loopg [20] m (fun g iv wr => ∃ (i cr cb : Nat) (At Ab : Option Addr) (rs : Nat → Nat), iv = .int .i64 i ∧ i + g = m ∧ Hid (TabP w.heap.size wr p n m N b i i At cr Ab cb rs (tab0 n m A B) ∧ Blk wr gq 31 #[.slice AC n cC, .slice AA m cA, .slice AB m cB] ∧ Below w.heap.size w wr))
  case atStart => exact ⟨0, 0, 0, none, none, fun _ => 0, rfl, by omega, Lib.hid ⟨HT2.out, TQ2.out, HB2.out⟩⟩
  case round =>
    obtain ⟨i, cr, cb, At, Ab, rs, rfl, him, HI⟩ := hrel
    clear HT2 TQ2 HB2
    have HT := Lib.hid HI.out.1
    have HQ := Lib.hid HI.out.2.1
    have HB := Lib.hid HI.out.2.2
    clear HI
    obtain ⟨w3, hw3⟩ : ∃ w3, w3 = wr := ⟨_, rfl⟩
    subst hw3
    obtain ⟨G, hG⟩ : ∃ G, G = gk := ⟨_, rfl⟩
    subst hG
    by_cases hi : i < m
    · have i1 : ((i : Int) < (m : Int)) := by omega
      have hr0 := (HP.out.new HB.out).at_ hi
      rw [HL.out i hi] at hr0
      obtain ⟨ad, rfl, had, hr⟩ := hr0
      have hrow := (HP.out.new HB.out).row i hi
      rw [HL.out i hi] at hrow
      have HRW := Lib.hid ((HP.out.row i hi))
      rw [HL.out i hi] at HRW
      clear hrow had
      generalize Ar i = Ai at hr HRW
      generalize cp i = ci at hr
      go_upto_region 5 with (fail)
      clear hr
      refine wp_region_seq (kss := [[], [(0, 25)], [(1, 26)], [(2, 27)], [(3, 28)]]) [(3, .pointer (some ⟨p, 0, none⟩))] [EV (.pointer (some ⟨p, 0, none⟩)), EV (.int .i64 (((n + m + 1 : Nat) : Int))), EV (.int .i64 (((N : Nat) : Int))), fun v w' => ∃ g : Nat, v = .slice (some ⟨g, 0, none⟩) N N ∧ w3.heap.size ≤ g ∧ RB w' g N (PN w' 2 (fun _ => 0)), fun v w' => ∃ g : Nat, v = .slice (some ⟨g, 0, none⟩) N N ∧ w3.heap.size ≤ g ∧ RB w' g N (PN w' 2 (fun _ => 0))] (by kernel_rfl) ⟨rfl, trivial⟩ ?_ ?_ ?_
      · exact ⟨eI, eI, eI, fun _ _ _ ⟨g, h1, h2, h3⟩ hb => ⟨g, h1, h2, h3.newN hb⟩, fun _ _ _ ⟨g, h1, h2, h3⟩ hb => ⟨g, h1, h2, h3.newN hb⟩, trivial⟩
      · refine ⟨?_, ?_, ?_, ?_, ?_, trivial⟩
        · exact fun _ _ _ he hd => ob_mv rfl rfl he.1
        · exact fun aa ww hb he hd => ob_plain rfl (gives_call1 _ _ _ rfl (by kernel_rfl) (by rw [show aa.eval (.tmp 25) = .pointer (some ⟨p, 0, none⟩) from hd.1]; exact rv_one (right_any (TabP.new HT.out hb).blk (by omega) (by omega))))
        · exact fun aa ww hb he hd => ob_plain rfl (gives_add_nat (n + m + 1) 1 N rfl hd.1 rfl (by have := HN.out; omega) (by omega))
        · exact fun aa ww hb he hd => ob_plain rfl (gives_zeros rfl (hd.1) hN2 hb.size)
        · exact fun aa ww hb he hd => ob_plain rfl (gives_assign _ rfl ⟨hd.1, Below.refl _ _⟩)
      intro vs w4 hb hR
      have r6 := hR 4 (by decide)
      clear hR
      simp only [putsL, Nat.zero_add, Nat.reduceAdd, List.take_succ_cons, List.take_zero, Act.put, List.setIfInBounds_toArray, List.set_cons_zero, List.set_cons_succ]
      obtain ⟨g6, e6, hg6, hz6⟩ := (show ∃ g : Nat, vs 4 = .slice (some ⟨g, 0, none⟩) N N ∧ w3.heap.size ≤ g ∧ RB w4 g N (PN w4 2 (fun _ => 0)) from r6)
      rw [e6]
      clear r6 e6
      have HT4 := Lib.hid (HT.out.new hb)
      have HB4 := Lib.hid (bthen HB.out hb HB.out.size)
      have HQ4 := Lib.hid (HQ.out.keep hb)
      have HG6 := Lib.hid (show ∀ l, l < i → rs l ≠ g6 from fun l hl => by have := (HT.out.row l hl).lt; omega)
      have HG7 := Lib.hid (show w.heap.size ≤ g6 from Nat.le_trans HB.out.size hg6)
      have HR4 := Lib.hid (show RB w4 g6 N (PN w4 b (rowF A i 0)) from hz6.mono fun j v _ hv => by
        have h' : Rv 2 0 v w4 := hv
        show Rv b (rowF A i 0 j) v w4
        rw [show rowF A i 0 j = 0 from if_neg (by omega)]; exact h'.more hb2)
      clear hz6 hg6 hb
      go_wp2_with fail
      go_loopg [31] n (fun g iv wr => ∃ j : Nat, iv = .int .i64 j ∧ j + g = n ∧ Hid (TabP w.heap.size wr p n m N b i i At cr Ab cb rs (tab0 n m A B) ∧ RB wr g6 N (PN wr b (rowF A i j)) ∧ Blk wr gq 31 #[.slice AC n cC, .slice (some ad) m cA, .slice AB m cB] ∧ Below w.heap.size w wr))
      case atStart => exact ⟨0, rfl, by omega, Lib.hid ⟨HT4.out, HR4.out, HQ4.out, HB4.out⟩⟩
      case round =>
        obtain ⟨j, rfl, hjn, HI⟩ := hrel
        clear HT4 HR4 HQ4 HB4 HT HQ HB
        have HT := Lib.hid HI.out.1
        have HR := Lib.hid HI.out.2.1
        have HQ := Lib.hid HI.out.2.2.1
        have HB := Lib.hid HI.out.2.2.2
        clear HI
        obtain ⟨w6, hw6⟩ : ∃ w6, w6 = wr := ⟨_, rfl⟩
        subst hw6
        by_cases hj : j < n
        · have j1 : ((j : Int) < (n : Int)) := by omega
          obtain ⟨adr, -, -, -, -, -, -, -, rfl, -⟩ := HRW.out.at_ hj
          go_upto_region 8 with (fail)
          refine wp_region_joins (kss := [[], [], [(1, 34)], [], [(0, 33)]]) [(31, .int .i64 ((j : Int))), (29, .slice (some adr) n ci)] [EV (.int .i64 ((j : Int))), EV (.pointer (some (Addr.add adr (j * 3)))), Rw (b) ((A i) j), Zb w6.heap.size, EV (.int .i64 ((j : Int)))] 5 (by kernel_rfl) ⟨rfl, rfl, trivial⟩ [false, false, false, true, false] ?_ ?_ ?_
          · exact ⟨eI, eI, fun _ _ _ h hb => h.new hb, fun _ _ _ h hb => Zb.new h hb, eI, trivial⟩
          · refine ⟨?_, ?_, ?_, ?_, ?_, trivial⟩
            · exact fun _ _ _ he hd => ob_mv rfl rfl he.1
            · exact fun aa ww hb he hd => ob_plain rfl (idx_rs (by omega) rfl he.2.1 he.1)
            · exact fun aa ww hb he hd => ob_plain rfl (load_rw rfl hd.1 (Rs.newW HRW.out (bthen HB.out hb HB.out.size)) (by omega))
            · exact fun aa ww hb he hd => ⟨by simp [Region.wanted], alloc_rat rfl hb⟩
            · exact fun aa ww hb he hd => ob_plain rfl (gives_assign _ rfl ⟨hd.1, Below.refl _ _⟩)
          intro vs w7 hb hR
          have r35 : Rw (b) ((A i) j) (vs 2) w7 := hR 2 (by decide)
          have r8 : Zb w6.heap.size (vs 3) w7 := hR 3 (by decide)
          have e7 : vs 4 = .int .i64 ((j : Int)) := hR 4 (by decide)
          clear hR
          simp only [putsL, Nat.zero_add, Nat.reduceAdd, List.take_succ_cons, List.take_zero, Act.put, List.setIfInBounds_toArray, List.set_cons_zero, List.set_cons_succ]
          rw [e7]
          clear e7
          obtain ⟨g8, k8, z8⟩ := r8
          rw [k8]
          clear k8
          show wpOps _ _ _ [5] _ _
          refine wpOps_next rfl rfl (store_row (v := vs 2) (g := g8) (j := 0) (n := 1) (b := b) (x := A i j) rfl rfl rfl rfl z8.rb (by omega) r35 ?_)
          intro wa kp hg hsz hR8
          have HX := Lib.hid (RB.bx (hR8 (fun _ v => Rw b (A i j) v wa) (fun l u hl hne _ => absurd hl (by omega)) (r35.keepN kp)))
          have h68 : g6 ≠ g8 := by have := HR.out.lt; have := z8.1; omega
          have HTa := Lib.hid ((HT.out.new hb).far z8.rb (fun l hl => by have := (HT.out.row l hl).lt; have := z8.1; omega) kp hg)
          have HRa := Lib.hid ((HR.out.newN hb).grown hg h68 (fun j v _ hv => PN.keep hv kp))
          have HQa := Lib.hid ((HQ.out.keep hb).grown hg (fun e => by injection e with e; have := HQ.out.lt; have := z8.1; omega))
          have HBa := Lib.hid (show Below w.heap.size w wa from (bthen HB.out hb HB.out.size).grown hg (bthen HB.out hb HB.out.size).size (fun x hx => by cases hx; have := HB.out.size; have := z8.1; omega))
          clear hb kp hg hsz hR8 r35 z8 HT HR HQ HB
          have HT := HTa; have HR := HRa; have HB := HBa
          clear HTa HRa HBa
          show Exit.then _ _ _ _ _
          go_upto_region 9 with (fail)
          refine wp_region_joins (kss := [[], [], [], [(2, 38)], [(0, 36), (1, 37)]]) [(6, .slice (some (⟨g6, 0, none⟩)) N N), (7, .int .i64 ((j : Int))), (8, .pointer (some ⟨g8, 0, none⟩))] [EV (.slice (some (⟨g6, 0, none⟩)) N N), EV (.int .i64 ((j : Int))), Rw (b) (A i j), Rv (b) ((A i j)), EV (.pointer (some (Addr.add (⟨g6, 0, none⟩) (j * 3))))] 5 (by kernel_rfl) ⟨rfl, rfl, rfl, trivial⟩ [false, false, false, false, false] ?_ ?_ ?_
          · exact ⟨eI, eI, fun _ _ _ h hb => h.new hb, fun _ _ _ h hb => h.new hb, eI, trivial⟩
          · refine ⟨?_, ?_, ?_, ?_, ?_, trivial⟩
            · exact fun _ _ _ he hd => ob_mv rfl rfl he.1
            · exact fun _ _ _ he hd => ob_mv rfl rfl he.2.1
            · exact fun aa ww hb he hd => ob_plain rfl (load_bx rfl he.2.2.1 (Bx.new HX.out hb))
            · exact fun aa ww hb he hd => ob_plain rfl (gives_call1 _ _ _ rfl (by kernel_rfl) (norm_v (hd.1) (by omega)))
            · exact fun aa ww hb he hd => ob_plain rfl (idx_rs (by omega) rfl hd.1 hd.2.1)
          intro vs w8 hb hR
          have e40 : vs 4 = .pointer (some (Addr.add (⟨g6, 0, none⟩) (j * 3))) := hR 4 (by decide)
          have r39 : Rv (b) ((A i j)) (vs 3) w8 := hR 3 (by decide)
          clear hR
          simp only [putsL, Nat.zero_add, Nat.reduceAdd, List.take_succ_cons, List.take_zero, Act.put, List.setIfInBounds_toArray, List.set_cons_zero, List.set_cons_succ]
          rw [e40]
          clear e40
          show wpOps _ _ _ [5] _ _
          refine wpOps_next rfl rfl (store_upd (g := g6) (j := j) (b := b) (x := A i j) rfl rfl rfl rfl (RB.newN HR.out hb) (by omega) r39 ?_)
          intro wb kp hg hsz hRb
          rw [rowF_next] at hRb
          have HTb := Lib.hid ((HT.out.new hb).far (HR.out.newN hb) HG6.out kp hg)
          have HRb := Lib.hid hRb
          have HQb := Lib.hid ((HQa.out.keep hb).grown hg (fun e => by injection e with e; obtain ⟨cs, hc, -⟩ := HR.out; exact Blk.ne_ HQa.out hc (by decide) e))
          have HBb := Lib.hid (show Below w.heap.size w wb from (bthen HB.out hb HB.out.size).grown hg (bthen HB.out hb HB.out.size).size (fun x hx => by cases hx; exact HG7.out))
          clear hb kp hg hsz hRb r39
          unfold wpOps
          go_wp2_with fail
          go_roundg (gk - 1)
          case measure => omega
          case rel => exact ⟨j + 1, by go_num, by omega, Lib.hid ⟨HTb.out, HRb.out, HQb.out, HBb.out⟩⟩
        · obtain rfl : n = j := by omega
          go_upto_region 11 with (fail)
          have hsl : n + i < N := by have := HN.out; omega
          have har : n + m < N := by have := HN.out; omega
          have hrt : n + m + 1 < N := by have := HN.out; omega
          refine wp_region_join (kss := [[], [], [(1, 43)], [(2, 44)], [(3, 45)], [], [(4, 46), (5, 47)], [], [(0, 42), (6, 48)]]) [(6, .slice (some (⟨g6, 0, none⟩)) N N), (3, .pointer (some ⟨p, 0, none⟩)), (4, .int .i64 ((i : Int)))] [EV (.slice (some (⟨g6, 0, none⟩)) N N), EV (.pointer (some ⟨p, 0, none⟩)), EV (.pointer (some ⟨p, 0, none⟩)), EV (.pointer (some ⟨p, 0, none⟩)), EV (.int .i64 ((n : Int))), EV (.int .i64 ((i : Int))), EV (.int .i64 (((n + i : Nat) : Int))), Rv (2) (((1 : Int) : Rat)), EV (.pointer (some (Addr.add (⟨g6, 0, none⟩) ((n + i) * 3))))] 9 [] (by kernel_rfl) (by kernel_rfl) ⟨rfl, rfl, rfl, trivial⟩ [false, false, false, false, false, false, false, false, false] ?_ ?_ ?_ ?_
          · exact fun i hi => absurd hi (by simp)
          · exact ⟨eI, eI, eI, eI, eI, eI, eI, fun _ _ _ h hb => h.new hb, eI, trivial⟩
          · refine ⟨?_, ?_, ?_, ?_, ?_, ?_, ?_, ?_, ?_, trivial⟩
            · exact fun _ _ _ he hd => ob_mv rfl rfl he.1
            · exact fun _ _ _ he hd => ob_mv rfl rfl he.2.1
            · exact fun aa ww hb he hd => ob_plain rfl (nil_c rfl hd.1)
            · exact fun aa ww hb he hd => ob_plain rfl (fld_tab rfl (by decide) hd.1)
            · exact fun aa ww hb he hd => ob_plain rfl (load_c3 rfl hd.1 (TabP.new HT.out hb).c0)
            · exact fun _ _ _ he hd => ob_mv rfl rfl he.2.2.1
            · exact fun aa ww hb he hd => ob_plain rfl (gives_add_nat n i (n + i) rfl hd.1 hd.2.1 (by first | rfl | omega) (by omega))
            · exact fun aa ww hb he hd => ob_plain rfl (gives_call1 _ _ _ rfl (by kernel_rfl) (int_w (1) (by omega) (by omega) _ rfl _))
            · exact fun aa ww hb he hd => ob_plain rfl (idx_rs (by omega) rfl hd.1 hd.2.1)
          intro vs w7 hb hR _
          have e50 : vs 8 = .pointer (some (Addr.add (⟨g6, 0, none⟩) ((n + i) * 3))) := hR 8 (by decide)
          have r49 : Rv (2) (((1 : Int) : Rat)) (vs 7) w7 := hR 7 (by decide)
          clear hR
          simp only [putsL, Nat.zero_add, Nat.reduceAdd, List.take_succ_cons, List.take_zero, Act.put, List.setIfInBounds_toArray, List.set_cons_zero, List.set_cons_succ]
          rw [e50]
          clear e50
          have r49' : Rv b 1 (vs 7) w7 := by
            have h := r49
            rw [show ((1 : Int) : Rat) = 1 from by simp] at h
            exact Rv.more h hb2
          show wpAny _ _ _ _ 1 _ _ _
          refine wpAny_next (i := 9) (by kernel_rfl) rfl rfl (store_upd (v := vs 7) (g := g6) (j := n + i) (b := b) (x := 1) rfl rfl rfl rfl (HR.out.newN hb) hsl r49' ?_)
          intro w8 kp hg hsz hR8
          clear r49 r49'
          have HTn := Lib.hid ((HT.out.new hb).far (HR.out.newN hb) HG6.out kp hg)
          have HQn := Lib.hid ((HQ.out.keep hb).grown hg (fun e => by injection e with e; obtain ⟨cs, hc, -⟩ := HR.out; exact Blk.ne_ HQ.out hc (by decide) e))
          have HBn := Lib.hid (show Below w.heap.size w w8 from (bthen HB.out hb HB.out.size).grown hg (bthen HB.out hb HB.out.size).size (fun x hx => by cases hx; exact HG7.out))
          have HRn := Lib.hid hR8
          clear hb kp hg hsz hR8 HT HQ HB HR
          have HT := HTn; have HQ := HQn; have HB := HBn; have HR := HRn
          clear HTn HQn HBn HRn
          refine wpAny_end (by kernel_rfl) (calm_normal ?_) _
          go_upto_region 12 with (fail)
          refine wp_region_joins (kss := [[], [], [(1, 52)], [], [(0, 51), (2, 53)]]) [(6, .slice (some (⟨g6, 0, none⟩)) N N), (3, .pointer (some ⟨p, 0, none⟩))] [EV (.slice (some (⟨g6, 0, none⟩)) N N), EV (.pointer (some ⟨p, 0, none⟩)), EV (.int .i64 (((n + m : Nat) : Int))), Rv (2) (((-1 : Int) : Rat)), EV (.pointer (some (Addr.add (⟨g6, 0, none⟩) ((n + m) * 3))))] 5 (by kernel_rfl) ⟨rfl, rfl, trivial⟩ [false, false, false, false, false] ?_ ?_ ?_
          · exact ⟨eI, eI, eI, fun _ _ _ h hb => h.new hb, eI, trivial⟩
          · refine ⟨?_, ?_, ?_, ?_, ?_, trivial⟩
            · exact fun _ _ _ he hd => ob_mv rfl rfl he.1
            · exact fun _ _ _ he hd => ob_mv rfl rfl he.2.1
            · exact fun aa ww hb he hd => ob_plain rfl (gives_call1 _ _ _ rfl (by kernel_rfl) (by rw [show aa.eval (.tmp 52) = .pointer (some ⟨p, 0, none⟩) from hd.1]; exact rv_one (artificial_any (TabP.new HT.out hb).blk (by omega) (by omega))))
            · exact fun aa ww hb he hd => ob_plain rfl (gives_call1 _ _ _ rfl (by kernel_rfl) (int_w (-1) (by omega) (by omega) _ rfl _))
            · exact fun aa ww hb he hd => ob_plain rfl (idx_rs (by omega) rfl hd.1 hd.2.1)
          intro vs w9 hb hR
          have e55 : vs 4 = .pointer (some (Addr.add (⟨g6, 0, none⟩) ((n + m) * 3))) := hR 4 (by decide)
          have r54 : Rv (2) (((-1 : Int) : Rat)) (vs 3) w9 := hR 3 (by decide)
          clear hR
          simp only [putsL, Nat.zero_add, Nat.reduceAdd, List.take_succ_cons, List.take_zero, Act.put, List.setIfInBounds_toArray, List.set_cons_zero, List.set_cons_succ]
          rw [e55]
          clear e55
          have r54' : Rv b (-1) (vs 3) w9 := by
            have h := r54
            rw [show ((-1 : Int) : Rat) = -1 from by simp] at h
            exact Rv.more h hb2
          show wpOps _ _ _ [5] _ _
          refine wpOps_next rfl rfl (store_upd (v := vs 3) (g := g6) (j := n + m) (b := b) (x := -1) rfl rfl rfl rfl (HR.out.newN hb) har r54' ?_)
          intro wa kp hg hsz hR8
          clear r54 r54'
          have HTn := Lib.hid ((HT.out.new hb).far (HR.out.newN hb) HG6.out kp hg)
          have HQn := Lib.hid ((HQ.out.keep hb).grown hg (fun e => by injection e with e; obtain ⟨cs, hc, -⟩ := HR.out; exact Blk.ne_ HQ.out hc (by decide) e))
          have HBn := Lib.hid (show Below w.heap.size w wa from (bthen HB.out hb HB.out.size).grown hg (bthen HB.out hb HB.out.size).size (fun x hx => by cases hx; exact HG7.out))
          have HRn := Lib.hid hR8
          clear hb kp hg hsz hR8 HT HQ HB HR
          have HT := HTn; have HQ := HQn; have HB := HBn; have HR := HRn
          clear HTn HQn HBn HRn
          unfold wpOps
          have HBB := Lib.hid HP.out.bb
          obtain ⟨adb, -, -, -, -, -, -, -, rfl, -⟩ := HBB.out.at_ hi
          go_upto_region 13 with (fail)
          refine wp_region_join (kss := [[], [], [(1, 57)], [], [(3, 59)], [], [(4, 60), (5, 61)], [(6, 62)], [(7, 63)], [(0, 56), (2, 58)]]) [(6, .slice (some (⟨g6, 0, none⟩)) N N), (3, .pointer (some ⟨p, 0, none⟩)), (1, .pointer (some ⟨gq, 0, none⟩)), (4, .int .i64 ((i : Int)))] [EV (.slice (some (⟨g6, 0, none⟩)) N N), EV (.pointer (some ⟨p, 0, none⟩)), EV (.int .i64 (((n + m + 1 : Nat) : Int))), EV (.pointer (some ⟨gq, 2, none⟩)), EV (.slice (some adb) m cB), EV (.int .i64 ((i : Int))), EV (.pointer (some (Addr.add adb (i * 3)))), Rw (b) (B i), Rv (b) ((B i)), EV (.pointer (some (Addr.add (⟨g6, 0, none⟩) ((n + m + 1) * 3))))] 10 [] (by kernel_rfl) (by kernel_rfl) ⟨rfl, rfl, rfl, rfl, trivial⟩ [false, false, false, false, false, false, false, false, false, false] ?_ ?_ ?_ ?_
          · exact fun i hi => absurd hi (by simp)
          · exact ⟨eI, eI, eI, eI, eI, eI, eI, fun _ _ _ h hb => h.new hb, fun _ _ _ h hb => h.new hb, eI, trivial⟩
          · refine ⟨?_, ?_, ?_, ?_, ?_, ?_, ?_, ?_, ?_, ?_, trivial⟩
            · exact fun _ _ _ he hd => ob_mv rfl rfl he.1
            · exact fun _ _ _ he hd => ob_mv rfl rfl he.2.1
            · exact fun aa ww hb he hd => ob_plain rfl (gives_call1 _ _ _ rfl (by kernel_rfl) (by rw [show aa.eval (.tmp 57) = .pointer (some ⟨p, 0, none⟩) from hd.1]; exact rv_one (right_any (TabP.new HT.out hb).blk (by omega) (by omega))))
            · exact fun aa ww hb he hd => ob_plain rfl (fld_prb rfl (by decide) he.2.2.1)
            · exact fun aa ww hb he hd => ob_plain rfl (load_c28 rfl hd.1 (Blk.at2 HQ.out hb))
            · exact fun _ _ _ he hd => ob_mv rfl rfl he.2.2.2.1
            · exact fun aa ww hb he hd => ob_plain rfl (idx_rs (by omega) rfl hd.1 hd.2.1)
            · exact fun aa ww hb he hd => ob_plain rfl (load_rw rfl hd.1 (Rs.newW HBB.out (bthen HB.out hb HB.out.size)) (by omega))
            · exact fun aa ww hb he hd => ob_plain rfl (gives_call1 _ _ _ rfl (by kernel_rfl) (norm_v (hd.1) (by omega)))
            · exact fun aa ww hb he hd => ob_plain rfl (idx_rs (by omega) rfl hd.1 hd.2.1)
          intro vs wb hb hR _
          have e65 : vs 9 = .pointer (some (Addr.add (⟨g6, 0, none⟩) ((n + m + 1) * 3))) := hR 9 (by decide)
          have r64 : Rv (b) ((B i)) (vs 8) wb := hR 8 (by decide)
          clear hR
          simp only [putsL, Nat.zero_add, Nat.reduceAdd, List.take_succ_cons, List.take_zero, Act.put, List.setIfInBounds_toArray, List.set_cons_zero, List.set_cons_succ]
          rw [e65]
          clear e65
          show wpAny _ _ _ _ 1 _ _ _
          refine wpAny_next (i := 10) (by kernel_rfl) rfl rfl (store_upd (v := vs 8) (g := g6) (j := n + m + 1) (b := b) (x := B i) rfl rfl rfl rfl (HR.out.newN hb) hrt r64 ?_)
          intro wc kp hg hsz hR8
          clear r64
          have HTn := Lib.hid ((HT.out.new hb).far (HR.out.newN hb) HG6.out kp hg)
          have HQn := Lib.hid ((HQ.out.keep hb).grown hg (fun e => by injection e with e; obtain ⟨cs, hc, -⟩ := HR.out; exact Blk.ne_ HQ.out hc (by decide) e))
          have HBn := Lib.hid (show Below w.heap.size w wc from (bthen HB.out hb HB.out.size).grown hg (bthen HB.out hb HB.out.size).size (fun x hx => by cases hx; exact HG7.out))
          have HRn := Lib.hid hR8
          clear hb kp hg hsz hR8 HT HQ HB HR
          have HT := HTn; have HQ := HQn; have HB := HBn; have HR := HRn
          clear HTn HQn HBn HRn
          refine wpAny_end (by kernel_rfl) (calm_normal ?_) _
          have HRT := Lib.hid (HR.out.mono (Q := PN wc b (tab0 n m A B i)) (fun l v hl hv => by
            have h' : Rv b (upd (upd (upd (rowF A i n) (n + i) 1) (n + m) (-1)) (n + m + 1) (B i) l) v wc := hv
            rw [rowF_tab n m N HN.out A B i hi l hl] at h'
            exact h'))
          clear HR
          have c2 := HT.out.c2; have f2 := HT.out.blk.frozen 2; have pl := HT.out.blk.lt
          clear hsl har hrt
          go_upto_region 15 with (at_builtin; refine app_rows rfl _ _ rfl w.heap.size (.slice At i cr) i (rowsL rs N i) rfl (HT.out.rows.alloc _) wc.heap.size (some ⟨g6, 0, none⟩) N N rfl (Blk.new _ _ _) (by omega) (by have := HT.out.low.2.1; simp; omega) ?_; intro v' w14 ho hgr hor kp; obtain ⟨A9, c9, rfl⟩ := own_form ho.own; obtain ⟨hbk, hTn⟩ := (HT.out.new (al wc _)).pushRow (HRT.out.newN (al wc _)) ho hgr kp; clear c2 f2 pl; have c2 := Blk.at2 hbk (Below.refl _ _); have f2 := hbk.frozen 2; have pl := hbk.lt; have HTn := Lib.hid hTn; clear hTn hbk)
          have HBn := Lib.hid (show Below w.heap.size w (w14.setCell ⟨p, 2, none⟩ (.slice A9 (i + 1) c9)) from by
            have h1 := bthen HB.out (al wc (.cells #[.slice (some ⟨g6, 0, none⟩) N N] 28)) HB.out.size
            exact (Below.appended h1 (HT.out.rows.own.alloc _) hgr (by have := HT.out.low.2.1; simp; omega) (Nat.le_refl _)).setCell (p := ⟨p, 2, none⟩) HT.out.low.1 _)
          have HQn := Lib.hid (((HQ.out.keep (al wc _)).appended (HT.out.rows.own.alloc _) hgr (by decide)).far (p := ⟨p, 2, none⟩) (fun e => Blk.ne_ HQ.out HT.out.blk (by decide) e) (.slice A9 (i + 1) c9))
          clear HT HQ HB ho hgr hor kp c2 f2 pl HRT
          generalize w14.setCell ⟨p, 2, none⟩ (.slice A9 (i + 1) c9) = wd at *
          generalize hrs : (fun l => if l = i then g6 else rs l) = rs9 at *
          clear hrs
          have c0 := HTn.out.c0; have c4 := HTn.out.c4; have f4 := HTn.out.blk.frozen 4; have pl := HTn.out.blk.lt
          have HS := Lib.hid (show IntKind.i64.wrap ((n : Int) + (i : Int)) = ((n + i : Nat) : Int) from by rw [IntWalk.i64_in _ (by omega)]; push_cast; rfl)
          go_region_law (first
            | ((refine step_app_ints rfl _ _ rfl w.heap.size (.slice Ab i cb) i (basL (fun l => n + l) i) rfl (OwnC.drew (HTn.out.bas.alloc _)) wd.heap.size ((n + i : Nat) : Int) rfl (by rw [← HS.out]; exact Blk.drew (Blk.new _ _ _)) (by omega) (Nat.le_trans HTn.out.low.2.1 (al wd _).size) ?_; intro v' w15 ho hgr hor kp; obtain ⟨A8, c8, rfl⟩ := own_form ho.own; obtain ⟨hbk, hTm⟩ := (HTn.out.new (Below.drew (al wd _))).pushBas ho hgr kp; clear c4 f4 pl; have c4 := Blk.at4 hbk (Below.refl _ _); have f4 := hbk.frozen 4; have pl := hbk.lt; have HTm := Lib.hid hTm; clear hTm hbk)))
          all_goals
            have HBo := Lib.hid (show Below w.heap.size w (w15.setCell ⟨p, 4, none⟩ (.slice A8 (i + 1) c8)) from
              (Below.appended (bthen HBn.out (Below.drew (al wd (.cells #[.int .i64 (IntKind.i64.wrap ((n : Int) + (i : Int)))] 3))) HBn.out.size) (OwnC.drew (HTn.out.bas.alloc _)).own hgr (Nat.le_trans HTn.out.low.2.1 (al wd _).size) (Nat.le_refl _)).setCell (p := ⟨p, 4, none⟩) HTn.out.low.1 _)
            have HQo := Lib.hid (((HQn.out.keep (Below.drew (al wd _))).appended (OwnC.drew (HTn.out.bas.alloc _)).own hgr (by decide)).far (p := ⟨p, 4, none⟩) (fun e => Blk.ne_ HQn.out HTn.out.blk (by decide) e) (.slice A8 (i + 1) c8))
            clear ho hgr hor kp HTn HBn HQn
            go_wp2_with fail
            clear c0 c4 f4 pl
            go_roundg (G - 1)
            case measure => omega
            case rel => exact ⟨i + 1, c9, c8, A9, A8, rs9, by go_num, by omega, Lib.hid ⟨HTm.out, HQo.out, HBo.out⟩⟩
    · obtain rfl : m = i := by omega
      go_wp2_with fail
      go_ret
      exact ⟨p, cr, cb, At, Ab, rs, rfl, ⟨HT.out.blk, HT.out.rows.own, fun hi => HT.out.row _ hi, HT.out.bas.own, HT.out.low⟩, HB.out⟩
end Go.Proofs.Ytamcibmjpmibdaa
namespace Go.Proofs.Ytamcibmjpmibdaa
open Go.RowKit
set_option linter.unusedVariables false
set_option linter.unusedSimpArgs false

theorem sign_lt {x : Rat} : decide (x.num.sign < 0) = decide (x < 0) := by
  rcases sign_cases x with ⟨h1, h2⟩ | ⟨h1, h2⟩ | ⟨h1, h2⟩ <;> rw [h2]
  · rw [decide_eq_true (show x < 0 by grind)]; rfl
  · rw [decide_eq_false (show ¬ x < 0 by grind)]; rfl
  · rw [decide_eq_false (show ¬ x < 0 by grind)]; rfl
/-- Whether no element is negative. -/
def NnRet (n : Nat) (f : Nat → Rat) (w : World) (e : Ending) (w' : World) : Prop := ∃ t : Bool, e = .returned (.bool t) ∧ Below w.heap.size w w' ∧ (t = true ↔ ∀ i, i < n → 0 ≤ f i)
set_option maxRecDepth 100000 in
set_option maxHeartbeats 8000000 in
theorem least_any (n c b : Nat) (A : Option Addr) (f : Nat → Rat) (w : World) (hA : Rs w w.heap.size A n (PW w b f)) (hn1 : n ≤ 1000000) :
    Calls Try.prog 76 #[.slice A n c] w (NnRet n f w) := by
  have HA := Lib.hid hA; clear hA
  go_enter Try.func76, Try.ntmps76
  go_wp2_with fail
  go_loopg [3] n (fun q iv wr => ∃ k : Nat, iv = .int .i64 k ∧ k + q = n ∧ Hid ((∀ i, i < k → 0 ≤ f i) ∧ Below w.heap.size w wr))
  case atStart => exact ⟨0, rfl, by omega, Lib.hid ⟨fun i hi => absurd hi (by omega), Below.refl _ _⟩⟩
  case round =>
    obtain ⟨k, rfl, hkn, HI⟩ := hrel
    have HP := Lib.hid HI.out.1
    have HB := Lib.hid HI.out.2
    clear HI
    by_cases hk : k < n
    · obtain ⟨ad, -, -, -, -, -, -, -, rfl, -⟩ := HA.out.at_ hk
      have i1 : ((k : Int) < (n : Int)) := by omega
      by_cases hp : 0 ≤ f k
      · have hs : decide ((f k).num.sign < 0) = false := sign_lt.trans (decide_eq_false (by grind))
        go_upto_region 4 with (fail)
        refine wp_region_seq (kss := [[], [], [(0, 10), (1, 11)], [(2, 12)], [(3, 13)], [(4, 14)]]) [(0, .slice (some ad) n c), (3, .int .i64 ((k : Int)))] [EV (.slice (some ad) n c), EV (.int .i64 ((k : Int))), EV (.pointer (some (Addr.add ad (k * 3)))), Rw (b) (f k), EV (.int .i64 ((f k).num.sign)), EV (.bool false)] (by kernel_rfl) ⟨rfl, rfl, trivial⟩ ?_ ?_ ?_
        · exact ⟨eI, eI, eI, fun _ _ _ h hb => h.new hb, eI, eI, trivial⟩
        · refine ⟨?_, ?_, ?_, ?_, ?_, ?_, trivial⟩
          · exact fun _ _ _ he hd => ob_mv rfl rfl he.1
          · exact fun _ _ _ he hd => ob_mv rfl rfl he.2.1
          · exact fun aa ww hb he hd => ob_plain rfl (idx_rs (by omega) rfl hd.1 hd.2.1)
          · exact fun aa ww hb he hd => ob_plain rfl (load_rw rfl hd.1 (Rs.newW HA.out (bthen HB.out hb HB.out.size)) (by omega))
          · exact fun aa ww hb he hd => ob_plain rfl (gives_call1 _ _ _ rfl (by kernel_rfl) (sign_v (hd.1)))
          · exact fun aa ww hb he hd => ob_plain rfl (gives_lt_int ((f k).num.sign) 0 .i64 _ _ _ _ rfl hd.1 rfl ⟨congrArg Value.bool (hs), Below.refl _ _⟩)
        intro vs w3 hb hR
        have e15 : vs 5 = .bool false := hR 5 (by decide)
        clear hR
        simp only [putsL, Nat.zero_add, Nat.reduceAdd, List.take_succ_cons, List.take_zero, Act.put, List.setIfInBounds_toArray, List.set_cons_zero, List.set_cons_succ]
        rw [e15]
        clear e15
        go_wp2_with fail
        go_roundg (gk - 1)
        case measure => omega
        case rel => exact ⟨k + 1, by go_num, by omega, Lib.hid ⟨fun i hi => by
          by_cases hik : i = k
          · rw [hik]; exact hp
          · exact HP.out i (by omega), bthen HB.out hb HB.out.size⟩⟩
      · have hs : decide ((f k).num.sign < 0) = true := sign_lt.trans (decide_eq_true (by grind))
        go_upto_region 4 with (fail)
        refine wp_region_seq (kss := [[], [], [(0, 10), (1, 11)], [(2, 12)], [(3, 13)], [(4, 14)]]) [(0, .slice (some ad) n c), (3, .int .i64 ((k : Int)))] [EV (.slice (some ad) n c), EV (.int .i64 ((k : Int))), EV (.pointer (some (Addr.add ad (k * 3)))), Rw (b) (f k), EV (.int .i64 ((f k).num.sign)), EV (.bool true)] (by kernel_rfl) ⟨rfl, rfl, trivial⟩ ?_ ?_ ?_
        · exact ⟨eI, eI, eI, fun _ _ _ h hb => h.new hb, eI, eI, trivial⟩
        · refine ⟨?_, ?_, ?_, ?_, ?_, ?_, trivial⟩
          · exact fun _ _ _ he hd => ob_mv rfl rfl he.1
          · exact fun _ _ _ he hd => ob_mv rfl rfl he.2.1
          · exact fun aa ww hb he hd => ob_plain rfl (idx_rs (by omega) rfl hd.1 hd.2.1)
          · exact fun aa ww hb he hd => ob_plain rfl (load_rw rfl hd.1 (Rs.newW HA.out (bthen HB.out hb HB.out.size)) (by omega))
          · exact fun aa ww hb he hd => ob_plain rfl (gives_call1 _ _ _ rfl (by kernel_rfl) (sign_v (hd.1)))
          · exact fun aa ww hb he hd => ob_plain rfl (gives_lt_int ((f k).num.sign) 0 .i64 _ _ _ _ rfl hd.1 rfl ⟨congrArg Value.bool (hs), Below.refl _ _⟩)
        intro vs w3 hb hR
        have e15 : vs 5 = .bool true := hR 5 (by decide)
        clear hR
        simp only [putsL, Nat.zero_add, Nat.reduceAdd, List.take_succ_cons, List.take_zero, Act.put, List.setIfInBounds_toArray, List.set_cons_zero, List.set_cons_succ]
        rw [e15]
        clear e15
        go_wp2_with fail
        go_ret
        exact ⟨false, rfl, bthen HB.out hb HB.out.size, by simp; exact ⟨k, hk, by grind⟩⟩
    · obtain rfl : n = k := by omega
      go_wp2_with fail
      go_ret
      exact ⟨true, rfl, HB.out, by simp; exact HP.out⟩
set_option maxRecDepth 100000 in
set_option maxHeartbeats 8000000 in
theorem nonneg_any (n c b : Nat) (A : Option Addr) (f : Nat → Rat) (w : World) (hA : Rs w w.heap.size A n (PW w b f)) (hn1 : n ≤ 1000000) :
    Calls Try.prog 78 #[.slice A n c] w (NnRet n f w) := by
  have HA := Lib.hid hA; clear hA
  go_enter Try.func78, Try.ntmps78
  go_wp2_with fail
  go_loopg [7] n (fun q iv wr => ∃ k : Nat, iv = .int .i64 k ∧ k + q = n ∧ Hid ((∀ i, i < k → 0 ≤ f i) ∧ Below w.heap.size w wr))
  case atStart => exact ⟨0, rfl, by omega, Lib.hid ⟨fun i hi => absurd hi (by omega), Below.refl _ _⟩⟩
  case round =>
    obtain ⟨k, rfl, hkn, HI⟩ := hrel
    have HP := Lib.hid HI.out.1
    have HB := Lib.hid HI.out.2
    clear HI
    by_cases hk : k < n
    · obtain ⟨ad, -, -, -, -, -, -, -, rfl, -⟩ := HA.out.at_ hk
      have i1 : ((k : Int) < (n : Int)) := by omega
      go_upto_region 3 with (fail)
      refine wp_region_joins (kss := [[], [(0, 9)], []]) [(5, .slice (some ad) n c), (7, .int .i64 ((k : Int)))] [EV (.pointer (some (Addr.add ad (k * 3)))), Rw (b) (f k), Zb wr.heap.size] 3 (by kernel_rfl) ⟨rfl, rfl, trivial⟩ [false, false, true] ?_ ?_ ?_
      · exact ⟨eI, fun _ _ _ h hb => h.new hb, fun _ _ _ h hb => Zb.new h hb, trivial⟩
      · refine ⟨?_, ?_, ?_, trivial⟩
        · exact fun aa ww hb he hd => ob_plain rfl (idx_rs (by omega) rfl he.1 he.2.1)
        · exact fun aa ww hb he hd => ob_plain rfl (load_rw rfl hd.1 (Rs.newW HA.out (bthen HB.out hb HB.out.size)) (by omega))
        · exact fun aa ww hb he hd => ⟨by simp [Region.wanted], alloc_rat rfl hb⟩
      intro vs w2 hb hR
      have r10 : Rw (b) (f k) (vs 1) w2 := hR 1 (by decide)
      have r4 : Zb wr.heap.size (vs 2) w2 := hR 2 (by decide)
      clear hR
      simp only [putsL, Nat.zero_add, Nat.reduceAdd, List.take_succ_cons, List.take_zero, Act.put, List.setIfInBounds_toArray, List.set_cons_zero, List.set_cons_succ]
      obtain ⟨g4, k4, z4⟩ := r4
      rw [k4]
      clear k4
      show wpOps _ _ _ [3] _ _
      refine wpOps_next rfl rfl (store_row (v := vs 1) (g := g4) (j := 0) (n := 1) (b := b) (x := f k) rfl rfl rfl rfl z4.rb (by omega) r10 ?_)
      intro wa kp hg hsz hR
      have HX := Lib.hid (RB.bx (hR (fun _ v => Rw b (f k) v wa) (fun l u hl hne _ => absurd hl (by omega)) (r10.keepN kp)))
      have hl : wr.heap.size ≤ g4 := z4.1
      have hlow : w.heap.size ≤ wr.heap.size := HB.out.size
      have HBa := Lib.hid (show Below w.heap.size w wa from (bthen HB.out hb HB.out.size).grown hg (bthen HB.out hb HB.out.size).size (fun x hx => by cases hx; omega))
      clear hb kp hg hsz hR r10 z4 hl hlow HB
      show Exit.then _ _ _ _ _
      by_cases hp : 0 ≤ f k
      · have hs : decide ((f k).num.sign < 0) = false := sign_lt.trans (decide_eq_false (by grind))
        go_upto_region 4 with (fail)
        refine wp_region_seq (kss := [[], [(0, 11)], [(1, 12)]]) [(4, .pointer (some ⟨g4, 0, none⟩))] [Rw (b) (f k), EV (.int .i64 ((f k).num.sign)), EV (.bool false)] (by kernel_rfl) ⟨rfl, trivial⟩ ?_ ?_ ?_
        · exact ⟨fun _ _ _ h hb => h.new hb, eI, eI, trivial⟩
        · refine ⟨?_, ?_, ?_, trivial⟩
          · exact fun aa ww hb he hd => ob_plain rfl (load_bx rfl he.1 (Bx.new HX.out hb))
          · exact fun aa ww hb he hd => ob_plain rfl (gives_call1 _ _ _ rfl (by kernel_rfl) (sign_v (hd.1)))
          · exact fun aa ww hb he hd => ob_plain rfl (gives_lt_int ((f k).num.sign) 0 .i64 _ _ _ _ rfl hd.1 rfl ⟨congrArg Value.bool (hs), Below.refl _ _⟩)
        intro vs w3 hb hR
        have e13 : vs 2 = .bool false := hR 2 (by decide)
        clear hR
        simp only [putsL, Nat.zero_add, Nat.reduceAdd, List.take_succ_cons, List.take_zero, Act.put, List.setIfInBounds_toArray, List.set_cons_zero, List.set_cons_succ]
        rw [e13]
        clear e13
        go_wp2_with fail
        go_roundg (gk - 1)
        case measure => omega
        case rel => exact ⟨k + 1, by go_num, by omega, Lib.hid ⟨fun i hi => by
          by_cases hik : i = k
          · rw [hik]; exact hp
          · exact HP.out i (by omega), bthen HBa.out hb HBa.out.size⟩⟩
      · have hs : decide ((f k).num.sign < 0) = true := sign_lt.trans (decide_eq_true (by grind))
        go_upto_region 4 with (fail)
        refine wp_region_seq (kss := [[], [(0, 11)], [(1, 12)]]) [(4, .pointer (some ⟨g4, 0, none⟩))] [Rw (b) (f k), EV (.int .i64 ((f k).num.sign)), EV (.bool true)] (by kernel_rfl) ⟨rfl, trivial⟩ ?_ ?_ ?_
        · exact ⟨fun _ _ _ h hb => h.new hb, eI, eI, trivial⟩
        · refine ⟨?_, ?_, ?_, trivial⟩
          · exact fun aa ww hb he hd => ob_plain rfl (load_bx rfl he.1 (Bx.new HX.out hb))
          · exact fun aa ww hb he hd => ob_plain rfl (gives_call1 _ _ _ rfl (by kernel_rfl) (sign_v (hd.1)))
          · exact fun aa ww hb he hd => ob_plain rfl (gives_lt_int ((f k).num.sign) 0 .i64 _ _ _ _ rfl hd.1 rfl ⟨congrArg Value.bool (hs), Below.refl _ _⟩)
        intro vs w3 hb hR
        have e13 : vs 2 = .bool true := hR 2 (by decide)
        clear hR
        simp only [putsL, Nat.zero_add, Nat.reduceAdd, List.take_succ_cons, List.take_zero, Act.put, List.setIfInBounds_toArray, List.set_cons_zero, List.set_cons_succ]
        rw [e13]
        clear e13
        go_wp2_with fail
        go_ret
        exact ⟨false, rfl, bthen HBa.out hb HBa.out.size, by simp; exact ⟨k, hk, by grind⟩⟩
    · obtain rfl : n = k := by omega
      go_wp2_with fail
      go_ret
      exact ⟨true, rfl, HB.out, by simp; exact HP.out⟩
end Go.Proofs.Ytamcibmjpmibdaa
namespace Go.Proofs.Ytamcibmjpmibdaa
open Go.RowKit
set_option linter.unusedVariables false
set_option linter.unusedSimpArgs false

set_option maxRecDepth 100000 in
set_option maxHeartbeats 8000000 in
theorem dot_any (n n' ca cb ba bb : Nat) (AA AB : Option Addr) (f g : Nat → Rat) (w : World) (hA : Rs w w.heap.size AA n (PW w ba f)) (hB : Rs w w.heap.size AB n' (PW w bb g)) (hn : n ≤ n') (hn1 : n ≤ 1000) (hba : ba ≤ 1400) (hbb : bb ≤ 1400) (hcap : n * (ba + bb + 1) ≤ 2000) :
    Calls Try.prog 47 #[.slice AA n ca, .slice AB n' cb] w (RV w (Rw (2 + n * (ba + bb + 1)) (sm (fun i => f i * g i) n))) := by
  have HA := Lib.hid hA; have HBB := Lib.hid hB; clear hA hB
  obtain ⟨c, hc⟩ : ∃ c, c = ba + bb + 1 := ⟨_, rfl⟩
  rw [← hc] at hcap ⊢
  have HC := Lib.hid hc; clear hc
  go_enter Try.func47, Try.ntmps47
  go_upto_region 1 with (fail)
  have HB0 := Lib.hid (al w (.cells #[.bool false, .slice none 0 0, .slice none 0 0] 41))
  have HZ0 := Lib.hid (Zx.rb (show Zx w.heap.size w.heap.size (w.alloc (.cells #[.bool false, .slice none 0 0, .slice none 0 0] 41)) from ⟨Nat.le_refl _, TB.made w _ _ _ _⟩))
  obtain ⟨g4, hg4⟩ : ∃ g4, g4 = w.heap.size := ⟨_, rfl⟩
  have HG4 := Lib.hid hg4
  rw [← hg4] at HZ0 ⊢
  clear hg4
  generalize w.alloc (.cells #[.bool false, .slice none 0 0, .slice none 0 0] 41) = w0 at *
  refine wp_region_joins (kss := [[], []]) [] [Rv (2) (((0 : Int) : Rat)), Zb w0.heap.size] 2 (by kernel_rfl) trivial [false, true] ?_ ?_ ?_
  · exact ⟨fun _ _ _ h hb => h.new hb, fun _ _ _ h hb => Zb.new h hb, trivial⟩
  · refine ⟨?_, ?_, trivial⟩
    · exact fun aa ww hb he hd => ob_plain rfl (gives_call1 _ _ _ rfl (by kernel_rfl) (int_w (0) (by omega) (by omega) _ rfl _))
    · exact fun aa ww hb he hd => ⟨by simp [Region.wanted], alloc_rat rfl hb⟩
  intro vs w2 hb hR
  have r7 : Rv (2) (((0 : Int) : Rat)) (vs 0) w2 := hR 0 (by decide)
  have r5 : Zb w0.heap.size (vs 1) w2 := hR 1 (by decide)
  clear hR
  simp only [putsL, Nat.zero_add, Nat.reduceAdd, List.take_succ_cons, List.take_zero, Act.put, List.setIfInBounds_toArray, List.set_cons_zero, List.set_cons_succ]
  obtain ⟨g5, k5, z5⟩ := r5
  rw [k5]
  clear k5
  show wpOps _ _ _ [2] _ _
  refine wpOps_next rfl rfl (store_row (v := vs 0) (g := g5) (j := 0) (n := 1) (b := 2) (x := ((0 : Int) : Rat)) rfl rfl rfl rfl z5.rb (by omega) r7.rw ?_)
  intro w3 kp hg hsz hR5
  have HX := Lib.hid (RB.bx (hR5 (fun _ v => Rw 2 (sm (fun i => f i * g i) 0) v w3) (fun l u hl hne _ => absurd hl (by omega)) (by
    have h := r7.rw.keepN kp
    rw [show ((0 : Int) : Rat) = sm (fun i => f i * g i) 0 from by simp [sm]] at h
    exact h)))
  have h45 : g4 < g5 := by have := HZ0.out.lt; have := z5.1; omega
  have HW := Lib.hid (show w.heap.size ≤ g4 from by rw [HG4.out]; exact Nat.le_refl _)
  have HB3 := Lib.hid (show Below w.heap.size w w3 from (bthen HB0.out hb HB0.out.size).grown hg (bthen HB0.out hb HB0.out.size).size (fun x hx => by cases hx; have := HW.out; omega))
  have HZ := Lib.hid ((HZ0.out.below hb (Q := fun _ _ => True) (fun _ _ _ _ => trivial)).grown hg (show g4 ≠ g5 by omega) (Q := fun _ _ => True) (fun _ _ _ _ => trivial))
  clear kp hg hsz hR5 hb r7 z5 HB0 HZ0
  show Exit.then _ _ _ _ _
  go_wp2_with fail
  go_loopg [10] n (fun q iv wr => ∃ k : Nat, iv = .int .i64 k ∧ k + q = n ∧ Hid (Bx (2 + k * c) (sm (fun i => f i * g i) k) g5 wr ∧ RB wr g4 1 (fun _ _ => True) ∧ Below w.heap.size w wr))
  case atStart => exact ⟨0, rfl, by omega, Lib.hid ⟨by rw [Nat.zero_mul]; exact HX.out, HZ.out, HB3.out⟩⟩
  case round =>
    obtain ⟨k, rfl, hkn, HI⟩ := hrel
    clear HX HZ HB3
    obtain ⟨bk, hbk⟩ : ∃ bk, bk = 2 + k * c := ⟨_, rfl⟩
    have HX := Lib.hid HI.out.1
    rw [← hbk] at HX
    have HZ := Lib.hid HI.out.2.1
    have HB := Lib.hid HI.out.2.2
    clear HI
    have hkc : k * c ≤ n * c := Nat.mul_le_mul_right c (by omega)
    have hbk2 : bk ≤ 2002 := by omega
    have HBk := Lib.hid hbk; clear hbk hkc
    by_cases hk : k < n
    · obtain ⟨adA, -, -, -, -, -, -, -, rfl, -⟩ := HA.out.at_ hk
      obtain ⟨adB, -, -, -, -, -, -, -, rfl, -⟩ := HBB.out.at_ (show k < n' by omega)
      have i1 : ((k : Int) < (n : Int)) := by omega
      go_upto_region 5 with (fail)
      refine wp_region_join (kss := [[], [], [], [(1, 14), (2, 15)], [(3, 16)], [], [], [(5, 18), (6, 19)], [(7, 20)], [(4, 17), (8, 21)], [(0, 13), (9, 22)]]) [(5, .pointer (some ⟨g5, 0, none⟩)), (0, .slice (some adA) n ca), (6, .int .i64 ((k : Int))), (1, .slice (some adB) (n') cb)] [Rw (bk) (sm (fun i => f i * g i) k), EV (.slice (some adA) n ca), EV (.int .i64 ((k : Int))), EV (.pointer (some (Addr.add adA (k * 3)))), Rw (ba) (f k), EV (.slice (some adB) (n') cb), EV (.int .i64 ((k : Int))), EV (.pointer (some (Addr.add adB (k * 3)))), Rw (bb) (g k), Rv (ba + bb) ((f k) * (g k)), Rv (bk + (ba + bb) + 1) ((sm (fun i => f i * g i) k) + ((f k) * (g k)))] 11 [] (by kernel_rfl) (by kernel_rfl) ⟨rfl, rfl, rfl, rfl, trivial⟩ [false, false, false, false, false, false, false, false, false, false, false] ?_ ?_ ?_ ?_
      · exact fun i hi => absurd hi (by simp)
      · exact ⟨fun _ _ _ h hb => h.new hb, eI, eI, eI, fun _ _ _ h hb => h.new hb, eI, eI, eI, fun _ _ _ h hb => h.new hb, fun _ _ _ h hb => h.new hb, fun _ _ _ h hb => h.new hb, trivial⟩
      · refine ⟨?_, ?_, ?_, ?_, ?_, ?_, ?_, ?_, ?_, ?_, ?_, trivial⟩
        · exact fun aa ww hb he hd => ob_plain rfl (load_bx rfl he.1 (Bx.new HX.out hb))
        · exact fun _ _ _ he hd => ob_mv rfl rfl he.2.1
        · exact fun _ _ _ he hd => ob_mv rfl rfl he.2.2.1
        · exact fun aa ww hb he hd => ob_plain rfl (idx_rs (by omega) rfl hd.1 hd.2.1)
        · exact fun aa ww hb he hd => ob_plain rfl (load_rw rfl hd.1 (Rs.newW HA.out (bthen HB.out hb HB.out.size)) (by omega))
        · exact fun _ _ _ he hd => ob_mv rfl rfl he.2.2.2.1
        · exact fun _ _ _ he hd => ob_mv rfl rfl he.2.2.1
        · exact fun aa ww hb he hd => ob_plain rfl (idx_rs (by omega) rfl hd.1 hd.2.1)
        · exact fun aa ww hb he hd => ob_plain rfl (load_rw rfl hd.1 (Rs.newW HBB.out (bthen HB.out hb HB.out.size)) (by omega))
        · exact fun aa ww hb he hd => ob_plain rfl (gives_call2 _ _ _ _ rfl (by kernel_rfl) (mul_v (hd.1) (hd.2.1) (by omega)))
        · exact fun aa ww hb he hd => ob_plain rfl (gives_call2 _ _ _ _ rfl (by kernel_rfl) (add_v (hd.1) (hd.2.1.rw) (by omega)))
      intro vs w4 hb hR _
      have r23 : Rv (bk + (ba + bb) + 1) ((sm (fun i => f i * g i) k) + ((f k) * (g k))) (vs 10) w4 := hR 10 (by decide)
      clear hR
      simp only [putsL, Nat.zero_add, Nat.reduceAdd, List.take_succ_cons, List.take_zero, Act.put, List.setIfInBounds_toArray, List.set_cons_zero, List.set_cons_succ]
      show wpAny _ _ _ _ 1 _ _ _
      refine wpAny_next (i := 11) (by kernel_rfl) rfl rfl (store_row (v := vs 10) (g := g5) (j := 0) (n := 1) (b := bk + (ba + bb) + 1) (x := sm (fun i => f i * g i) k + f k * g k) rfl rfl rfl rfl (HX.out.new hb).rb (by omega) r23.rw ?_)
      intro wa kp hg hsz hR
      have hbe : bk + (ba + bb) + 1 = 2 + (k + 1) * c := by rw [HBk.out, Nat.succ_mul, HC.out]; omega
      have HXa := Lib.hid (RB.bx (hR (fun _ v => Rw (2 + (k + 1) * c) (sm (fun i => f i * g i) (k + 1)) v wa) (fun l u hl hne _ => absurd hl (by omega)) (by
        have h := r23.rw.keepN kp
        rw [hbe] at h
        exact h)))
      have HZa := Lib.hid ((HZ.out.below hb (Q := fun _ _ => True) (fun _ _ _ _ => trivial)).grown hg (show g4 ≠ g5 by omega) (Q := fun _ _ => True) (fun _ _ _ _ => trivial))
      have HBa := Lib.hid (show Below w.heap.size w wa from (bthen HB.out hb HB.out.size).grown hg (bthen HB.out hb HB.out.size).size (fun x hx => by cases hx; have := HW.out; omega))
      clear hb kp hg hsz hR r23 hbe
      refine wpAny_end (by kernel_rfl) (calm_normal ?_) _
      go_wp2_with fail
      go_roundg (gk - 1)
      case measure => omega
      case rel => exact ⟨k + 1, by go_num, by omega, Lib.hid ⟨HXa.out, HZa.out, HBa.out⟩⟩
    · obtain rfl : n = k := by omega
      go_upto_region 7 with (fail)
      refine wp_region_joins (kss := [[]]) [(5, .pointer (some ⟨g5, 0, none⟩))] [Rw (bk) (sm (fun i => f i * g i) n)] 1 (by kernel_rfl) ⟨rfl, trivial⟩ [false] ?_ ?_ ?_
      · exact ⟨fun _ _ _ h hb => h.new hb, trivial⟩
      · refine ⟨?_, trivial⟩
        · exact fun aa ww hb he hd => ob_plain rfl (load_bx rfl he.1 (Bx.new HX.out hb))
      intro vs w4 hb hR
      have r25 : Rw (bk) (sm (fun i => f i * g i) n) (vs 0) w4 := hR 0 (by decide)
      clear hR
      simp only [putsL, Nat.zero_add, Nat.reduceAdd, List.take_succ_cons, List.take_zero, Act.put, List.setIfInBounds_toArray, List.set_cons_zero, List.set_cons_succ]
      show wpOps _ _ _ [1] _ _
      refine wpOps_next rfl rfl (store_row (v := vs 0) (g := g4) (j := 0) (n := 1) (b := bk) (x := sm (fun i => f i * g i) n) rfl rfl rfl rfl (HZ.out.below hb (Q := fun _ _ => True) (fun _ _ _ _ => trivial)) (by omega) r25 ?_)
      intro wa kp hg hsz hR
      have HXa := Lib.hid (RB.bx (hR (fun _ v => Rw bk (sm (fun i => f i * g i) n) v wa) (fun l u hl hne _ => absurd hl (by omega)) (r25.keepN kp)))
      have HBa := Lib.hid (show Below w.heap.size w wa from (bthen HB.out hb HB.out.size).grown hg (bthen HB.out hb HB.out.size).size (fun x hx => by cases hx; exact HW.out))
      clear hb kp hg hsz hR r25
      unfold wpOps
      go_wp2_with fail
      obtain ⟨s, A, k1, c1, B, m1, d1, h1, h2⟩ := HXa.out
      refine bodyPost_ret (v := .agg #[.bool s, .slice A k1 c1, .slice B m1 d1]) (results_cell_row Try.results47 _ _ _ _ _ (0, 0) _ rfl h1 Try.underlying41 rfl rfl) rfl ?_
      exact ⟨_, rfl, by rw [← HBk.out]; exact ⟨s, A, k1, c1, B, m1, d1, rfl, h2⟩, HBa.out⟩
end Go.Proofs.Ytamcibmjpmibdaa
