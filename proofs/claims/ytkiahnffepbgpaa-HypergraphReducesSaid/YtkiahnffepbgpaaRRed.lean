/-
  Contract of the reference's Reduce.
-/
import Derived.Test.YtkiahnffepbgpaaRNext
namespace Go.Proofs.Ytkiahnffepbgpaa
open Go.RowKit
set_option linter.unusedSimpArgs false
set_option linter.unusedVariables false

theorem add_or_bit {y v : Nat} (hy : y < 2 ^ 32) (hv : v < 32) (h : y.testBit v = false) : y + 2 ^ v = y ||| 2 ^ v := by
  have h2 : (2 : Nat) ^ v < 2 ^ 32 := Nat.pow_lt_pow_right (by decide) hv
  have h3 : y ||| 2 ^ v < 2 ^ 32 := Nat.or_lt_two_pow hy h2
  have key := BitVec.add_eq_or_of_and_eq_zero (BitVec.ofNat 64 y) (BitVec.ofNat 64 (2 ^ v)) (by
    apply BitVec.eq_of_toNat_eq
    simp only [BitVec.toNat_and, BitVec.toNat_ofNat]
    rw [Nat.mod_eq_of_lt (a := y) (by omega), Nat.mod_eq_of_lt (a := 2 ^ v) (by omega)]
    apply Nat.eq_of_testBit_eq
    intro i
    rw [Nat.testBit_and, Nat.testBit_two_pow]
    by_cases hi : v = i
    · subst hi; simp [h]
    · simp [hi])
  have := congrArg BitVec.toNat key
  simp only [BitVec.toNat_add, BitVec.toNat_or, BitVec.toNat_ofNat] at this
  rw [Nat.mod_eq_of_lt (a := y) (by omega), Nat.mod_eq_of_lt (a := 2 ^ v) (by omega), Nat.mod_eq_of_lt (by omega)] at this
  exact this
theorem andn_sub {x v : Nat} (hx : x < 2 ^ 32) (hv : v < 32) (h : x.testBit v = true) : ((x : Int) - 2 ^ v) % 4294967296 = ((andn x (2 ^ v) : Nat) : Int) := by
  have h2 : (2 : Nat) ^ v < 2 ^ 32 := Nat.pow_lt_pow_right (by decide) hv
  have hy : andn x (2 ^ v) < 2 ^ 32 := andn_lt hx
  have hb : (andn x (2 ^ v)).testBit v = false := by rw [testBit_andn h2 hx]; simp
  have e1 := add_or_bit hy hv hb
  have e2 : andn x (2 ^ v) ||| 2 ^ v = x := by
    apply Nat.eq_of_testBit_eq
    intro i
    rw [Nat.testBit_or, testBit_andn h2 hx, Nat.testBit_two_pow]
    by_cases hi : v = i
    · subst hi; simp [h]
    · simp [hi]
  rw [e2] at e1
  have e3 : ((2 : Int) ^ v) = ((2 ^ v : Nat) : Int) := by simp
  rw [e3]
  omega
theorem info_qstep : (Try.prog.info? 42).map (fun i => (i.zero, i.size, i.bytes)) = some (some (.agg #[.int .i64 0, .int .i64 0, .int .i64 0]), 3, 24) := by kernel_rfl
section
variable {ops : Array Oper} {rest : List Oper} {o : Oper} {a : Act} {w : World} {Q : Exit → Act → World → Prop}
/-- append(v, s): one step onto a row of the call's own. -/
theorem app_qstep (hgd : o.guard = none) (s x : Operand) (ho : o.op = .call { callee := .builtin .append, args := #[s, x], argTypes := #[32, 32] })
    (base : Nat) (v : Value) (l : List (Int × Int × Int)) (hs : a.eval s = v) (hown : w.ownsRow base 42 3 v l.length (S3 l)) (g : Nat) (t : Int × Int × Int) (hx : a.eval x = .slice (some ⟨g, 0, none⟩) 1 1) (hb : Blk w g 42 (stepC t.1 t.2.1 t.2.2))
    (hk : l.length ≤ 1000000) (hbase : base ≤ w.heap.size)
    (h : ∀ v' w', w'.ownsRow base 42 3 v' (l ++ [t]).length (S3 (l ++ [t])) → w.grownBy w' v.ownBlock → (v'.ownBlock = v.ownBlock ∨ v'.ownBlock = some w.heap.size) → wpList Try.prog ops Q rest (a.put o.dst v') w') : wpList Try.prog ops Q (o :: rest) a w := by
  obtain ⟨i, hi, hz, hs1, hby⟩ := info_parts info_qstep
  have hr : Reads w w.heap.size 3 (some ⟨g, 0, none⟩) 1 (S3 [t]) := ⟨rfl, fun _ => ⟨_, rfl, hb.lt, fun j u hu => by
    have e : (Addr.add ⟨g, 0, none⟩ j) = ⟨g, j, none⟩ := by unfold Addr.add; split <;> simp_all
    rw [e, hb.cell]; simpa [S3, stepC] using hu⟩⟩
  refine wpList_append_any w hgd s x 32 ho base 42 i _ 3 24 Try.underlying32 hi hz hs1 hby rfl (by omega) v l.length (S3 l) hs hown w.heap.size _ 1 1 _ hx hr (by simp [S3]; exact ⟨rfl, rfl, rfl⟩) (by simp only [maxLen]; omega) (by omega) hbase ?_
  intro v' w' h1 h2 h3
  exact h v' w' (by rw [S3_append, List.length_append]; exact h1) h2 h3
end
/-- What stands at the head of Reduce's loop. -/
def QedSt (w : World) (n : Nat) (es : List Nat) (A : Option Addr) (c : Nat) (A4 : Option Addr) (c4 gb : Nat) (k : Nat) (v : Value) (wr : World) (l : List (Int × Int × Int)) (r : List Nat) (g : List Bool) : Prop :=
  (Run n es (List.replicate es.length false) l r g ∧ meas n r g ≤ k ∧ l.length + meas n r g ≤ 2112 ∧ (∀ x ∈ r, x < 2 ^ n)) ∧
  wr.ownsRow (w.heap.size + 1) 36 1 (.slice A4 es.length c4) es.length (U32 r) ∧ Blk wr gb 4 (brow g) ∧ wr.ownsRow (w.heap.size + 1) 42 3 v l.length (S3 l) ∧
  GB wr w.heap.size 26 (.int .i64 n) (.slice A es.length c) ∧ Below w.heap.size w wr ∧ w.heap.size + 1 ≤ wr.heap.size ∧ w.heap.size + 1 ≤ gb
theorem QedSt.new {w : World} {n : Nat} {es : List Nat} {A : Option Addr} {c : Nat} {A4 : Option Addr} {c4 gb k : Nat} {v : Value} {wr w' : World} {l : List (Int × Int × Int)} {r : List Nat} {g : List Bool} (h : QedSt w n es A c A4 c4 gb k v wr l r g) (hb : Below wr.heap.size wr w') : QedSt w n es A c A4 c4 gb k v w' l r g :=
  ⟨h.1, own_below h.2.1 hb, h.2.2.1.below hb h.2.2.1.lt, own_below h.2.2.2.1 hb, h.2.2.2.2.1.new hb, bthen h.2.2.2.2.2.1 hb h.2.2.2.2.2.1.size, Nat.le_trans h.2.2.2.2.2.2.1 hb.size, h.2.2.2.2.2.2.2⟩
/-- What stands beside the row of steps. -/
def QedM (w : World) (n : Nat) (es : List Nat) (A : Option Addr) (c : Nat) (A4 : Option Addr) (c4 gb : Nat) (v : Value) (l : List (Int × Int × Int)) (r : List Nat) (g : List Bool) (wr : World) : Prop :=
  wr.ownsRow (w.heap.size + 1) 36 1 (.slice A4 es.length c4) es.length (U32 r) ∧ Blk wr gb 4 (brow g) ∧ wr.ownsRow (w.heap.size + 1) 42 3 v l.length (S3 l) ∧
  GB wr w.heap.size 26 (.int .i64 n) (.slice A es.length c) ∧ Below w.heap.size w wr ∧ w.heap.size + 1 ≤ wr.heap.size ∧ w.heap.size + 1 ≤ gb
section
variable {w : World} {n : Nat} {es : List Nat} {A : Option Addr} {c : Nat} {A4 : Option Addr} {c4 gb : Nat} {v : Value} {l : List (Int × Int × Int)} {r : List Nat} {g : List Bool} {wr : World}
theorem QedM.alloc (h : QedM w n es A c A4 c4 gb v l r g wr) (o : Obj) : QedM w n es A c A4 c4 gb v l r g (wr.alloc o) :=
  ⟨h.1.alloc o, h.2.1.alloc o, h.2.2.1.alloc o, h.2.2.2.1.alloc o, h.2.2.2.2.1.alloc h.2.2.2.2.1.size o, by have := h.2.2.2.2.2.1; simp; omega, h.2.2.2.2.2.2⟩
theorem QedM.drew (h : QedM w n es A c A4 c4 gb v l r g wr) : QedM w n es A c A4 c4 gb v l r g wr.drew := ⟨h.1, h.2.1, h.2.2.1, h.2.2.2.1, h.2.2.2.2.1.drew, h.2.2.2.2.2⟩
theorem QedM.row {g4 : Nat} (h : QedM w n es A c (some ⟨g4, 0, none⟩) c4 gb v l r g wr) (e x : Nat) (h4 : w.heap.size + 1 ≤ g4) (hne : g4 ≠ gb) : QedM w n es A c (some ⟨g4, 0, none⟩) c4 gb v l (r.set e x) g (wr.setCell ⟨g4, e, none⟩ (.int .u32 (x : Int))) := by
  obtain ⟨h1, h2⟩ := World.ownsRow.stored h.1 e (.int .u32 (x : Int))
  rw [U32_set] at h1
  exact ⟨h1, h.2.1.far (p := ⟨g4, e, none⟩) (Ne.symm hne) _, own_grown_own h.2.2.1 h.1 (by decide) h2, h.2.2.2.1.far (p := ⟨g4, e, none⟩) (by show w.heap.size ≠ g4; omega) _, h.2.2.2.2.1.setCell (p := ⟨g4, e, none⟩) (by show w.heap.size ≤ g4; omega) _, by have := h.2.2.2.2.2.1; simpa [World.setCell] using this, h.2.2.2.2.2.2⟩
theorem QedM.gone (h : QedM w n es A c A4 c4 gb v l r g wr) (e : Nat) : QedM w n es A c A4 c4 gb v l r (g.set e true) (wr.setCell ⟨gb, e, none⟩ (.bool true)) := by
  have hb := h.2.1.set_ e (.bool true)
  rw [brow_set] at hb
  exact ⟨own_far h.1 h.2.1 (by decide) e _, hb, own_far h.2.2.1 h.2.1 (by decide) e _, h.2.2.2.1.far (p := ⟨gb, e, none⟩) (by have := h.2.2.2.2.2.2; show w.heap.size ≠ gb; omega) _, h.2.2.2.2.1.setCell (p := ⟨gb, e, none⟩) (by have := h.2.2.2.2.2.2; show w.heap.size ≤ gb; omega) _, by have := h.2.2.2.2.2.1; simpa [World.setCell] using this, h.2.2.2.2.2.2⟩
theorem QedM.step {w' : World} {v' : Value} {t : Int × Int × Int} (h : QedM w n es A c A4 c4 gb v l r g wr) (h1 : w'.ownsRow (w.heap.size + 1) 42 3 v' (l ++ [t]).length (S3 (l ++ [t]))) (h2 : wr.grownBy w' v.ownBlock) : QedM w n es A c A4 c4 gb v' (l ++ [t]) r g w' :=
  ⟨own_grown_own h.1 h.2.2.1 (by decide) h2, h.2.1.appended h.2.2.1 h2 (by decide), h1, h.2.2.2.1.appended h.2.2.1 h2 (by decide), Below.appended h.2.2.2.2.1 h.2.2.1 h2 h.2.2.2.2.1.size (by omega), Nat.le_trans h.2.2.2.2.2.1 h2.size, h.2.2.2.2.2.2⟩
end
theorem own_other {w : World} {base : Nat} {e : TypeId} {size n : Nat} {v : Value} {xs : List Value} (h : w.ownsRow base e size v n xs) {k : Nat} (hk : w.heap.size ≤ k) : some k ≠ v.ownBlock := by
  intro hv
  rcases h.2 with ⟨h0, _⟩ | ⟨g, cap, cur, rfl, hb, hg, _⟩
  · rw [h0] at hv; cases hv
  · simp only [Value.ownBlock] at hv
    injection hv with hv
    subst hv
    have : w.heap[k]? = none := Array.getElem?_eq_none hk
    rw [this] at hg; cases hg
theorem redFacts {w : World} {n : Nat} {es : List Nat} {A : Option Addr} {c c4 g4 gb gs : Nat} {v : Value} {l : List (Int × Int × Int)} {r : List Nat} {g : List Bool} {wr : World} {e f t : Int} {k : Nat} (h : QedM w n es A c (some ⟨g4, 0, none⟩) c4 gb v l r g wr) (hb : Blk wr gs 42 (stepC e f t)) (he : k < es.length) (hl : r.length = es.length) :
    wr.cell? ⟨gs, 0, none⟩ = some (.int .i64 e) ∧ wr.cell? ⟨gs, 2, none⟩ = some (.int .i64 t) ∧ wr.cell? ⟨g4, k, none⟩ = some (.int .u32 (nth r k : Int)) ∧ w.heap.size + 1 ≤ wr.heap.size := by
  refine ⟨(hb.cell 0).trans rfl, (hb.cell 2).trans rfl, ?_, h.2.2.2.2.2.1⟩
  rw [h.1.cellAt k (by omega)]
  have h1 : k < r.length := by omega
  simp [U32, nth, List.getD, h1]
def RetQed (w : World) (n : Nat) (es : List Nat) (e : Ending) (w' : World) : Prop :=
  ∃ l r g A6 c6 A4 c4, Run n es (List.replicate es.length false) l r g ∧ AbsSpec r g none ∧ IsoSpec n r none ∧ e = .returned (.tuple #[.slice A6 l.length c6, .slice A4 es.length c4]) ∧
    w'.ownsRow (w.heap.size + 1) 42 3 (.slice A6 l.length c6) l.length (S3 l) ∧ Es w' w'.heap.size A4 es.length r ∧ Below w.heap.size w w'

set_option maxRecDepth 100000 in
set_option maxHeartbeats 4000000 in
theorem rreduce_any (n : Nat) (A : Option Addr) (es : List Nat) (len c : Nat) (w : World) (hr : Es w w.heap.size A len es) (hcc : checkCode n es = 0) :
    Calls Try.prog 13 #[.agg #[.int .i64 n, .slice A len c]] w (RetQed w n es) := by
  obtain ⟨_, hn, hl64, hbd⟩ := checkCode_zero hcc
  have hlen := hr.len
  subst hlen
  have hbd2 : ∀ e ∈ es, e < 2 ^ n := by simpa using hbd
  have HBD := Lib.hid hbd2; clear hbd hbd2
  have HCC := Lib.hid hcc; clear hcc
  have HR := Lib.hid hr; clear hr
  have HW := Lib.hid (al w (.cells #[.int .i64 n, .slice A es.length c] 26))
  have HG := Lib.hid (GB.made w 26 (.int .i64 n) (.slice A es.length c))
  have hmk := mk_bool es.length (by omega)
  obtain ⟨i, hi, hz, hs1, hby⟩ := info_parts info_u32
  go_enter Try.func13, Try.ntmps13
  go_wp2_with (at_builtin; refine wpList_append_any _ rfl _ _ 22 rfl (w.heap.size + 1) 36 i _ 1 4 Try.underlying22 hi hz hs1 hby rfl (by omega) (.slice none 0 0) 0 [] rfl (own_nil _ _ _) w.heap.size A es.length c (U32 es) rfl (HR.out.1.alloc (Nat.le_refl _) _) (one_U32 es) (by simp only [maxLen]; omega) (by omega) (by simp) ?_; intro v' w2 hown' hgr hor; rw [Nat.zero_add, List.nil_append] at hown'; obtain ⟨A4, c4, rfl⟩ := own_form hown'; have HO2 := Lib.hid hown'; have HGR := Lib.hid hgr; clear hown' hgr hor)
  clear hmk hi hz hs1 hby
  have HG2 := Lib.hid (HG.out.appended (own_nil _ (w.heap.size + 1) 36) HGR.out (by decide))
  have HB2 := Lib.hid (Below.appended HW.out (own_nil _ (w.heap.size + 1) 36) HGR.out (by simp) (by omega))
  have hz2 : w.heap.size + 1 ≤ w2.heap.size := by have := HGR.out.size; simpa using this
  go_loopg [2, 3, 6, 7, 8] (meas n es (List.replicate es.length false)) (fun k _ _ v _ _ wr => ∃ l r g A6 c6, v = .slice A6 l.length c6 ∧ Hid (QedSt w n es A c A4 c4 w2.heap.size k v wr l r g))
  case atStart =>
    refine ⟨[], es, List.replicate es.length false, none, 0, rfl, Lib.hid ⟨⟨.nil, Nat.le_refl _, ?_, HBD.out⟩, HO2.out.alloc _, Blk.new _ _ _, own_nilS _ _ _, HG2.out.alloc _, HB2.out.alloc (by omega) _, by simp; omega, hz2⟩⟩
    have := meas_le (n := n) (r := es) (g := List.replicate es.length false)
    rw [List.length_replicate] at this
    have h2 : es.length * n ≤ 64 * 32 := Nat.mul_le_mul (by omega) (by omega)
    simp; omega
  case round =>
    obtain ⟨l, r, g, A6, c6, rfl, HI⟩ := hrel
    have hll : l.length ≤ 2112 := by have := HI.out.1.2.2.1; omega
    obtain ⟨hrl, hgl⟩ := HI.out.1.1.lengths
    rw [List.length_replicate] at hgl
    have hE : Es wr wr.heap.size A4 es.length r := ⟨Reads.of_own HI.out.2.1, ⟨hrl.symm, by omega⟩, fun e he => Nat.lt_of_lt_of_le (HI.out.1.2.2.2 e he) (Nat.le_trans (two_pow_le (show n ≤ 32 by omega)) (by decide))⟩
    have HE := Lib.hid hE; clear hE
    have HRL := Lib.hid hrl; have HGL := Lib.hid hgl; clear hrl hgl
    have HGZ := Lib.hid (HI.out.1.1.gone_zero (fun e he => by
      exfalso
      have h0 : bget (List.replicate es.length false) e = false := by
        unfold bget; rw [List.getD_eq_getElem?_getD, List.getElem?_replicate]; split <;> rfl
      rw [h0] at he; cases he))
    have g0 := HI.out.2.2.2.2.1.c0; have glt := HI.out.2.2.2.2.1.lt
    go_wp2_with fail
    refine (rnext_any n A4 r es.length c4 w2.heap.size es.length g wr HE.out HI.out.2.2.1 (by rw [HRL.out, HGL.out]) HGZ.out (by omega)).mono ?_
    rintro e w3 ⟨o, p, ho, hp, rfl, hb⟩
    have HS := Lib.hid (HI.out.new hb)
    have hz3 := hb.size
    have HBW3 := Lib.hid hb; clear hb g0 glt
    cases o with
    | some q =>
      obtain ⟨e, f⟩ := q
      have HO := Lib.hid ho
      have he : e < es.length := by have := ho.1; have h2 := HRL.out; omega
      clear ho hp
      obtain ⟨g4, cap, hv, hb4, hg4⟩ := HS.out.2.1.form (by omega)
      injection hv with hv1 _ hv2
      subst hv1; subst hv2
      have hgb := HS.out.2.2.1.lt
      have hne : g4 ≠ w2.heap.size := by
        have h := own_blk_ne HS.out.2.1 HS.out.2.2.1 (by decide)
        simp only [Value.ownBlock] at h
        intro h2; exact h (by rw [h2])
      simp only [nextC, stepC, Option.isSome, Bool.true_or]
      have HM := Lib.hid (show QedM w n es A c (some ⟨g4, 0, none⟩) c4 w2.heap.size (.slice A6 l.length c6) l r g w3 from HS.out.2)
      have hm6 := (HM.out.alloc (.cells #[.int .i64 e, .int .i64 f, .int .i64 (-1)] 42)).alloc (.cells #[.int .i64 e, .int .i64 f, .int .i64 (-1)] 42)
      have HM6 := Lib.hid hm6; clear hm6
      have hbn := Blk.new (w3.alloc (.cells #[.int .i64 e, .int .i64 f, .int .i64 (-1)] 42)) 42 (stepC e f (-1))
      rw [World.size_alloc] at hbn
      have HBN := Lib.hid hbn; clear hbn
      have hbm := (Blk.new w3 42 (stepC e f (-1))).alloc (.cells #[.int .i64 e, .int .i64 f, .int .i64 (-1)] 42)
      have HBM := Lib.hid hbm; clear hbm
      have HOB := Lib.hid (own_other HM.out.2.2.1 (Nat.le_refl w3.heap.size))
      have hne2 : g4 ≠ w3.heap.size := by omega
      have hne3 : w2.heap.size ≠ w3.heap.size := by omega
      have i1 : (0 : Int) ≤ (e : Int) := by omega
      have i2 : (e : Int) < (es.length : Int) := by omega
      go_wp2_with (at_builtin; refine app_qstep rfl _ _ rfl (w.heap.size + 1) (Value.slice A6 l.length c6) l rfl HM6.out.2.2.1 (w3.heap.size + 1) ((e : Int), (f : Int), -1) rfl HBN.out (by omega) HM6.out.2.2.2.2.2.1 ?_; intro v' w5 hown' hgr hor; obtain ⟨A7, c7, rfl⟩ := own_form hown'; have HM7 := Lib.hid (HM6.out.step hown' hgr); have HBM7 := Lib.hid (HBM.out.grown hgr HOB.out); clear hown' hgr hor; obtain ⟨k0, k2, x1, hsz5⟩ := redFacts HM7.out HBM7.out he HRL.out; have x2 := HM7.out.1.frozenAt e; have hs6 := HM7.out.2.1.lt; have x4 := HM7.out.2.1.frozen e; have x3 := HM7.out.2.1.cell e; rw [brow_get (by have := HGL.out; omega)] at x3)
      have hm := (HM7.out.row e 0 hb4 hne).gone e
      have HM9 := Lib.hid hm; clear hm
      go_roundg (meas n (r.set e 0) (g.set e true))
      case measure =>
        have h1 := meas_abs (n := n) (by rw [HGL.out, HRL.out]) HO.out
        have h2 := HI.out.1.2.1
        omega
      case rel =>
        have hL : (l ++ [((e : Int), (f : Int), (-1 : Int))]).length = l.length + 1 := by simp
        refine ⟨l ++ [((e : Int), (f : Int), -1)], r.set e 0, g.set e true, A7, c7, by rw [hL], Lib.hid ⟨⟨HI.out.1.1.abs HO.out, Nat.le_refl _, ?_, set_lt HI.out.1.2.2.2 (pow2_pos n)⟩, ?_⟩⟩
        · have h1 := meas_abs (n := n) (by rw [HGL.out, HRL.out]) HO.out
          have h2 := HI.out.1.2.2.1
          rw [hL]; omega
        · have h := HM9.out
          rw [hL] at h
          exact ⟨h.1, h.2.1, h.2.2.1, h.2.2.2⟩
    | none =>
      have HO := Lib.hid ho; clear ho
      have hp := hp rfl
      cases p with
      | none =>
        have HP := Lib.hid hp; clear hp
        simp only [nextC, stepC, Option.isSome, Bool.or_self]
        go_wp2_with fail
        go_ret2
        have hbw := al w3 (.cells #[.int .i64 0, .int .i64 0, .int .i64 0] 42)
        have hM := HS.out.new hbw
        have hE3 := (HE.out.new HBW3.out).new hbw
        exact ⟨l, r, g, A6, c6, A4, c4, HI.out.1.1, HO.out, HP.out, rfl, hM.2.2.2.1, hE3, hM.2.2.2.2.2.1⟩
      | some q =>
        obtain ⟨e, v⟩ := q
        have HIS := Lib.hid hp
        have he : e < es.length := by have := hp.2.1; have h2 := HRL.out; omega
        have hvn : v < n := hp.1
        clear hp
        obtain ⟨g4, cap, hv, hb4, hg4⟩ := HS.out.2.1.form (by omega)
        injection hv with hv1 _ hv2
        subst hv1; subst hv2
        have hgb := HS.out.2.2.1.lt
        have hne : g4 ≠ w2.heap.size := by
          have h := own_blk_ne HS.out.2.1 HS.out.2.2.1 (by decide)
          simp only [Value.ownBlock] at h
          intro h2; exact h (by rw [h2])
        simp only [nextC, stepC, Option.isSome, Bool.false_or]
        have HM := Lib.hid (show QedM w n es A c (some ⟨g4, 0, none⟩) c4 w2.heap.size (.slice A6 l.length c6) l r g w3 from HS.out.2)
        have hm6 := (HM.out.alloc (.cells #[.int .i64 e, .int .i64 (-1), .int .i64 v] 42)).alloc (.cells #[.int .i64 e, .int .i64 (-1), .int .i64 v] 42)
        have HM6 := Lib.hid hm6; clear hm6
        have hbn := Blk.new (w3.alloc (.cells #[.int .i64 e, .int .i64 (-1), .int .i64 v] 42)) 42 (stepC e (-1) v)
        rw [World.size_alloc] at hbn
        have HBN := Lib.hid hbn; clear hbn
        have hbm := (Blk.new w3 42 (stepC e (-1) v)).alloc (.cells #[.int .i64 e, .int .i64 (-1), .int .i64 v] 42)
        have HBM := Lib.hid hbm; clear hbm
        have HOB := Lib.hid (own_other HM.out.2.2.1 (Nat.le_refl w3.heap.size))
        have hne2 : g4 ≠ w3.heap.size := by omega
        have hne3 : w2.heap.size ≠ w3.heap.size := by omega
        have hre : e < r.length := by have := HRL.out; omega
        have HRX := Lib.hid (HE.out.2.2 _ (nth_mem hre))
        have i1 : (0 : Int) ≤ (e : Int) := by omega
        have i2 : (e : Int) < (es.length : Int) := by omega
        go_wp2_with (at_builtin; refine app_qstep rfl _ _ rfl (w.heap.size + 1) (Value.slice A6 l.length c6) l rfl HM6.out.2.2.1 (w3.heap.size + 1) ((e : Int), -1, (v : Int)) rfl HBN.out (by omega) HM6.out.2.2.2.2.2.1 ?_; intro v' w5 hown' hgr hor; obtain ⟨A7, c7, rfl⟩ := own_form hown'; have HM7 := Lib.hid (HM6.out.step hown' hgr); have HBM7 := Lib.hid (HBM.out.grown hgr HOB.out); clear hown' hgr hor; obtain ⟨k0, k2, x1, hsz5⟩ := redFacts HM7.out HBM7.out he HRL.out; have x2 := HM7.out.1.frozenAt e; have hs6 := HM7.out.2.1.lt)
        have hms := meas_iso (n := n) (g := g) (by omega) HE.out.2.2 HIS.out
        go_region
        rw [andn_sub HRX.out (by omega) HIS.out.2.2.1]
        have hm := HM7.out.row e (andn (nth r e) (2 ^ v)) hb4 hne
        have HM9 := Lib.hid hm.drew; clear hm
        go_wp2_with fail
        go_roundg (meas n (r.set e (andn (nth r e) (2 ^ v))) g)
        case measure =>
          have h2 := HI.out.1.2.1
          omega
        case rel =>
          have hL : (l ++ [((e : Int), (-1 : Int), (v : Int))]).length = l.length + 1 := by simp
          refine ⟨l ++ [((e : Int), -1, (v : Int))], r.set e (andn (nth r e) (2 ^ v)), g, A7, c7, by rw [hL], Lib.hid ⟨⟨HI.out.1.1.iso HO.out HIS.out, Nat.le_refl _, ?_, set_lt HI.out.1.2.2.2 ?_⟩, ?_⟩⟩
          · have h2 := HI.out.1.2.2.1
            rw [hL]; omega
          · exact Nat.lt_of_le_of_lt Nat.and_le_left (HI.out.1.2.2.2 _ (nth_mem hre))
          · have h := HM9.out
            rw [hL] at h
            exact ⟨h.1, h.2.1, h.2.2.1, h.2.2.2⟩
end Go.Proofs.Ytkiahnffepbgpaa
