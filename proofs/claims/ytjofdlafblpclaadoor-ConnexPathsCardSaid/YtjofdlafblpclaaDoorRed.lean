/-
  Contract of hypergraph.Reduce.
-/
import Derived.Test.YtjofdlafblpclaaDoorFew
import Derived.Test.YtjofdlafblpclaaDoorAbs
import Derived.Deep.LoopGhost
namespace Go.Proofs.YtjofdlafblpclaaDoor
open Go.RowKit

def S3 (l : List (Int × Int × Int)) : List Value := l.flatMap fun t => [Value.int .i64 t.1, Value.int .i64 t.2.1, Value.int .i64 t.2.2]
theorem S3_append (l r : List (Int × Int × Int)) : S3 (l ++ r) = S3 l ++ S3 r := by simp [S3, List.flatMap_append]
theorem info_step : (Tryd.prog.info? 76).map (fun i => (i.zero, i.size, i.bytes)) = some (some (.agg #[.int .i64 0, .int .i64 0, .int .i64 0]), 3, 24) := by kernel_rfl
section
variable {ops : Array Oper} {rest : List Oper} {o : Oper} {a : Act} {w : World} {Q : Exit → Act → World → Prop}
/-- append(v, s): one step onto a row of the call's own. -/
theorem app_step (hgd : o.guard = none) (s x : Operand) (ho : o.op = .call { callee := .builtin .append, args := #[s, x], argTypes := #[52, 52] })
    (base : Nat) (v : Value) (l : List (Int × Int × Int)) (hs : a.eval s = v) (hown : w.ownsRow base 76 3 v l.length (S3 l)) (g : Nat) (t : Int × Int × Int) (hx : a.eval x = .slice (some ⟨g, 0, none⟩) 1 1) (hb : Blk w g 76 (stepC t.1 t.2.1 t.2.2))
    (hk : l.length ≤ 1000000) (hbase : base ≤ w.heap.size)
    (h : ∀ v' w', w'.ownsRow base 76 3 v' (l ++ [t]).length (S3 (l ++ [t])) → w.grownBy w' v.ownBlock → (v'.ownBlock = v.ownBlock ∨ v'.ownBlock = some w.heap.size) → wpList Tryd.prog ops Q rest (a.put o.dst v') w') : wpList Tryd.prog ops Q (o :: rest) a w := by
  obtain ⟨i, hi, hz, hs1, hby⟩ := info_parts info_step
  have hr : Reads w w.heap.size 3 (some ⟨g, 0, none⟩) 1 (S3 [t]) := ⟨rfl, fun _ => ⟨_, rfl, hb.lt, fun j u hu => by
    have e : (Addr.add ⟨g, 0, none⟩ j) = ⟨g, j, none⟩ := by unfold Addr.add; split <;> simp_all
    rw [e, hb.cell]; simpa [S3, stepC] using hu⟩⟩
  refine wpList_append_any w hgd s x 52 ho base 76 i _ 3 24 Tryd.underlying52 hi hz hs1 hby rfl (by omega) v l.length (S3 l) hs hown w.heap.size _ 1 1 _ hx hr (by simp [S3]; exact ⟨rfl, rfl, rfl⟩) (by simp only [maxLen]; omega) (by omega) hbase ?_
  intro v' w' h1 h2 h3
  exact h v' w' (by rw [S3_append, List.length_append]; exact h1) h2 h3
end
theorem own_nilS (w : World) (base : Nat) (e : TypeId) : w.ownsRow base e 3 (.slice none 0 0) 0 [] := ⟨rfl, .inl ⟨rfl, rfl⟩⟩

/-- What stands at the head of Reduce's loop. -/
def RedSt (w : World) (n : Nat) (es : List Nat) (A : Option Addr) (c : Nat) (A4 : Option Addr) (c4 gb : Nat) (k : Nat) (v : Value) (wr : World) (l : List (Int × Int × Int)) (r : List Nat) (g : List Bool) : Prop :=
  (Run n es (List.replicate es.length false) l r g ∧ meas n r g ≤ k ∧ l.length + meas n r g ≤ 2112 ∧ (∀ x ∈ r, x < 2 ^ n)) ∧
  wr.ownsRow (w.heap.size + 1) 42 1 (.slice A4 es.length c4) es.length (U32 r) ∧ Blk wr gb 4 (brow g) ∧ wr.ownsRow (w.heap.size + 1) 76 3 v l.length (S3 l) ∧
  GB wr w.heap.size 24 (.int .i64 n) (.slice A es.length c) ∧ Below w.heap.size w wr ∧ w.heap.size + 1 ≤ wr.heap.size ∧ w.heap.size + 1 ≤ gb
theorem RedSt.new {w : World} {n : Nat} {es : List Nat} {A : Option Addr} {c : Nat} {A4 : Option Addr} {c4 gb k : Nat} {v : Value} {wr w' : World} {l : List (Int × Int × Int)} {r : List Nat} {g : List Bool} (h : RedSt w n es A c A4 c4 gb k v wr l r g) (hb : Below wr.heap.size wr w') : RedSt w n es A c A4 c4 gb k v w' l r g :=
  ⟨h.1, own_below h.2.1 hb, h.2.2.1.below hb h.2.2.1.lt, own_below h.2.2.2.1 hb, h.2.2.2.2.1.new hb, bthen h.2.2.2.2.2.1 hb h.2.2.2.2.2.1.size, Nat.le_trans h.2.2.2.2.2.2.1 hb.size, h.2.2.2.2.2.2.2⟩
theorem set_lt {r : List Nat} {n e x : Nat} (h : ∀ y ∈ r, y < 2 ^ n) (hx : x < 2 ^ n) : ∀ y ∈ r.set e x, y < 2 ^ n := by
  intro y hy
  rcases List.mem_or_eq_of_mem_set hy with h1 | rfl
  · exact h y h1
  · exact hx
theorem U32_set (r : List Nat) (e x : Nat) : (U32 r).set e (.int .u32 (x : Int)) = U32 (r.set e x) := by simp [U32, List.map_set]
/-- What stands beside the row of steps. -/
def RedM (w : World) (n : Nat) (es : List Nat) (A : Option Addr) (c : Nat) (A4 : Option Addr) (c4 gb : Nat) (v : Value) (l : List (Int × Int × Int)) (r : List Nat) (g : List Bool) (wr : World) : Prop :=
  wr.ownsRow (w.heap.size + 1) 42 1 (.slice A4 es.length c4) es.length (U32 r) ∧ Blk wr gb 4 (brow g) ∧ wr.ownsRow (w.heap.size + 1) 76 3 v l.length (S3 l) ∧
  GB wr w.heap.size 24 (.int .i64 n) (.slice A es.length c) ∧ Below w.heap.size w wr ∧ w.heap.size + 1 ≤ wr.heap.size ∧ w.heap.size + 1 ≤ gb
section
variable {w : World} {n : Nat} {es : List Nat} {A : Option Addr} {c : Nat} {A4 : Option Addr} {c4 gb : Nat} {v : Value} {l : List (Int × Int × Int)} {r : List Nat} {g : List Bool} {wr : World}
theorem RedM.alloc (h : RedM w n es A c A4 c4 gb v l r g wr) (o : Obj) : RedM w n es A c A4 c4 gb v l r g (wr.alloc o) :=
  ⟨h.1.alloc o, h.2.1.alloc o, h.2.2.1.alloc o, h.2.2.2.1.alloc o, h.2.2.2.2.1.alloc h.2.2.2.2.1.size o, by have := h.2.2.2.2.2.1; simp; omega, h.2.2.2.2.2.2⟩
theorem RedM.drew (h : RedM w n es A c A4 c4 gb v l r g wr) : RedM w n es A c A4 c4 gb v l r g wr.drew := ⟨h.1, h.2.1, h.2.2.1, h.2.2.2.1, h.2.2.2.2.1.drew, h.2.2.2.2.2⟩
theorem RedM.row {g4 : Nat} (h : RedM w n es A c (some ⟨g4, 0, none⟩) c4 gb v l r g wr) (e x : Nat) (h4 : w.heap.size + 1 ≤ g4) (hne : g4 ≠ gb) : RedM w n es A c (some ⟨g4, 0, none⟩) c4 gb v l (r.set e x) g (wr.setCell ⟨g4, e, none⟩ (.int .u32 (x : Int))) := by
  obtain ⟨h1, h2⟩ := World.ownsRow.stored h.1 e (.int .u32 (x : Int))
  rw [U32_set] at h1
  exact ⟨h1, h.2.1.far (p := ⟨g4, e, none⟩) (Ne.symm hne) _, own_grown_own h.2.2.1 h.1 (by decide) h2, h.2.2.2.1.far (p := ⟨g4, e, none⟩) (by show w.heap.size ≠ g4; omega) _, h.2.2.2.2.1.setCell (p := ⟨g4, e, none⟩) (by show w.heap.size ≤ g4; omega) _, by have := h.2.2.2.2.2.1; simpa [World.setCell] using this, h.2.2.2.2.2.2⟩
theorem RedM.gone (h : RedM w n es A c A4 c4 gb v l r g wr) (e : Nat) : RedM w n es A c A4 c4 gb v l r (g.set e true) (wr.setCell ⟨gb, e, none⟩ (.bool true)) := by
  have hb := h.2.1.set_ e (.bool true)
  rw [brow_set] at hb
  exact ⟨own_far h.1 h.2.1 (by decide) e _, hb, own_far h.2.2.1 h.2.1 (by decide) e _, h.2.2.2.1.far (p := ⟨gb, e, none⟩) (by have := h.2.2.2.2.2.2; show w.heap.size ≠ gb; omega) _, h.2.2.2.2.1.setCell (p := ⟨gb, e, none⟩) (by have := h.2.2.2.2.2.2; show w.heap.size ≤ gb; omega) _, by have := h.2.2.2.2.2.1; simpa [World.setCell] using this, h.2.2.2.2.2.2⟩
theorem RedM.step {w' : World} {v' : Value} {t : Int × Int × Int} (h : RedM w n es A c A4 c4 gb v l r g wr) (h1 : w'.ownsRow (w.heap.size + 1) 76 3 v' (l ++ [t]).length (S3 (l ++ [t]))) (h2 : wr.grownBy w' v.ownBlock) : RedM w n es A c A4 c4 gb v' (l ++ [t]) r g w' :=
  ⟨own_grown_own h.1 h.2.2.1 (by decide) h2, h.2.1.appended h.2.2.1 h2 (by decide), h1, h.2.2.2.1.appended h.2.2.1 h2 (by decide), Below.appended h.2.2.2.2.1 h.2.2.1 h2 h.2.2.2.2.1.size (by omega), Nat.le_trans h.2.2.2.2.2.1 h2.size, h.2.2.2.2.2.2⟩
end
def RetRed (w : World) (n : Nat) (es : List Nat) (e : Ending) (w' : World) : Prop :=
  ∃ l r g A6 c6 A4 c4, Run n es (List.replicate es.length false) l r g ∧ AbsSpec r g none ∧ IsoSpec n r none ∧ e = .returned (.tuple #[.slice A6 l.length c6, .slice A4 es.length c4]) ∧
    w'.ownsRow (w.heap.size + 1) 76 3 (.slice A6 l.length c6) l.length (S3 l) ∧ Es w' w'.heap.size A4 es.length r ∧ Below w.heap.size w w'

set_option maxRecDepth 100000 in
set_option maxHeartbeats 4000000 in
theorem reduce_ok (n : Nat) (A : Option Addr) (es : List Nat) (len c : Nat) (w : World) (hr : Es w w.heap.size A len es) (hcc : checkCode n es = 0) :
    Calls Tryd.prog 28 #[.agg #[.int .i64 n, .slice A len c]] w (RetRed w n es) := by
  obtain ⟨_, hn, hl64, hbd⟩ := checkCode_zero hcc
  have hlen := hr.len
  subst hlen
  have hbd2 : ∀ e ∈ es, e < 2 ^ n := by simpa using hbd
  have HBD := Lib.hid hbd2; clear hbd hbd2
  have HCC := Lib.hid hcc; clear hcc
  have HR := Lib.hid hr; clear hr
  have hmk := mk_bool es.length (by omega)
  have HW := Lib.hid (al w (.cells #[.int .i64 n, .slice A es.length c] 24))
  have HG := Lib.hid (GB.made w 24 (.int .i64 n) (.slice A es.length c))
  go_enter Tryd.func28, Tryd.ntmps28
  go_wp2_with fail
  refine (check_any n A es es.length c _ (HR.out.new HW.out)).mono ?_
  rintro e w1 ⟨rfl, hb⟩
  rw [HCC.out]
  have HG1 := Lib.hid (HG.out.new hb)
  have HB1 := Lib.hid (bthen HW.out hb (by simp)); clear hb
  have g0 := HG1.out.c0; have g1 := HG1.out.c1; have glt := HG1.out.lt
  go_wp2_with fail
  refine (clone_u32 A es es.length c _ (HR.out.new HB1.out) (by omega)).mono ?_
  rintro e w2 ⟨A4, c4, rfl, hown, hb⟩
  have HG2 := Lib.hid (HG1.out.new hb)
  have HO2 := Lib.hid (own_lower (base' := w.heap.size + 1) hown glt)
  have HB2 := Lib.hid (bthen HB1.out hb HB1.out.size)
  have hz2 : w.heap.size + 1 ≤ w2.heap.size := Nat.le_trans glt hb.size
  clear hb hown g0 g1 hmk
  have hmk := mk_bool es.length (by omega)
  go_wp2_with fail
  clear hmk
  go_loopg [6, 7, 8] (meas n es (List.replicate es.length false)) (fun k v _ _ wr => ∃ l r g A6 c6, v = .slice A6 l.length c6 ∧ Hid (RedSt w n es A c A4 c4 w2.heap.size k v wr l r g))
  case atStart =>
    refine ⟨[], es, List.replicate es.length false, none, 0, rfl, Lib.hid ⟨⟨.nil, Nat.le_refl _, ?_, HBD.out⟩, HO2.out.alloc _, Blk.new _ _ _, own_nilS _ _ _, HG2.out.alloc _, HB2.out.alloc (by omega) _, by simp; omega, hz2⟩⟩
    have := meas_le (n := n) (r := es) (g := List.replicate es.length false)
    rw [List.length_replicate] at this
    have h2 : es.length * n ≤ 64 * 32 := Nat.mul_le_mul (by omega) (by omega)
    simp; omega
  case round =>
    obtain ⟨l, r, g, A6, c6, rfl, HI⟩ := hrel
    have hll : l.length ≤ 2112 := by have := HI.out.1.2.2.1; omega
    obtain ⟨hrl, hgl⟩ := HI.out.1.1.lengths
    rw [List.length_replicate] at hgl
    have hE : Es wr wr.heap.size A4 es.length r := ⟨Reads.of_own HI.out.2.1, ⟨hrl.symm, by omega⟩, fun e he => Nat.lt_of_lt_of_le (HI.out.1.2.2.2 e he) (Nat.le_trans (two_pow_le (show n ≤ 32 by omega)) (by decide))⟩
    have HE := Lib.hid hE; clear hE
    have HRL := Lib.hid hrl; have HGL := Lib.hid hgl; clear hrl hgl
    go_wp2_with fail
    refine (absorb_any A4 r es.length c4 w2.heap.size es.length g wr HE.out HI.out.2.2.1 (by rw [HRL.out, HGL.out])).mono ?_
    rintro e w3 ⟨o, ho, rfl, hb⟩
    have HS := Lib.hid (HI.out.new hb)
    have hz3 := hb.size
    have HBW3 := Lib.hid hb; clear hb
    cases o with
    | some p =>
      obtain ⟨e, f⟩ := p
      have HO := Lib.hid ho
      have he : e < es.length := by have := ho.1; have h2 := HRL.out; omega
      clear ho
      obtain ⟨g4, cap, hv, hb4, hg4⟩ := HS.out.2.1.form (by omega)
      injection hv with hv1 _ hv2
      subst hv1; subst hv2
      have hgb := HS.out.2.2.1.lt
      have hne : g4 ≠ w2.heap.size := by
        have h := own_blk_ne HS.out.2.1 HS.out.2.2.1 (by decide)
        simp only [Value.ownBlock] at h
        intro h2; exact h (by rw [h2])
      have x1 : w3.cell? ⟨g4, e, none⟩ = some (.int .u32 (nth r e : Int)) := by
        rw [HS.out.2.1.cellAt e (by omega)]
        have h1 : e < r.length := by have := HRL.out; omega
        simp [U32, nth, List.getD, h1]
      have x2 := HS.out.2.1.frozenAt e
      have x3 : w3.cell? ⟨w2.heap.size, e, none⟩ = some (.bool (bnth g e)) := by rw [HS.out.2.2.1.cell, brow_get (by have := HGL.out; omega)]
      have x4 := HS.out.2.2.1.frozen e
      simp only [absC, stepC, Option.isSome]
      have HM := Lib.hid (show RedM w n es A c (some ⟨g4, 0, none⟩) c4 w2.heap.size (.slice A6 l.length c6) l r g w3 from HS.out.2)
      have hm4 := (HM.out.row e 0 hb4 hne).gone e
      have HM4 := Lib.hid hm4; clear hm4
      have hm6 := (HM4.out.alloc (.cells #[.int .i64 e, .int .i64 f, .int .i64 (-1)] 76)).alloc (.cells #[.int .i64 e, .int .i64 f, .int .i64 (-1)] 76)
      have HM6 := Lib.hid hm6; clear hm6
      have hbn := Blk.new (((w3.setCell ⟨g4, e, none⟩ (.int .u32 ((0 : Nat) : Int))).setCell ⟨w2.heap.size, e, none⟩ (.bool true)).alloc (.cells #[.int .i64 e, .int .i64 f, .int .i64 (-1)] 76)) 76 (stepC e f (-1))
      rw [World.size_alloc] at hbn
      have hsz : ((w3.setCell ⟨g4, e, none⟩ (.int .u32 ((0 : Nat) : Int))).setCell ⟨w2.heap.size, e, none⟩ (.bool true)).heap.size = w3.heap.size := by simp [World.setCell]
      rw [hsz] at hbn
      have HBN := Lib.hid hbn; clear hbn hsz
      go_wp2_with (at_builtin; refine app_step rfl _ _ rfl (w.heap.size + 1) (Value.slice A6 l.length c6) l rfl HM6.out.2.2.1 (w3.heap.size + 1) ((e : Int), (f : Int), -1) rfl HBN.out (by omega) HM6.out.2.2.2.2.2.1 ?_; intro v' w5 hown' hgr hor; obtain ⟨A7, c7, rfl⟩ := own_form hown'; have HM7 := Lib.hid (HM6.out.step hown' hgr); clear hown' hgr hor)
      go_roundg (meas n (r.set e 0) (g.set e true))
      case measure =>
        have h1 := meas_abs (n := n) (by rw [HGL.out, HRL.out]) HO.out
        have h2 := HI.out.1.2.1
        omega
      case rel =>
        have hL : (l ++ [((e : Int), (f : Int), (-1 : Int))]).length = l.length + 1 := by simp
        refine ⟨l ++ [((e : Int), (f : Int), -1)], r.set e 0, g.set e true, A7, c7, by rw [hL], Lib.hid ⟨⟨HI.out.1.1.abs HO.out, Nat.le_refl _, ?_, set_lt HI.out.1.2.2.2 (pow2_pos n)⟩, ?_⟩⟩
        · have h1 := meas_abs (n := n) (by rw [HGL.out, HRL.out]) HO.out
          have h2 := HI.out.1.2.2.1
          rw [hL]; omega
        · have h := HM7.out
          rw [hL] at h
          exact ⟨h.1, h.2.1, h.2.2.1, h.2.2.2⟩
    | none =>
      have HO := Lib.hid ho; clear ho
      have g0 := HS.out.2.2.2.2.1.c0
      have glt3 := HS.out.2.2.2.2.1.lt
      have hz3 := HS.out.2.2.2.2.2.2.1
      have HM := Lib.hid (show RedM w n es A c A4 c4 w2.heap.size (.slice A6 l.length c6) l r g w3 from HS.out.2)
      have HE3 := Lib.hid (HE.out.new HBW3.out)
      simp only [absC, stepC, Option.isSome]
      go_wp2_with fail
      refine (isolate_any n A4 r es.length c4 _ (HE3.out.new (al _ _)) (by omega)).mono ?_
      rintro e w4 ⟨o, ho, rfl, hb⟩
      have hb' := bthen (al w3 (.cells #[.int .i64 0, .int .i64 0, .int .i64 0] 76)) hb (by simp)
      have hst : Blk w4 w3.heap.size 76 (stepC 0 0 0) := (Blk.new w3 76 (stepC 0 0 0)).below hb (by simp)
      have HBP := Lib.hid hb'
      clear hb hb' g0 HM
      have k0 : w4.cell? ⟨w3.heap.size, 0, none⟩ = some (.int .i64 0) := (hst.cell 0).trans rfl
      have k1 : w4.cell? ⟨w3.heap.size, 1, none⟩ = some (.int .i64 0) := (hst.cell 1).trans rfl
      have k2 : w4.cell? ⟨w3.heap.size, 2, none⟩ = some (.int .i64 0) := (hst.cell 2).trans rfl
      have f0 := hst.frozen 0; have f1 := hst.frozen 1; have f2 := hst.frozen 2
      have HST := Lib.hid hst; clear hst
      cases o with
      | none =>
        have HO2 := Lib.hid ho; clear ho
        simp only [isoC, stepC, Option.isSome]
        go_wp2_with fail
        go_ret2
        have hbw := three_below HBP.out (Nat.le_refl _) (.int .i64 0) (.int .i64 0) (.int .i64 0)
        have hM := HS.out.new hbw
        exact ⟨l, r, g, A6, c6, A4, c4, HI.out.1.1, HO.out, HO2.out, rfl, hM.2.2.2.1, HE3.out.new hbw, hM.2.2.2.2.2.1⟩
      | some p =>
        obtain ⟨e, v⟩ := p
        have HIS := Lib.hid ho
        have he : e < es.length := by have := ho.2.1; have h2 := HRL.out; omega
        have hvn : v < n := ho.1
        clear ho
        simp only [isoC, stepC, Option.isSome]
        go_wp2_with fail
        obtain ⟨wq, hwq⟩ : ∃ wq : World, wq = ((w4.setCell ⟨w3.heap.size, 0, none⟩ (.int .i64 e)).setCell ⟨w3.heap.size, 1, none⟩ (.int .i64 (-1))).setCell ⟨w3.heap.size, 2, none⟩ (.int .i64 v) := ⟨_, rfl⟩
        rw [← hwq]
        have hbw : Below w3.heap.size w3 wq := by rw [hwq]; exact three_below HBP.out (Nat.le_refl _) _ _ _
        have hst : Blk wq w3.heap.size 76 (stepC e (-1) v) := by rw [hwq]; exact three_set HST.out e (-1) v
        have HM := Lib.hid (show RedM w n es A c A4 c4 w2.heap.size (.slice A6 l.length c6) l r g wq from (HS.out.new hbw).2)
        clear k0 k1 k2 f0 f1 f2 HST hwq hbw
        obtain ⟨g4, cap, hv, hb4, hg4⟩ := HM.out.1.form (by omega)
        injection hv with hv1 _ hv2
        subst hv1; subst hv2
        have hgb := HM.out.2.1.lt
        have hslt := hst.lt
        have hne : g4 ≠ w2.heap.size := by
          have h := own_blk_ne HM.out.1 HM.out.2.1 (by decide)
          simp only [Value.ownBlock] at h
          intro h2; exact h (by rw [h2])
        have hne2 : g4 ≠ w3.heap.size := by
          have h := own_blk_ne HM.out.1 hst (by decide)
          simp only [Value.ownBlock] at h
          intro h2; exact h (by rw [h2])
        have hre : e < r.length := by have := HRL.out; omega
        have hrx : nth r e < 4294967296 := HE.out.2.2 _ (nth_mem hre)
        have x1 : wq.cell? ⟨g4, e, none⟩ = some (.int .u32 (nth r e : Int)) := by
          rw [HM.out.1.cellAt e (by omega)]
          simp [U32, nth, List.getD, hre]
        have x2 := HM.out.1.frozenAt e
        have k0 : wq.cell? ⟨w3.heap.size, 0, none⟩ = some (.int .i64 e) := (hst.cell 0).trans rfl
        have k1 : wq.cell? ⟨w3.heap.size, 1, none⟩ = some (.int .i64 (-1)) := (hst.cell 1).trans rfl
        have k2 : wq.cell? ⟨w3.heap.size, 2, none⟩ = some (.int .i64 v) := (hst.cell 2).trans rfl
        have HST := Lib.hid hst; clear hst
        have HRX := Lib.hid hrx; clear hrx
        have i1 : (0 : Int) ≤ (e : Int) := by omega
        have i2 : (e : Int) < (es.length : Int) := by omega
        go_region
        rw [shl_mod v (by omega), bits_andNot _ _ HRX.out (pow2_lt32 (by omega))]
        obtain ⟨wz, hwz⟩ : ∃ wz : World, wz = (wq.setCell ⟨g4, e, none⟩ (.int .u32 (andn (nth r e) (2 ^ v) : Nat))).drew := ⟨_, rfl⟩
        rw [← hwz]
        have HMZ := Lib.hid (show RedM w n es A c (some ⟨g4, 0, none⟩) c4 w2.heap.size (.slice A6 l.length c6) l (r.set e (andn (nth r e) (2 ^ v))) g wz by rw [hwz]; exact (HM.out.row e _ hb4 hne).drew)
        have hsz : Blk wz w3.heap.size 76 (stepC e (-1) v) := by rw [hwz]; exact (HST.out.far (p := ⟨g4, e, none⟩) (Ne.symm hne2) _).drew
        clear hwz x1 x2 k0 k1 k2 HM HST i1 i2
        have k0 : wz.cell? ⟨w3.heap.size, 0, none⟩ = some (.int .i64 e) := (hsz.cell 0).trans rfl
        have k1 : wz.cell? ⟨w3.heap.size, 1, none⟩ = some (.int .i64 (-1)) := (hsz.cell 1).trans rfl
        have k2 : wz.cell? ⟨w3.heap.size, 2, none⟩ = some (.int .i64 v) := (hsz.cell 2).trans rfl
        clear hsz
        have HM6 := Lib.hid (HMZ.out.alloc (.cells #[.int .i64 e, .int .i64 (-1), .int .i64 v] 76))
        go_wp2_with (at_builtin; refine app_step rfl _ _ rfl (w.heap.size + 1) (Value.slice A6 l.length c6) l rfl HM6.out.2.2.1 wz.heap.size ((e : Int), -1, (v : Int)) rfl (Blk.new _ _ _) (by omega) HM6.out.2.2.2.2.2.1 ?_; intro v' w5 hown' hgr hor; obtain ⟨A7, c7, rfl⟩ := own_form hown'; have HM7 := Lib.hid (HM6.out.step hown' hgr); clear hown' hgr hor)
        have hms := meas_iso (n := n) (g := g) (by omega) HE.out.2.2 HIS.out
        go_roundg (meas n (r.set e (andn (nth r e) (2 ^ v))) g)
        case measure =>
          have h2 := HI.out.1.2.1
          omega
        case rel =>
          have hL : (l ++ [((e : Int), (-1 : Int), (v : Int))]).length = l.length + 1 := by simp
          refine ⟨l ++ [((e : Int), -1, (v : Int))], r.set e (andn (nth r e) (2 ^ v)), g, A7, c7, by rw [hL], Lib.hid ⟨⟨HI.out.1.1.iso HO.out HIS.out, Nat.le_refl _, ?_, set_lt HI.out.1.2.2.2 ?_⟩, ?_⟩⟩
          · have h2 := HI.out.1.2.2.1
            rw [hL]; omega
          · exact Nat.lt_of_le_of_lt Nat.and_le_left (HI.out.1.2.2.2 _ (nth_mem hre))
          · have h := HM7.out
            rw [hL] at h
            exact ⟨h.1, h.2.1, h.2.2.1, h.2.2.2⟩

end Go.Proofs.YtjofdlafblpclaaDoor
