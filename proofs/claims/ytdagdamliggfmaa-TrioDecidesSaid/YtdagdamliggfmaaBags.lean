/-
  Contract of elimination.Bags without a permutation: from the last vertex to the first one.
-/
import Derived.Test.YtdagdamliggfmaaElim
import Derived.Test.YtdagdamliggfmaaMk
namespace Go.Proofs.Ytdagdamliggfmaa
open Go.RowKit
set_option linter.unusedSimpArgs false
set_option linter.unusedVariables false

theorem info_bag : (Try.prog.info? 59).map (fun i => (i.zero, i.size, i.bytes)) = some (some (.agg #[.int .i64 0, .int .u32 0, .int .i64 0]), 3, 24) := by kernel_rfl
theorem mk_bag (n : Nat) (hn : n ≤ 1000000) (W : World) : ∃ cs : Array Value, (Instr.makeSlice 55 (.int .i64 (n : Int)) (.int .i64 (n : Int))).run Try.prog W = .ok (.slice (some ⟨W.heap.size, 0, none⟩) n n) (W.alloc (.cells cs 59)) ∧ cs.size = n * 3 := by
  obtain ⟨i, hi, hz, hs, hb⟩ := info_parts info_bag
  have h := run_make_rowN (P := Try.prog) 55 59 i (.agg #[.int .i64 0, .int .u32 0, .int .i64 0]) Try.underlying55 hi hz .i64 .i64 n n (Nat.le_refl _) (by rw [hb]; omega) (by omega) W
  rw [hs] at h
  exact ⟨_, h, size_madeCells _ _⟩
theorem copy_none (g : Nat) (W : World) : (Builtin.copy_ #[25, 25] 3 #[.slice (some ⟨g, 0, none⟩) 32 32, .slice none 0 0]).run Try.prog W = .ok (.int .i64 0) W := by
  obtain ⟨i, hi, _⟩ := info_parts info_int
  simp [Builtin.copy_, run_underlying Try.underlying25, Builtin.lenOf, Builtin.firstCells, sizeOf, typeInfo, goInt, storeCells, hi]
/-- The memory of Bags: the graph, the order and the places. -/
structure BW (w : World) (n : Nat) (A : Option Addr) (len c g12 g13 : Nat) (O P : List Int) (wr : World) : Prop where
  gb : GB wr w.heap.size 24 (.int .i64 n) (.slice A len c)
  bo : Blk wr g12 80 (irow O)
  bp : Blk wr g13 80 (irow P)
  lo : O.length = 32
  lp : P.length = 32
  below : Below w.heap.size w wr
section
variable {w wr w' : World} {n : Nat} {A : Option Addr} {len c g12 g13 : Nat} {O P : List Int}
theorem BW.setO (h : BW w n A len c g12 g13 O P wr) (hg : w.heap.size < g12 ∧ g12 < g13) (k : Nat) (x : Int) : BW w n A len c g12 g13 (O.set k x) P (wr.setCell ⟨g12, k, none⟩ (.int .i64 x)) := by
  have hs := h.bo.set_ k (.int .i64 x)
  rw [irow_set] at hs
  exact ⟨h.gb.far (p := ⟨g12, k, none⟩) (Nat.ne_of_lt hg.1) _, hs, h.bp.far (p := ⟨g12, k, none⟩) (Ne.symm (Nat.ne_of_lt hg.2)) _, by simp [h.lo], h.lp, h.below.setCell (p := ⟨g12, k, none⟩) (Nat.le_of_lt hg.1) _⟩
theorem BW.setP (h : BW w n A len c g12 g13 O P wr) (hg : w.heap.size < g12 ∧ g12 < g13) (k : Nat) (x : Int) : BW w n A len c g12 g13 O (P.set k x) (wr.setCell ⟨g13, k, none⟩ (.int .i64 x)) := by
  have hs := h.bp.set_ k (.int .i64 x)
  rw [irow_set] at hs
  exact ⟨h.gb.far (p := ⟨g13, k, none⟩) (Nat.ne_of_lt (Nat.lt_trans hg.1 hg.2)) _, h.bo.far (p := ⟨g13, k, none⟩) (Nat.ne_of_lt hg.2) _, hs, h.lo, by simp [h.lp], h.below.setCell (p := ⟨g13, k, none⟩) (Nat.le_of_lt (Nat.lt_trans hg.1 hg.2)) _⟩
theorem BW.new (h : BW w n A len c g12 g13 O P wr) (hb : Below wr.heap.size wr w') : BW w n A len c g12 g13 O P w' :=
  ⟨h.gb.new hb, h.bo.below hb h.bo.lt, h.bp.below hb h.bp.lt, h.lo, h.lp, bthen h.below hb h.below.size⟩
/-- A store into another block. -/
theorem BW.far (h : BW w n A len c g12 g13 O P wr) {p : Addr} (h0 : w.heap.size < p.block) (h1 : g12 ≠ p.block) (h2 : g13 ≠ p.block) (x : Value) : BW w n A len c g12 g13 O P (wr.setCell p x) :=
  ⟨h.gb.far (Nat.ne_of_lt h0) _, h.bo.far h1 _, h.bp.far h2 _, h.lo, h.lp, h.below.setCell (Nat.le_of_lt h0) _⟩
theorem BW.drew (h : BW w n A len c g12 g13 O P wr) : BW w n A len c g12 g13 O P wr.drew := ⟨h.gb, h.bo, h.bp, h.lo, h.lp, h.below.drew⟩
theorem BW.co (h : BW w n A len c g12 g13 O P wr) {k : Nat} (hk : k < 32) : wr.cell? ⟨g12, k, none⟩ = some (.int .i64 (inth O k)) ∧ wr.frozen? ⟨g12, k, none⟩ = false := ⟨by rw [h.bo.cell, irow_get (by rw [h.lo]; exact hk)], h.bo.frozen k⟩
theorem BW.cp (h : BW w n A len c g12 g13 O P wr) {k : Nat} (hk : k < 32) : wr.cell? ⟨g13, k, none⟩ = some (.int .i64 (inth P k)) ∧ wr.frozen? ⟨g13, k, none⟩ = false := ⟨by rw [h.bp.cell, irow_get (by rw [h.lp]; exact hk)], h.bp.frozen k⟩
end
/-- What Bags answers: a row of bags, each of them the key of its vertex. -/
def RetBags (w : World) (n : Nat) (es : List Nat) (e : Ending) (w' : World) : Prop :=
  ∃ g cs, e = .returned (.tuple #[.slice (some ⟨g, 0, none⟩) n n, .int .i64 0]) ∧ Blk w' g 59 cs ∧ cs.size = n * 3 ∧ (∀ v, v < n → ∃ k p, cs[v * 3]? = some (.int .i64 (v : Int)) ∧ cs[v * 3 + 1]? = some (.int .u32 (k : Nat)) ∧ cs[v * 3 + 2]? = some (.int .i64 p) ∧ Key n es v k) ∧ Below w.heap.size w w'
/-- .. with the neighbors and the bags. -/
structure BM (w : World) (n : Nat) (es : List Nat) (A : Option Addr) (len c g12 g13 g16 g17 : Nat) (O P : List Int) (m : Nat) (nb : List Nat) (cs : Array Value) (wr : World) : Prop where
  bw : BW w n A len c g12 g13 O P wr
  bn : Blk wr g16 76 (urow nb)
  bc : Blk wr g17 59 cs
  sz : cs.size = n * 3
  elm : Elm n es m nb
  keys : ∀ v, m ≤ v → v < n → ∃ k p, cs[v * 3]? = some (.int .i64 (v : Int)) ∧ cs[v * 3 + 1]? = some (.int .u32 (k : Nat)) ∧ cs[v * 3 + 2]? = some (.int .i64 p) ∧ Key n es v k
theorem bit_zero (e v : Nat) (he : e < 2 ^ 32) : (bits .and .u32 ((e : Int) / 2 ^ v) 1 == 0) = !e.testBit v := by
  rw [bits_and_one e v he]
  cases e.testBit v <;> rfl
/-- The elimination of one vertex, after the first u vertices. -/
structure BI (w : World) (n : Nat) (es : List Nat) (A : Option Addr) (len c g12 g13 g16 g17 g20 : Nat) (O P : List Int) (nb : List Nat) (cs : Array Value) (v K u : Nat) (nb' : List Nat) (pr : Int) (wr : World) : Prop where
  bw : BW w n A len c g12 g13 O P wr
  bn : Blk wr g16 76 (urow nb')
  bc : Blk wr g17 59 cs
  bb : Blk wr g20 59 #[.int .i64 (v : Int), .int .u32 (K : Int), .int .i64 pr]
  ln : nb'.length = 32
  eq : ∀ x, x < 32 → nth nb' x = if x < u then elim1 n nb v x else nth nb x
section
variable {w wr w' : World} {n : Nat} {es : List Nat} {A : Option Addr} {len c g12 g13 g16 g17 g20 : Nat} {O P : List Int} {nb nb' : List Nat} {cs : Array Value} {v K u : Nat} {pr : Int}
theorem BI.skip (h : BI w n es A len c g12 g13 g16 g17 g20 O P nb cs v K u nb' pr wr) (hK : K = nth nb v) (hb : K.testBit u = false) : BI w n es A len c g12 g13 g16 g17 g20 O P nb cs v K (u + 1) nb' pr wr :=
  ⟨h.bw, h.bn, h.bc, h.bb, h.ln, fun x hx => by
    rw [h.eq x hx]
    by_cases hxu : x = u
    · subst hxu
      rw [if_neg (by omega), if_pos (by omega), elim1, if_neg]
      rintro ⟨_, h2⟩
      rw [← hK, hb] at h2; cases h2
    · by_cases h2 : x < u
      · rw [if_pos h2, if_pos (by omega)]
      · rw [if_neg h2, if_neg (by omega)]⟩
theorem BI.drew (h : BI w n es A len c g12 g13 g16 g17 g20 O P nb cs v K u nb' pr wr) : BI w n es A len c g12 g13 g16 g17 g20 O P nb cs v K u nb' pr wr.drew := ⟨h.bw.drew, h.bn, h.bc, h.bb, h.ln, h.eq⟩
theorem BI.drewN (h : BI w n es A len c g12 g13 g16 g17 g20 O P nb cs v K u nb' pr wr) (k : Nat) : BI w n es A len c g12 g13 g16 g17 g20 O P nb cs v K u nb' pr (wr.drewN k) :=
  ⟨⟨h.bw.gb, h.bw.bo, h.bw.bp, h.bw.lo, h.bw.lp, below_drewN h.bw.below k⟩, h.bn, h.bc, h.bb, h.ln, h.eq⟩
theorem BI.parent (h : BI w n es A len c g12 g13 g16 g17 g20 O P nb cs v K u nb' pr wr) (h0 : w.heap.size < g12 ∧ g12 < g13) (h1 : g13 < g16) (h2 : g16 < g17) (h3 : g17 < g20) (x : Int) : BI w n es A len c g12 g13 g16 g17 g20 O P nb cs v K u nb' x (wr.setCell ⟨g20, 2, none⟩ (.int .i64 x)) :=
  ⟨h.bw.far (p := ⟨g20, 2, none⟩) (by show w.heap.size < g20; omega) (by show g12 ≠ g20; omega) (by show g13 ≠ g20; omega) _, h.bn.far (p := ⟨g20, 2, none⟩) (by show g16 ≠ g20; omega) _, h.bc.far (p := ⟨g20, 2, none⟩) (by show g17 ≠ g20; omega) _, h.bb.set_ 2 (.int .i64 x), h.ln, h.eq⟩
theorem BI.write (h : BI w n es A len c g12 g13 g16 g17 g20 O P nb cs v K u nb' pr wr) (h0 : w.heap.size < g12 ∧ g12 < g13) (h1 : g13 < g16) (h2 : g16 < g17) (h3 : g17 < g20) (hu : u < n) (hn : n ≤ 32) (hK : K = nth nb v) (hb : K.testBit u = true) :
    BI w n es A len c g12 g13 g16 g17 g20 O P nb cs v K (u + 1) (nb'.set u (andn (nth nb' u ||| K) (2 ^ u ||| 2 ^ v))) pr (wr.setCell ⟨g16, u, none⟩ (.int .u32 ((andn (nth nb' u ||| K) (2 ^ u ||| 2 ^ v) : Nat) : Int))) := by
  have hs := h.bn.set_ u (.int .u32 ((andn (nth nb' u ||| K) (2 ^ u ||| 2 ^ v) : Nat) : Int))
  rw [urow_set] at hs
  refine ⟨h.bw.far (p := ⟨g16, u, none⟩) (by show w.heap.size < g16; omega) (by show g12 ≠ g16; omega) (by show g13 ≠ g16; omega) _, hs, h.bc.far (p := ⟨g16, u, none⟩) (by show g17 ≠ g16; omega) _, h.bb.far (p := ⟨g16, u, none⟩) (by show g20 ≠ g16; omega) _, by simp [h.ln], fun x hx => ?_⟩
  rw [nth_set (by rw [h.ln]; omega)]
  by_cases hxu : x = u
  · subst hxu
    rw [if_pos rfl, if_pos (by omega), h.eq x hx, if_neg (by omega), elim1, if_pos ⟨hu, by rw [← hK]; exact hb⟩, hK]
  · rw [if_neg hxu, h.eq x hx]
    by_cases h2 : x < u
    · rw [if_pos h2, if_pos (by omega)]
    · rw [if_neg h2, if_neg (by omega)]
end
def put3 (cs : Array Value) (v : Nat) (a b c : Value) : Array Value := ((cs.setIfInBounds (v * 3) a).setIfInBounds (v * 3 + 1) b).setIfInBounds (v * 3 + 2) c
theorem put3_at {cs : Array Value} {n v : Nat} (hs : cs.size = n * 3) (hv : v < n) (a b c : Value) : (put3 cs v a b c)[v * 3]? = some a ∧ (put3 cs v a b c)[v * 3 + 1]? = some b ∧ (put3 cs v a b c)[v * 3 + 2]? = some c := by
  unfold put3
  have h0 : v * 3 + 2 < cs.size := by omega
  refine ⟨?_, ?_, ?_⟩
  · rw [Array.getElem?_setIfInBounds_ne (by omega), Array.getElem?_setIfInBounds_ne (by omega), Array.getElem?_setIfInBounds_self_of_lt (by omega)]
  · rw [Array.getElem?_setIfInBounds_ne (by omega), Array.getElem?_setIfInBounds_self_of_lt (by rw [Array.size_setIfInBounds]; omega)]
  · rw [Array.getElem?_setIfInBounds_self_of_lt (by rw [Array.size_setIfInBounds, Array.size_setIfInBounds]; omega)]
theorem put3_ne {cs : Array Value} {v j : Nat} (a b c : Value) (h0 : j ≠ v * 3) (h1 : j ≠ v * 3 + 1) (h2 : j ≠ v * 3 + 2) : (put3 cs v a b c)[j]? = cs[j]? := by
  unfold put3
  rw [Array.getElem?_setIfInBounds_ne (Ne.symm h2), Array.getElem?_setIfInBounds_ne (Ne.symm h1), Array.getElem?_setIfInBounds_ne (Ne.symm h0)]
theorem BI.done {w wr : World} {n : Nat} {es : List Nat} {A : Option Addr} {len c g12 g13 g16 g17 g20 : Nat} {O P : List Int} {nb nb' : List Nat} {cs : Array Value} {v K : Nat} {pr : Int}
    (h : BI w n es A len c g12 g13 g16 g17 g20 O P nb cs v K n nb' pr wr) (h0 : w.heap.size < g12 ∧ g12 < g13) (h1 : g13 < g16) (h2 : g16 < g17) (hn : n ≤ 32) (hb : ∀ e ∈ es, e < 2 ^ n) (hv : v < n) (hK : Key n es v K) (he : Elm n es (v + 1) nb) (hs : cs.size = n * 3)
    (hk : ∀ u, v + 1 ≤ u → u < n → ∃ k p, cs[u * 3]? = some (.int .i64 (u : Int)) ∧ cs[u * 3 + 1]? = some (.int .u32 (k : Nat)) ∧ cs[u * 3 + 2]? = some (.int .i64 p) ∧ Key n es u k) :
    BM w n es A len c g12 g13 g16 g17 O P v nb' (put3 cs v (.int .i64 (v : Int)) (.int .u32 (K : Int)) (.int .i64 pr)) (((wr.setCell ⟨g17, v * 3, none⟩ (.int .i64 (v : Int))).setCell ⟨g17, v * 3 + 1, none⟩ (.int .u32 (K : Int))).setCell ⟨g17, v * 3 + 2, none⟩ (.int .i64 pr)) := by
  have f0 : ∀ o, w.heap.size < (⟨g17, o, none⟩ : Addr).block := fun o => by show w.heap.size < g17; omega
  have f1 : ∀ o, g12 ≠ (⟨g17, o, none⟩ : Addr).block := fun o => by show g12 ≠ g17; omega
  have f2 : ∀ o, g13 ≠ (⟨g17, o, none⟩ : Addr).block := fun o => by show g13 ≠ g17; omega
  have f3 : ∀ o, g16 ≠ (⟨g17, o, none⟩ : Addr).block := fun o => by show g16 ≠ g17; omega
  refine ⟨((h.bw.far (f0 _) (f1 _) (f2 _) _).far (f0 _) (f1 _) (f2 _) _).far (f0 _) (f1 _) (f2 _) _, ((h.bn.far (f3 _) _).far (f3 _) _).far (f3 _) _, ((h.bc.set_ _ _).set_ _ _).set_ _ _, by simp [put3, hs], ?_, fun u hu hun => ?_⟩
  · refine he.step hn hv hb h.ln (fun x hx => ?_)
    rw [h.eq x hx]
    split
    · rfl
    · rename_i hc
      rw [elim1, if_neg (fun h9 => hc h9.1)]
  · by_cases huv : u = v
    · subst huv
      obtain ⟨a, b, c⟩ := put3_at hs hun (.int .i64 (u : Int)) (.int .u32 (K : Int)) (.int .i64 pr)
      exact ⟨K, pr, a, b, c, hK⟩
    · obtain ⟨k, p, a, b, c, d⟩ := hk u (by omega) hun
      exact ⟨k, p, by rw [put3_ne _ _ _ (by omega) (by omega) (by omega)]; exact a, by rw [put3_ne _ _ _ (by omega) (by omega) (by omega)]; exact b, by rw [put3_ne _ _ _ (by omega) (by omega) (by omega)]; exact c, d⟩
theorem elim_value (X K u v : Nat) (hX : X < 2 ^ 32) (hK : K < 2 ^ 32) (hu : u < 32) (hv : v < 32) :
    bits .andNot .u32 (bits .or .u32 (X : Int) (K : Int)) (bits .or .u32 ((2 : Int) ^ u % 4294967296) ((2 : Int) ^ v % 4294967296)) = ((andn (X ||| K) (2 ^ u ||| 2 ^ v) : Nat) : Int) := by
  rw [shl_mod u hu, shl_mod v hv, bits_or _ _ hX hK, bits_or _ _ (pow2_lt32 hu) (pow2_lt32 hv), bits_andNot _ _ (Nat.or_lt_two_pow (n := 32) hX hK) (Nat.or_lt_two_pow (n := 32) (pow2_lt32 hu) (pow2_lt32 hv))]
set_option maxRecDepth 100000 in
set_option maxHeartbeats 8000000 in
theorem bags_any (n : Nat) (A : Option Addr) (es : List Nat) (len c : Nat) (w : World) (hr : Es w w.heap.size A len es) (hcc : checkCode n es = 0) :
    Calls Try.prog 29 #[.agg #[.int .i64 n, .slice A len c], .int .i64 n, .slice none 0 0] w (RetBags w n es) := by
  obtain ⟨_, hn, _, hes⟩ := checkCode_zero hcc
  have HES := Lib.hid (show ∀ e ∈ es, e < 2 ^ n by simpa using hes); clear hes
  have HR := Lib.hid hr; clear hr
  have HC := Lib.hid hcc; clear hcc
  have HG := Lib.hid (GB.made w 24 (.int .i64 n) (.slice A len c))
  have HW := Lib.hid (al w (.cells #[.int .i64 n, .slice A len c] 24))
  go_enter Try.func29, Try.ntmps29
  go_wp2_with fail
  refine (checkFree_ok n n A es len c _ (HR.out.new HW.out) HC.out (Nat.le_refl _)).mono ?_
  rintro e w1 ⟨rfl, hb⟩
  replace HG := Lib.hid (HG.out.new hb); replace HW := Lib.hid (bthen HW.out hb HW.out.size); clear hb
  go_wp2_with fail
  go_loop [30] (fun i => i = .int .i64 0) (fun _ => 0)
  case atStart => rfl
  case round =>
    subst hrel
    have g0 := HG.out.c0; have lg := HG.out.lt
    have hsub : (n : Int) - (n : Int) = 0 := by omega
    go_upto_region 15 with (fail)
    have hO := Blk.new w1 80 (irow (List.replicate 32 0))
    have hA1 := al w1 (.cells (irow (List.replicate 32 0)) 80)
    have hP := Blk.new (w1.alloc (.cells (irow (List.replicate 32 0)) 80)) 80 (irow (List.replicate 32 0))
    have hA2 : Below w1.heap.size w1 ((w1.alloc (.cells (irow (List.replicate 32 0)) 80)).alloc (.cells (irow (List.replicate 32 0)) 80)) := hA1.alloc hA1.size _
    replace hO := hO.alloc (.cells (irow (List.replicate 32 0)) 80)
    rw [World.size_alloc] at hP
    have hre : ∀ a b : Array Value, a = b → (w1.alloc (.cells a 80)).alloc (.cells a 80) = (w1.alloc (.cells b 80)).alloc (.cells b 80) := fun a b h => by rw [h]
    have hx := hre _ _ (show (irow (List.replicate 32 0)) = #[.int .i64 0, .int .i64 0, .int .i64 0, .int .i64 0, .int .i64 0, .int .i64 0, .int .i64 0, .int .i64 0, .int .i64 0, .int .i64 0, .int .i64 0, .int .i64 0, .int .i64 0, .int .i64 0, .int .i64 0, .int .i64 0, .int .i64 0, .int .i64 0, .int .i64 0, .int .i64 0, .int .i64 0, .int .i64 0, .int .i64 0, .int .i64 0, .int .i64 0, .int .i64 0, .int .i64 0, .int .i64 0, .int .i64 0, .int .i64 0, .int .i64 0, .int .i64 0] from rfl)
    rw [hx] at hO hP hA2
    clear hx hre hA1
    generalize (w1.alloc (.cells #[.int .i64 0, .int .i64 0, .int .i64 0, .int .i64 0, .int .i64 0, .int .i64 0, .int .i64 0, .int .i64 0, .int .i64 0, .int .i64 0, .int .i64 0, .int .i64 0, .int .i64 0, .int .i64 0, .int .i64 0, .int .i64 0, .int .i64 0, .int .i64 0, .int .i64 0, .int .i64 0, .int .i64 0, .int .i64 0, .int .i64 0, .int .i64 0, .int .i64 0, .int .i64 0, .int .i64 0, .int .i64 0, .int .i64 0, .int .i64 0, .int .i64 0, .int .i64 0] 80)).alloc (.cells #[.int .i64 0, .int .i64 0, .int .i64 0, .int .i64 0, .int .i64 0, .int .i64 0, .int .i64 0, .int .i64 0, .int .i64 0, .int .i64 0, .int .i64 0, .int .i64 0, .int .i64 0, .int .i64 0, .int .i64 0, .int .i64 0, .int .i64 0, .int .i64 0, .int .i64 0, .int .i64 0, .int .i64 0, .int .i64 0, .int .i64 0, .int .i64 0, .int .i64 0, .int .i64 0, .int .i64 0, .int .i64 0, .int .i64 0, .int .i64 0, .int .i64 0, .int .i64 0] 80) = w2 at hO hP hA2 ⊢
    obtain ⟨g12, h12⟩ : ∃ g, g = w1.heap.size := ⟨_, rfl⟩
    rw [← h12] at hO hP
    obtain ⟨g13, h13⟩ : ∃ g, g = g12 + 1 := ⟨_, rfl⟩
    rw [← h13] at hP
    have HGE := Lib.hid (show w.heap.size < g12 ∧ g12 < g13 from ⟨by omega, by omega⟩)
    replace HG := Lib.hid (HG.out.new hA2); replace HW := Lib.hid (bthen HW.out hA2 HW.out.size)
    have HB := Lib.hid (show BW w n A len c g12 g13 (List.replicate 32 0) (List.replicate 32 0) w2 from ⟨HG.out, hO, hP, by simp, by simp, HW.out⟩)
    rw [← h12, ← h13]
    clear hO hP hA2 h12 h13 g0 lg hsub HG HW
    have hcp := copy_none g12 w2
    have lo := HB.out.bo.lt
    go_upto_region 16 with (fail)
    clear hcp lo
    go_wp2_with fail
    go_loopw [66] (fun iv wr => ∃ (k : Nat) (O : List Int), iv = .int .i64 k ∧ k ≤ n ∧ Hid (BW w n A len c g12 g13 O (List.replicate 32 0) wr ∧ ∀ j, j < k → inth O j = (n : Int) - 1 - j)) (fun iv _ => n - (intOf iv).toNat)
    case atStart => exact ⟨0, List.replicate 32 0, rfl, Nat.zero_le _, Lib.hid ⟨HB.out, fun j hj => by omega⟩⟩
    case round =>
      obtain ⟨k, O, rfl, hk, HJ⟩ := hrel
      by_cases hkn : k < n
      · obtain ⟨x, hx⟩ : ∃ x : Int, x = (n : Int) - 1 - (k : Int) := ⟨_, rfl⟩
        have ex : (n : Int) - 1 - (k : Int) = x := hx.symm
        obtain ⟨co, fo⟩ := HJ.out.1.co (show k < 32 by omega)
        have i1 : (0 : Int) ≤ (k : Int) := by omega
        have i2 : (k : Int) < 32 := by omega
        have HN := Lib.hid (show BW w n A len c g12 g13 (O.set k x) (List.replicate 32 0) (wr.setCell ⟨g12, k, none⟩ (.int .i64 x)) ∧ ∀ j, j < k + 1 → inth (O.set k x) j = (n : Int) - 1 - j from ⟨HJ.out.1.setO HGE.out k x, fun j hj => by
          rw [inth_set (by rw [HJ.out.1.lo]; omega)]
          by_cases h : j = k
          · subst h; rw [if_pos rfl]; exact hx
          · rw [if_neg h]; exact HJ.out.2 j (by omega)⟩)
        clear hx
        go_wp2_with fail
        exact ⟨⟨k + 1, O.set k x, by go_num, by omega, HN⟩, by simp [intOf]; omega⟩
      · obtain rfl : k = n := by omega
        have g0 := HJ.out.1.gb.c0; have lg := HJ.out.1.gb.lt
        go_wp2_with fail
        clear g0 lg
        go_loopw [81] (fun iv wr => ∃ (i : Nat) (P : List Int), iv = .int .i64 i ∧ i ≤ k ∧ Hid (BW w k A len c g12 g13 O P wr)) (fun iv _ => k - (intOf iv).toNat)
        case atStart => exact ⟨0, List.replicate 32 0, rfl, Nat.zero_le _, Lib.hid HJ.out.1⟩
        case round =>
          obtain ⟨i, P, rfl, hi, HK⟩ := hrel
          by_cases hik : i < k
          · obtain ⟨co, fo⟩ := HK.out.co (show i < 32 by omega)
            obtain ⟨m, hm⟩ : ∃ m : Nat, m = k - 1 - i := ⟨_, rfl⟩
            have hm2 : m < 32 := by omega
            rw [show inth O i = (m : Int) by rw [HJ.out.2 i hik]; omega] at co
            obtain ⟨cp, fp⟩ := HK.out.cp hm2
            have i1 : (0 : Int) ≤ (i : Int) := by omega
            have i2 : (i : Int) < 32 := by omega
            have i3 : (0 : Int) ≤ (m : Int) := by omega
            have i4 : (m : Int) < 32 := by omega
            have HN := Lib.hid (HK.out.setP HGE.out m (i : Int))
            clear hm
            go_wp2_with fail
            exact ⟨⟨i + 1, P.set m (i : Int), by go_num, by omega, HN⟩, by simp [intOf]; omega⟩
          · obtain rfl : i = k := by omega
            have hgr := HK.out.gb
            have g0 := hgr.c0; have g1 := hgr.c1; have lg := hgr.lt
            clear hgr
            go_wp2_with fail
            clear g0 g1 lg
            refine (eadj_any i A es len c _ (HR.out.new HK.out.below) HC.out).mono ?_
            rintro e w4 ⟨rfl, hb⟩
            replace HK := Lib.hid (HK.out.new hb)
            clear hb
            have hZ := Blk.new w4 76 (urow (zer 32))
            have hA2 := al w4 (.cells (urow (zer 32)) 76)
            go_upto_region 27 with (refine wpList_store_blk rfl 76 (.tmp 16) (.tmp 91) rfl w4.heap.size _ _ (urow (adjRow i es)) hZ rfl rfl (by rw [size_urow, size_urow, adjRow_length, zer_length]) (arr_size (adjRow i es) (adjRow_length i es)) (one_urow (adjRow i es)) ?_; intro w5 hR3 hg3 hs3)
            have hb : Below w4.heap.size w4 w5 := hA2.grown hg3 hA2.size (fun k hk => by cases hk; exact Nat.le_refl _)
            have hlt4 := HK.out.bp.lt
            replace HK := Lib.hid (HK.out.new hb)
            obtain ⟨g16, h16⟩ : ∃ g, g = w4.heap.size := ⟨_, rfl⟩
            rw [← h16] at hR3
            have HG16 := Lib.hid (show g13 < g16 by omega)
            rw [← h16]
            clear hg3 hs3 hb hZ hA2 h16 hlt4
            have g0 := HK.out.gb.c0; have lg := HK.out.gb.lt
            obtain ⟨cs, hmk, hcs⟩ := mk_bag i (by omega) w5
            have HR3 := Lib.hid hR3; clear hR3
            go_upto_region 28 with (fail)
            have hC := Blk.new w5 59 cs
            have hb := al w5 (.cells cs 59)
            have hlt5 := HR3.out.lt
            obtain ⟨g17, h17⟩ : ∃ g, g = w5.heap.size := ⟨_, rfl⟩
            rw [← h17] at hC
            have HG17 := Lib.hid (show g16 < g17 by omega)
            replace HK := Lib.hid (HK.out.new hb)
            replace HR3 := Lib.hid (HR3.out.below hb HR3.out.lt)
            rw [← h17]
            generalize w5.alloc (.cells cs 59) = w6 at hC hb HK HR3 ⊢
            have HC6 := Lib.hid hC; have HCS := Lib.hid hcs
            clear hmk hb hC hcs h17 hlt5 g0 lg
            have HM := Lib.hid (show BM w i es A len c g12 g13 g16 g17 O P i (adjRow i es) cs w6 from ⟨HK.out, HR3.out, HC6.out, HCS.out, Elm.init (by omega) HES.out (adjRow_length i es) (fun u hu => nth_adjRow hu), fun v h1 h2 => by omega⟩)
            have HO := Lib.hid HJ.out.2
            clear HJ HK HR3 HC6 HCS HB
            have g0 := HM.out.bw.gb.c0; have lg := HM.out.bw.gb.lt
            go_wp2_with fail
            clear g0 lg
            go_loopw [97] (fun iv wr => ∃ (t : Nat) (nb : List Nat) (cs : Array Value), iv = .int .i64 t ∧ t ≤ i ∧ Hid (BM w i es A len c g12 g13 g16 g17 O P (i - t) nb cs wr)) (fun iv _ => i - (intOf iv).toNat)
            case atStart => exact ⟨0, adjRow i es, cs, rfl, Nat.zero_le _, HM⟩
            case round =>
              obtain ⟨t, nb, cs, rfl, ht, HJ⟩ := hrel
              by_cases hti : t < i
              · obtain ⟨v, hv⟩ : ∃ v : Nat, v = i - 1 - t := ⟨_, rfl⟩
                have hvi : v < i := by omega
                obtain ⟨co, fo⟩ := HJ.out.bw.co (show t < 32 by omega)
                rw [show inth O t = (v : Int) by rw [HO.out t hti]; omega] at co
                have HE1 := Lib.hid (show Elm i es (v + 1) nb by have := HJ.out.elm; rw [show i - t = v + 1 by omega] at this; exact this)
                have cn : wr.cell? ⟨g16, v, none⟩ = some (.int .u32 (nth nb v : Int)) := by rw [HJ.out.bn.cell, urow_get (by rw [HE1.out.len]; omega)]
                have i1 : (0 : Int) ≤ (t : Int) := by omega
                have i2 : (t : Int) < 32 := by omega
                have i3 : (0 : Int) ≤ (v : Int) := by omega
                have i4 : (v : Int) < 32 := by omega
                have HKEY := Lib.hid (HE1.out.key (by omega) hvi HES.out)
                have hK32 : nth nb v < 2 ^ 32 := Nat.lt_of_lt_of_le HKEY.out.lt (two_pow_le (by omega))
                obtain ⟨K, hK⟩ : ∃ K, K = nth nb v := ⟨_, rfl⟩
                rw [← hK] at cn HKEY hK32
                have HKV := Lib.hid hK
                have g0 := HJ.out.bw.gb.c0; have lg := HJ.out.bw.gb.lt
                have HVT := Lib.hid hv
                clear hK hv fo
                go_wp2_with fail
                clear co cn g0 lg
                have hb := al wr (.cells #[.int .i64 (v : Int), .int .u32 (K : Int), .int .i64 (-1)] 59)
                have hBB := Blk.new wr 59 #[.int .i64 (v : Int), .int .u32 (K : Int), .int .i64 (-1)]
                obtain ⟨g20, h20⟩ : ∃ g, g = wr.heap.size := ⟨_, rfl⟩
                rw [← h20] at hBB
                have HG20 := Lib.hid (show g17 < g20 by have := HJ.out.bc.lt; omega)
                have HI := Lib.hid (show BI w i es A len c g12 g13 g16 g17 g20 O P nb cs v K 0 nb (-1) _ from ⟨HJ.out.bw.new hb, HJ.out.bn.below hb HJ.out.bn.lt, HJ.out.bc.below hb HJ.out.bc.lt, hBB, HE1.out.len, fun x _ => by simp⟩)
                rw [← h20]
                clear hb hBB h20
                have g0 := HI.out.bw.gb.c0; have lg := HI.out.bw.gb.lt
                generalize wr.alloc (.cells #[.int .i64 (v : Int), .int .u32 (K : Int), .int .i64 (-1)] 59) = wa at HI g0 lg ⊢
                go_wp2_with fail
                clear g0 lg
                go_loopw [110] (fun iv wr => ∃ (u : Nat) (nb' : List Nat) (pr : Int), iv = .int .i64 u ∧ u ≤ i ∧ -1 ≤ pr ∧ pr < i ∧ Hid (BI w i es A len c g12 g13 g16 g17 g20 O P nb cs v K u nb' pr wr)) (fun iv _ => i - (intOf iv).toNat)
                case atStart => exact ⟨0, nb, -1, rfl, Nat.zero_le _, by omega, by omega, HI⟩
                case round =>
                  obtain ⟨u, nb', pr, rfl, hu, hp1, hp2, HB⟩ := hrel
                  by_cases hui : u < i
                  · have hbit := bit_zero K u hK32
                    have ck : wr.cell? ⟨g20, 1, none⟩ = some (.int .u32 (K : Int)) := by rw [HB.out.bb.cell]; rfl
                    have cp : wr.cell? ⟨g20, 2, none⟩ = some (.int .i64 pr) := by rw [HB.out.bb.cell]; rfl
                    have fp : wr.frozen? ⟨g20, 2, none⟩ = false := HB.out.bb.frozen 2
                    have lb := HB.out.bb.lt
                    have j1 : (0 : Int) ≤ (u : Int) := by omega
                    have j2 : (u : Int) < 32 := by omega
                    cases hKu : K.testBit u with
                    | false =>
                      rw [hKu] at hbit
                      have HN := Lib.hid (HB.out.skip HKV.out hKu)
                      clear hKu
                      go_wp2_with fail
                      exact ⟨⟨u + 1, nb', pr, by go_num, by omega, hp1, hp2, HN⟩, by simp [intOf]; omega⟩
                    | true =>
                      rw [hKu] at hbit
                      have HKU := Lib.hid hKu; clear hKu
                      go_upto_region 37 with (fail)
                      clear hbit
                      by_cases hpr : pr < 0
                      · have tp := decide_eq_true hpr
                        go_quiet (fail)
                        have HBn := Lib.hid (HB.out.drewN nq)
                        generalize wr.drewN nq = wb at HBn ⊢
                        clear ck cp fp lb tp
                        go_upto_region 38 with (fail)
                        have cp : wb.cell? ⟨g20, 2, none⟩ = some (.int .i64 pr) := by rw [HBn.out.bb.cell]; rfl
                        have fp : wb.frozen? ⟨g20, 2, none⟩ = false := HBn.out.bb.frozen 2
                        have lb := HBn.out.bb.lt
                        go_upto_region 39 with (fail)
                        clear cp fp lb
                        replace HBn := Lib.hid (HBn.out.parent HGE.out HG16.out HG17.out HG20.out (u : Int))
                        generalize wb.setCell ⟨g20, 2, none⟩ (.int .i64 (u : Int)) = wc at HBn ⊢
                        have HX32 := Lib.hid (show nth nb' u < 2 ^ 32 by rw [HBn.out.eq u (by omega), if_neg (by omega)]; exact Nat.lt_of_lt_of_le (HE1.out.ltn u) (two_pow_le (by omega)))
                        have cx : wc.cell? ⟨g16, u, none⟩ = some (.int .u32 (nth nb' u : Int)) := by rw [HBn.out.bn.cell, urow_get (by rw [HBn.out.ln]; omega)]
                        have fx : wc.frozen? ⟨g16, u, none⟩ = false := HBn.out.bn.frozen u
                        have ck : wc.cell? ⟨g20, 1, none⟩ = some (.int .u32 (K : Int)) := by rw [HBn.out.bb.cell]; rfl
                        have lb := HBn.out.bb.lt
                        have HV := Lib.hid (elim_value (nth nb' u) K u v HX32.out hK32 (by omega) (by omega))
                        have HN := Lib.hid (HBn.out.write HGE.out HG16.out HG17.out HG20.out hui (by omega) HKV.out HKU.out)
                        generalize nth nb' u = X at *
                        go_region
                        go_wp2_with fail
                        rw [HV.out]
                        exact ⟨⟨u + 1, _, (u : Int), by go_num, by omega, by omega, by omega, Lib.hid HN.out.drew⟩, by simp [intOf]; omega⟩
                      · have tp := decide_eq_false hpr
                        obtain ⟨pp, hpp⟩ : ∃ pp : Nat, pr = (pp : Int) := ⟨pr.toNat, by omega⟩
                        subst hpp
                        obtain ⟨c1, -⟩ := HB.out.bw.cp (show u < 32 by omega)
                        obtain ⟨c2, -⟩ := HB.out.bw.cp (show pp < 32 by omega)
                        have j3 : (0 : Int) ≤ (pp : Int) := by omega
                        have j4 : (pp : Int) < 32 := by omega
                        generalize inth P u = q1 at *
                        generalize inth P pp = q2 at *
                        by_cases hq : q1 < q2
                        · have tq := decide_eq_true hq
                          go_quiet (fail)
                          have HBn := Lib.hid (HB.out.drewN nq)
                          generalize wr.drewN nq = wb at HBn ⊢
                          clear ck cp fp lb tp c1 c2 tq
                          go_upto_region 38 with (fail)
                          have cp : wb.cell? ⟨g20, 2, none⟩ = some (.int .i64 (pp : Int)) := by rw [HBn.out.bb.cell]; rfl
                          have fp : wb.frozen? ⟨g20, 2, none⟩ = false := HBn.out.bb.frozen 2
                          have lb := HBn.out.bb.lt
                          go_upto_region 39 with (fail)
                          clear cp fp lb
                          replace HBn := Lib.hid (HBn.out.parent HGE.out HG16.out HG17.out HG20.out (u : Int))
                          generalize wb.setCell ⟨g20, 2, none⟩ (.int .i64 (u : Int)) = wc at HBn ⊢
                          have HX32 := Lib.hid (show nth nb' u < 2 ^ 32 by rw [HBn.out.eq u (by omega), if_neg (by omega)]; exact Nat.lt_of_lt_of_le (HE1.out.ltn u) (two_pow_le (by omega)))
                          have cx : wc.cell? ⟨g16, u, none⟩ = some (.int .u32 (nth nb' u : Int)) := by rw [HBn.out.bn.cell, urow_get (by rw [HBn.out.ln]; omega)]
                          have fx : wc.frozen? ⟨g16, u, none⟩ = false := HBn.out.bn.frozen u
                          have ck : wc.cell? ⟨g20, 1, none⟩ = some (.int .u32 (K : Int)) := by rw [HBn.out.bb.cell]; rfl
                          have lb := HBn.out.bb.lt
                          have HV := Lib.hid (elim_value (nth nb' u) K u v HX32.out hK32 (by omega) (by omega))
                          have HN := Lib.hid (HBn.out.write HGE.out HG16.out HG17.out HG20.out hui (by omega) HKV.out HKU.out)
                          generalize nth nb' u = X at *
                          go_region
                          go_wp2_with fail
                          rw [HV.out]
                          exact ⟨⟨u + 1, _, (u : Int), by go_num, by omega, by omega, by omega, Lib.hid HN.out.drew⟩, by simp [intOf]; omega⟩
                        · have tq := decide_eq_false hq
                          go_quiet (fail)
                          have HBn := Lib.hid (HB.out.drewN nq)
                          generalize wr.drewN nq = wc at HBn ⊢
                          clear ck cp fp lb tp c1 c2 tq
                          go_upto_region 39 with (fail)
                          have HX32 := Lib.hid (show nth nb' u < 2 ^ 32 by rw [HBn.out.eq u (by omega), if_neg (by omega)]; exact Nat.lt_of_lt_of_le (HE1.out.ltn u) (two_pow_le (by omega)))
                          have cx : wc.cell? ⟨g16, u, none⟩ = some (.int .u32 (nth nb' u : Int)) := by rw [HBn.out.bn.cell, urow_get (by rw [HBn.out.ln]; omega)]
                          have fx : wc.frozen? ⟨g16, u, none⟩ = false := HBn.out.bn.frozen u
                          have ck : wc.cell? ⟨g20, 1, none⟩ = some (.int .u32 (K : Int)) := by rw [HBn.out.bb.cell]; rfl
                          have lb := HBn.out.bb.lt
                          have HV := Lib.hid (elim_value (nth nb' u) K u v HX32.out hK32 (by omega) (by omega))
                          have HN := Lib.hid (HBn.out.write HGE.out HG16.out HG17.out HG20.out hui (by omega) HKV.out HKU.out)
                          generalize nth nb' u = X at *
                          go_region
                          go_wp2_with fail
                          rw [HV.out]
                          exact ⟨⟨u + 1, _, (pp : Int), by go_num, by omega, by omega, by omega, Lib.hid HN.out.drew⟩, by simp [intOf]; omega⟩
                  · obtain rfl : u = i := by omega
                    have d0 : wr.cell? ⟨g20, 0, none⟩ = some (.int .i64 (v : Int)) := by rw [HB.out.bb.cell]; rfl
                    have d1 : wr.cell? ⟨g20, 1, none⟩ = some (.int .u32 (K : Int)) := by rw [HB.out.bb.cell]; rfl
                    have d2 : wr.cell? ⟨g20, 2, none⟩ = some (.int .i64 pr) := by rw [HB.out.bb.cell]; rfl
                    have lb := HB.out.bb.lt
                    have hsz := HJ.out.sz
                    have e0 : v * 3 < cs.size := by omega
                    have e1 : v * 3 + 1 < cs.size := by omega
                    have e2 : v * 3 + 2 < cs.size := by omega
                    have k0 : wr.cell? ⟨g17, v * 3, none⟩ = some cs[v * 3] := by rw [HB.out.bc.cell]; exact Array.getElem?_eq_getElem e0
                    have k1 : wr.cell? ⟨g17, v * 3 + 1, none⟩ = some cs[v * 3 + 1] := by rw [HB.out.bc.cell]; exact Array.getElem?_eq_getElem e1
                    have k2 : wr.cell? ⟨g17, v * 3 + 2, none⟩ = some cs[v * 3 + 2] := by rw [HB.out.bc.cell]; exact Array.getElem?_eq_getElem e2
                    have q0 := HB.out.bc.frozen (v * 3)
                    have q1 := HB.out.bc.frozen (v * 3 + 1)
                    have q2 := HB.out.bc.frozen (v * 3 + 2)
                    generalize cs[v * 3] = x0 at k0
                    generalize cs[v * 3 + 1] = x1 at k1
                    generalize cs[v * 3 + 2] = x2 at k2
                    have HN := Lib.hid (HB.out.done HGE.out HG16.out HG17.out (by omega) HES.out hvi HKEY.out HE1.out hsz (fun y hy1 hy2 => HJ.out.keys y (by have := HVT.out; omega) hy2))
                    clear hsz e0 e1 e2
                    go_wp2_with fail
                    exact ⟨⟨t + 1, nb', put3 cs v (.int .i64 (v : Int)) (.int .u32 (K : Int)) (.int .i64 pr), by go_num, by omega, Lib.hid (by rw [show u - (t + 1) = v by have := HVT.out; omega]; exact HN.out)⟩, by simp [intOf]; omega⟩
              · obtain rfl : t = i := by omega
                go_wp2_with fail
                go_ret2
                exact ⟨g17, cs, rfl, HJ.out.bc, HJ.out.sz, fun v hv => HJ.out.keys v (by omega) hv, HJ.out.bw.below⟩
end Go.Proofs.Ytdagdamliggfmaa
