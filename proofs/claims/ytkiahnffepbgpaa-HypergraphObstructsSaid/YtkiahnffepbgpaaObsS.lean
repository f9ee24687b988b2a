/-
  Contract of hypergraph.size: some number.
-/
import Derived.Test.YtkiahnffepbgpaaObsP
import Derived.Test.YtkiahnffepbgpaaRegG
import Derived.IntWalk
namespace Go.Proofs.Ytkiahnffepbgpaa
open Go.RowKit
set_option linter.unusedSimpArgs false

def SomeNum (w : World) (e : Ending) (w' : World) : Prop := ∃ k : Int, e = .returned (.int .i64 k) ∧ Below w.heap.size w w'
def U32k (m : Nat) (v : Value) (_ : World) : Prop := ∃ k : Nat, v = .int .u32 (k : Int) ∧ k < m
def U8k (v : Value) (_ : World) : Prop := ∃ k : Nat, v = .int .u8 (k : Int) ∧ k < 256
def I64k (v : Value) (_ : World) : Prop := ∃ k : Int, v = .int .i64 k
section
variable {o : Oper} {a : Act} {w : World} {t u : Tmp}
theorem shr_24 {T T2 : TypeId} (ho : o.op = .binOp .shr T (.tmp t) (.const (.int .u64 24)) T2) (h : U32k 4294967296 (tv a t) w) : gives Try.prog o a.eval w (fun v w' => U32k 256 v w' ∧ Below w.heap.size w w') := by
  obtain ⟨x, hx, hl⟩ := h
  refine gives_val (.int .u32 ((x / 16777216 : Nat) : Int)) ?_ ⟨⟨_, rfl, by omega⟩, Below.refl _ _⟩
  have e : ((x / 16777216 : Nat) : Int) = (x : Int) / 2 ^ 24 := by omega
  rw [e]
  unfold execOp; rw [ho]; simp only [eval_tmp, eval_const, hx]; go_simp
theorem shr_16 {T T2 : TypeId} (ho : o.op = .binOp .shr T (.tmp t) (.const (.int .u64 16)) T2) (h : U32k 4294967296 (tv a t) w) : gives Try.prog o a.eval w (fun v w' => U32k 4294967296 v w' ∧ Below w.heap.size w w') := by
  obtain ⟨x, hx, hl⟩ := h
  refine gives_val (.int .u32 ((x / 65536 : Nat) : Int)) ?_ ⟨⟨_, rfl, by omega⟩, Below.refl _ _⟩
  have e : ((x / 65536 : Nat) : Int) = (x : Int) / 2 ^ 16 := by omega
  rw [e]
  unfold execOp; rw [ho]; simp only [eval_tmp, eval_const, hx]; go_simp
theorem shr_8 {T T2 : TypeId} (ho : o.op = .binOp .shr T (.tmp t) (.const (.int .u64 8)) T2) (h : U32k 4294967296 (tv a t) w) : gives Try.prog o a.eval w (fun v w' => U32k 4294967296 v w' ∧ Below w.heap.size w w') := by
  obtain ⟨x, hx, hl⟩ := h
  refine gives_val (.int .u32 ((x / 256 : Nat) : Int)) ?_ ⟨⟨_, rfl, by omega⟩, Below.refl _ _⟩
  have e : ((x / 256 : Nat) : Int) = (x : Int) / 2 ^ 8 := by omega
  rw [e]
  unfold execOp; rw [ho]; simp only [eval_tmp, eval_const, hx]; go_simp
theorem and_255 {T T2 : TypeId} (ho : o.op = .binOp .and T (.tmp t) (.const (.int .u32 255)) T2) (h : U32k 4294967296 (tv a t) w) : gives Try.prog o a.eval w (fun v w' => U32k 256 v w' ∧ Below w.heap.size w w') := by
  obtain ⟨x, hx, hl⟩ := h
  refine gives_val (.int .u32 ((x &&& 255 : Nat) : Int)) ?_ ⟨⟨_, rfl, by have : x &&& 255 ≤ 255 := Nat.and_le_right; omega⟩, Below.refl _ _⟩
  have e : bits .and .u32 (x : Int) 255 = ((x &&& 255 : Nat) : Int) := bits_and x 255 hl (by omega)
  unfold execOp; rw [ho]; simp only [eval_tmp, eval_const, hx]; go_simp
theorem add_u8 {T T2 : TypeId} (ho : o.op = .binOp .add T (.tmp t) (.tmp u) T2) (h : U8k (tv a t) w) (h2 : U8k (tv a u) w) : gives Try.prog o a.eval w (fun v w' => U8k v w' ∧ Below w.heap.size w w') := by
  obtain ⟨x, hx, hl⟩ := h
  obtain ⟨y, hy, hl2⟩ := h2
  refine gives_val (.int .u8 (((x + y) % 256 : Nat) : Int)) ?_ ⟨⟨_, rfl, by omega⟩, Below.refl _ _⟩
  have e : IntKind.u8.wrap ((x : Int) + (y : Int)) = (((x + y) % 256 : Nat) : Int) := by rw [IntKind.wrap_u8]; omega
  unfold execOp; rw [ho]; simp only [eval_tmp, hx, hy]; go_simp
  try (rw [← e]; rfl)
theorem conv_8 {T T2 : TypeId} (hT : T = 5 ∧ T2 = 3) (ho : o.op = .convert T T2 (.tmp t)) (h : U8k (tv a t) w) : gives Try.prog o a.eval w (fun v w' => I64k v w' ∧ Below w.heap.size w w') := by
  obtain ⟨rfl, rfl⟩ := hT
  obtain ⟨x, hx, hl⟩ := h
  refine gives_val (.int .i64 (x : Int)) ?_ ⟨⟨_, rfl⟩, Below.refl _ _⟩
  have e : IntKind.i64.wrap (x : Int) = (x : Int) := IntWalk.i64_in _ (by omega)
  unfold execOp; rw [ho]; simp only [eval_tmp, hx]; go_simp
theorem idx_tab {S : ByteArray} {T : TypeId} (hT : T = 9) (hS : S.size = 256) (ho : o.op = .index T (.const (.string S)) (.tmp t)) (h : U32k 256 (tv a t) w) : gives Try.prog o a.eval w (fun v w' => U8k v w' ∧ Below w.heap.size w w') := by
  subst hT
  obtain ⟨x, hx, hl⟩ := h
  have hl' : x < S.size := by omega
  refine gives_val (.int .u8 (((S[x]'hl').toNat : Nat) : Int)) ?_ ⟨⟨_, rfl, (S[x]'hl').toNat_lt⟩, Below.refl _ _⟩
  unfold execOp; rw [ho]; simp only [eval_tmp, eval_const, hx]; go_simp
  rw [dif_pos (show (x : Int) < 256 by omega)]; rfl
end
set_option maxRecDepth 100000 in
set_option maxHeartbeats 4000000 in
theorem ones_any (x : Nat) (hx : x < 4294967296) (w : World) : Calls Try.prog 60 #[.int .u32 x] w (SomeNum w) := by
  go_enter Try.func60, Try.ntmps60
  go_upto_region 1 with (fail)
  refine wp_region_each (kss := [[],[(0,3)],[(1,4)],[],[(3,6)],[(4,7)],[(5,8)],[(2,5),(6,9)],[],[(8,11)],[(9,12)],[(10,13)],[(7,10),(11,14)],[],[(13,16)],[(14,17)],[(12,15),(15,18)],[(16,19)],[(17,20)]]) [(0, .int .u32 (x : Int))]
    [U32k 4294967296, U32k 256, U8k, U32k 4294967296, U32k 4294967296, U32k 256, U8k, U8k, U32k 4294967296, U32k 4294967296, U32k 256, U8k, U8k, U32k 4294967296, U32k 256, U8k, U8k, I64k, I64k] (by kernel_rfl) (by kernel_rfl) ⟨rfl, trivial⟩ ?_ ?_ ?_
  · exact ⟨fun _ _ _ h _ => h, fun _ _ _ h _ => h, fun _ _ _ h _ => h, fun _ _ _ h _ => h, fun _ _ _ h _ => h, fun _ _ _ h _ => h, fun _ _ _ h _ => h, fun _ _ _ h _ => h, fun _ _ _ h _ => h, fun _ _ _ h _ => h, fun _ _ _ h _ => h, fun _ _ _ h _ => h, fun _ _ _ h _ => h, fun _ _ _ h _ => h, fun _ _ _ h _ => h, fun _ _ _ h _ => h, fun _ _ _ h _ => h, fun _ _ _ h _ => h, fun _ _ _ h _ => h, trivial⟩
  · have mv : ∀ {o : Oper} {a : Act} {w : World} {ops : Array Oper}, o.op = .move (.tmp 0) → o.guard = none → tv a 0 = .int .u32 (x : Int) → if Region.wanted o (yielded ops a.tmps) = true then gives Try.prog o a.eval w (fun v w' => U32k 4294967296 v w' ∧ Below w.heap.size w w') else U32k 4294967296 undef w := fun h1 h2 h3 => ob_plain h2 (gives_move _ h1 ⟨⟨x, h3, hx⟩, Below.refl _ _⟩)
    refine ⟨?_, ?_, ?_, ?_, ?_, ?_, ?_, ?_, ?_, ?_, ?_, ?_, ?_, ?_, ?_, ?_, ?_, ?_, ?_, trivial⟩
    · exact fun aa ww hb he hd => mv rfl rfl he.1
    · exact fun aa ww hb he hd => ob_plain rfl (shr_24 rfl hd.1)
    · exact fun aa ww hb he hd => ob_plain rfl (idx_tab rfl (by kernel_rfl) rfl hd.1)
    · exact fun aa ww hb he hd => mv rfl rfl he.1
    · exact fun aa ww hb he hd => ob_plain rfl (shr_16 rfl hd.1)
    · exact fun aa ww hb he hd => ob_plain rfl (and_255 rfl hd.1)
    · exact fun aa ww hb he hd => ob_plain rfl (idx_tab rfl (by kernel_rfl) rfl hd.1)
    · exact fun aa ww hb he hd => ob_plain rfl (add_u8 rfl hd.1 hd.2.1)
    · exact fun aa ww hb he hd => mv rfl rfl he.1
    · exact fun aa ww hb he hd => ob_plain rfl (shr_8 rfl hd.1)
    · exact fun aa ww hb he hd => ob_plain rfl (and_255 rfl hd.1)
    · exact fun aa ww hb he hd => ob_plain rfl (idx_tab rfl (by kernel_rfl) rfl hd.1)
    · exact fun aa ww hb he hd => ob_plain rfl (add_u8 rfl hd.1 hd.2.1)
    · exact fun aa ww hb he hd => mv rfl rfl he.1
    · exact fun aa ww hb he hd => ob_plain rfl (and_255 rfl hd.1)
    · exact fun aa ww hb he hd => ob_plain rfl (idx_tab rfl (by kernel_rfl) rfl hd.1)
    · exact fun aa ww hb he hd => ob_plain rfl (add_u8 rfl hd.1 hd.2.1)
    · exact fun aa ww hb he hd => ob_plain rfl (conv_8 ⟨rfl, rfl⟩ rfl hd.1)
    · exact fun aa ww hb he hd => ob_plain rfl (gives_assign _ rfl ⟨hd.1, Below.refl _ _⟩)
  intro vs w1 hb hR
  obtain ⟨k, hk⟩ : I64k (vs 18) w1 := hR 18 (by decide)
  clear hR
  simp only [putsL, Nat.zero_add, Nat.reduceAdd, Act.put, List.setIfInBounds_toArray, List.set_cons_zero, List.set_cons_succ]
  rw [hk]
  clear hk
  have HB := Lib.hid hb; clear hb
  go_wp2_with fail
  go_ret
  exact ⟨k, rfl, HB.out⟩
set_option maxHeartbeats 400000 in
theorem size_any (x : Nat) (hx : x < 4294967296) (w : World) : Calls Try.prog 58 #[.int .u32 x] w (SomeNum w) := by
  go_enter Try.func58, Try.ntmps58
  go_wp2_with fail
  refine (ones_any x hx _).mono ?_
  rintro e w1 ⟨k, rfl, hb⟩
  have HB := Lib.hid hb; clear hb
  go_wp2_with fail
  go_ret
  exact ⟨k, rfl, HB.out⟩
end Go.Proofs.Ytkiahnffepbgpaa
