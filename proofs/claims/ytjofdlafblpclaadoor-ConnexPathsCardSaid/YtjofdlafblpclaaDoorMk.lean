/-
  What a make of a row of numbers or bools comes to, over this seat's tables.
-/
import Derived.Test.YtjofdlafblpclaaDoorOwn
namespace Go.Proofs.YtjofdlafblpclaaDoor
open Go.RowKit
theorem info_bool : (Tryd.prog.info? 4).map (fun i => (i.zero, i.size, i.bytes)) = some (some (.bool false), 1, 1) := by kernel_rfl
theorem info_u32 : (Tryd.prog.info? 42).map (fun i => (i.zero, i.size, i.bytes)) = some (some (.int .u32 0), 1, 4) := by kernel_rfl
theorem info_int : (Tryd.prog.info? 3).map (fun i => (i.zero, i.size, i.bytes)) = some (some (.int .i64 0), 1, 8) := by kernel_rfl
theorem mk_bool (n : Nat) (hn : n ≤ 1000000) (W : World) : (Instr.makeSlice 74 (.int .i64 (n : Int)) (.int .i64 (n : Int))).run Tryd.prog W = .ok (.slice (some ⟨W.heap.size, 0, none⟩) n n) (W.alloc (.cells (brow (List.replicate n false)) 4)) := by
  obtain ⟨i, hi, hz, hs, hb⟩ := info_parts info_bool
  have h := run_make_rowN (P := Tryd.prog) 74 4 i (.bool false) Tryd.underlying74 hi hz .i64 .i64 n n (Nat.le_refl _) (by rw [hb]; omega) (by omega) W
  rw [hs, Nat.mul_one] at h
  rw [h, ← brow_make]; rfl
theorem mk_u32 (n : Nat) (hn : n ≤ 1000000) (W : World) : (Instr.makeSlice 22 (.int .i64 (n : Int)) (.int .i64 (n : Int))).run Tryd.prog W = .ok (.slice (some ⟨W.heap.size, 0, none⟩) n n) (W.alloc (.cells (urow (List.replicate n 0)) 42)) := by
  obtain ⟨i, hi, hz, hs, hb⟩ := info_parts info_u32
  have h := run_make_rowN (P := Tryd.prog) 22 42 i (.int .u32 0) Tryd.underlying22 hi hz .i64 .i64 n n (Nat.le_refl _) (by rw [hb]; omega) (by omega) W
  rw [hs, Nat.mul_one] at h
  rw [h, ← urow_make]; rfl
theorem mk_int (n : Nat) (hn : n ≤ 1000000) (W : World) : (Instr.makeSlice 33 (.int .i64 (n : Int)) (.int .i64 (n : Int))).run Tryd.prog W = .ok (.slice (some ⟨W.heap.size, 0, none⟩) n n) (W.alloc (.cells (irow (List.replicate n 0)) 3)) := by
  obtain ⟨i, hi, hz, hs, hb⟩ := info_parts info_int
  have h := run_make_rowN (P := Tryd.prog) 33 3 i (.int .i64 0) Tryd.underlying33 hi hz .i64 .i64 n n (Nat.le_refl _) (by rw [hb]; omega) (by omega) W
  rw [hs, Nat.mul_one] at h
  rw [h, ← irow_make]; rfl

section
variable {ops : Array Oper} {rest : List Oper} {o : Oper} {a : Act} {w : World} {Q : Exit → Act → World → Prop}
/-- append(v, y): one number onto a row of the call's own. -/
theorem app_u32 (hgd : o.guard = none) (s x : Operand) (ho : o.op = .call { callee := .builtin .append, args := #[s, x], argTypes := #[22, 22] })
    (base : Nat) (v : Value) (k : Nat) (L : List Nat) (hs : a.eval s = v) (hown : w.ownsRow base 42 1 v k (U32 L)) (g y : Nat) (hx : a.eval x = .slice (some ⟨g, 0, none⟩) 1 1) (hb : Blk w g 42 #[.int .u32 (y : Int)])
    (hk : k ≤ 1000000) (hbase : base ≤ w.heap.size)
    (h : ∀ v' w', w'.ownsRow base 42 1 v' (k + 1) (U32 (L ++ [y])) → w.grownBy w' v.ownBlock → (v'.ownBlock = v.ownBlock ∨ v'.ownBlock = some w.heap.size) → wpList Tryd.prog ops Q rest (a.put o.dst v') w') : wpList Tryd.prog ops Q (o :: rest) a w := by
  obtain ⟨i, hi, hz, hs1, hby⟩ := info_parts info_u32
  have hr : Reads w w.heap.size 1 (some ⟨g, 0, none⟩) 1 [.int .u32 (y : Int)] := ⟨rfl, fun _ => ⟨_, rfl, hb.lt, fun j u hu => by
    have e : (Addr.add ⟨g, 0, none⟩ j) = ⟨g, j, none⟩ := by unfold Addr.add; split <;> simp_all
    rw [e, hb.cell]; simpa using hu⟩⟩
  refine wpList_append_any w hgd s x 22 ho base 42 i _ 1 4 Tryd.underlying22 hi hz hs1 hby rfl (by omega) v k (U32 L) hs hown w.heap.size _ 1 1 _ hx hr (by simp; rfl) (by simp only [maxLen]; omega) (by omega) hbase ?_
  intro v' w' h1 h2 h3
  exact h v' w' (by simpa [U32] using h1) h2 h3
theorem app_int (hgd : o.guard = none) (s x : Operand) (ho : o.op = .call { callee := .builtin .append, args := #[s, x], argTypes := #[33, 33] })
    (base : Nat) (v : Value) (k : Nat) (L : List Int) (hs : a.eval s = v) (hown : w.ownsRow base 3 1 v k (I64 L)) (g : Nat) (y : Int) (hx : a.eval x = .slice (some ⟨g, 0, none⟩) 1 1) (hb : Blk w g 3 #[.int .i64 y])
    (hk : k ≤ 1000000) (hbase : base ≤ w.heap.size)
    (h : ∀ v' w', w'.ownsRow base 3 1 v' (k + 1) (I64 (L ++ [y])) → w.grownBy w' v.ownBlock → (v'.ownBlock = v.ownBlock ∨ v'.ownBlock = some w.heap.size) → wpList Tryd.prog ops Q rest (a.put o.dst v') w') : wpList Tryd.prog ops Q (o :: rest) a w := by
  obtain ⟨i, hi, hz, hs1, hby⟩ := info_parts info_int
  have hr : Reads w w.heap.size 1 (some ⟨g, 0, none⟩) 1 [.int .i64 y] := ⟨rfl, fun _ => ⟨_, rfl, hb.lt, fun j u hu => by
    have e : (Addr.add ⟨g, 0, none⟩ j) = ⟨g, j, none⟩ := by unfold Addr.add; split <;> simp_all
    rw [e, hb.cell]; simpa using hu⟩⟩
  refine wpList_append_any w hgd s x 33 ho base 3 i _ 1 8 Tryd.underlying33 hi hz hs1 hby rfl (by omega) v k (I64 L) hs hown w.heap.size _ 1 1 _ hx hr (by simp; rfl) (by simp only [maxLen]; omega) (by omega) hbase ?_
  intro v' w' h1 h2 h3
  exact h v' w' (by simpa [I64] using h1) h2 h3
end
end Go.Proofs.YtjofdlafblpclaaDoor
