/-
  Rows of bytes; slices.Reverse of bytes; decimal texts.
-/
import Derived.Test.YtifnbpkcnkfanaaNatBits
namespace Go.Proofs.Ytifnbpkcnkfanaa
open Go.RowKit

def U8 (es : List Nat) : List Value := es.map fun (e : Nat) => Value.int .u8 (e : Int)
theorem U8_length (es : List Nat) : (U8 es).length = es.length := by simp [U8]
theorem one_U8 (l : List Nat) : ∀ u ∈ U8 l, u.oneCell' = true := by
  intro v hv; simp only [U8, List.mem_map] at hv; obtain ⟨_, _, rfl⟩ := hv; rfl
def browX (L : List Nat) (X : List Value) : Array Value := (U8 L ++ X).toArray
theorem browX_get {L : List Nat} {X : List Value} {k : Nat} (h : k < L.length) : (browX L X)[k]? = some (.int .u8 (nth L k : Int)) := by
  simp only [browX, List.getElem?_toArray]
  rw [List.getElem?_append_left (by rw [U8_length]; exact h)]
  simp [U8, nth, List.getD, h]
theorem browX_set (L : List Nat) (X : List Value) (k x : Nat) (h : k < L.length) : (browX L X).setIfInBounds k (.int .u8 (x : Int)) = browX (L.set k x) X := by
  simp only [browX, List.setIfInBounds_toArray]
  rw [List.set_append_left _ _ (by rw [U8_length]; exact h)]
  simp [U8, List.map_set]
theorem own_browX {w : World} {base : Nat} {t : TypeId} {n : Nat} {v : Value} {L : List Nat} (h : w.ownsRow base t 1 v n (U8 L)) (hn : 0 < n) :
    ∃ g c X, v = .slice (some ⟨g, 0, none⟩) n c ∧ base ≤ g ∧ n ≤ c ∧ Blk w g t (browX L X) ∧ L.length = n := by
  have hl := h.1
  rw [U8_length] at hl
  rcases h.2 with ⟨_, h0⟩ | ⟨g, cap, cur, rfl, hb, hh, hc, _, _, htk⟩
  · omega
  · refine ⟨g, cap, cur.toList.drop n, rfl, hb, hc, ?_, by omega⟩
    rw [Nat.mul_one] at htk
    have : cur = browX L (cur.toList.drop n) := by
      simp only [browX]
      rw [← htk, List.take_append_drop]
    unfold Blk
    rw [hh]
    exact congrArg (fun z => some (Obj.cells z t (0, 0))) this
theorem info_u8 : (Try.prog.info? 5).map (fun i => (i.zero, i.size, i.bytes)) = some (some (.int .u8 0), 1, 1) := by kernel_rfl
section
variable {ops : Array Oper} {rest : List Oper} {o : Oper} {a : Act} {w : World} {Q : Exit → Act → World → Prop}
theorem app_u8 (hgd : o.guard = none) (s x : Operand) (ho : o.op = .call { callee := .builtin .append, args := #[s, x], argTypes := #[99, 99] })
    (base : Nat) (v : Value) (k : Nat) (L : List Nat) (hs : a.eval s = v) (hown : w.ownsRow base 5 1 v k (U8 L)) (g y : Nat) (hx : a.eval x = .slice (some ⟨g, 0, none⟩) 1 1) (hb : Blk w g 5 #[.int .u8 (y : Int)])
    (hk : k ≤ 100000000) (hbase : base ≤ w.heap.size)
    (h : ∀ v' w', w'.ownsRow base 5 1 v' (k + 1) (U8 (L ++ [y])) → w.grownBy w' v.ownBlock → (v'.ownBlock = v.ownBlock ∨ v'.ownBlock = some w.heap.size) → wpList Try.prog ops Q rest (a.put o.dst v') w') : wpList Try.prog ops Q (o :: rest) a w := by
  obtain ⟨i, hi, hz, hs1, hby⟩ := info_parts info_u8
  have hr : Reads w w.heap.size 1 (some ⟨g, 0, none⟩) 1 [.int .u8 (y : Int)] := ⟨rfl, fun _ => ⟨_, rfl, hb.lt, fun j u hu => by
    have e : (Addr.add ⟨g, 0, none⟩ j) = ⟨g, j, none⟩ := by unfold Addr.add; split <;> simp_all
    rw [e, hb.cell]; simpa using hu⟩⟩
  refine wpList_append_any w hgd s x 99 ho base 5 i _ 1 1 Try.underlying99 hi hz hs1 hby rfl (by omega) v k (U8 L) hs hown w.heap.size _ 1 1 _ hx hr (by simp; rfl) (by simp only [maxLen]; omega) (by omega) hbase ?_
  intro v' w' h1 h2 h3
  exact h v' w' (by simpa [U8] using h1) h2 h3
end

/-- Reverse so far: the outer i elements are exchanged. -/
def RvInv (L0 L : List Nat) (i : Nat) : Prop := L.length = L0.length ∧ ∀ t, t < L0.length → nth L t = if t < i ∨ L0.length - 1 - i < t then nth L0 (L0.length - 1 - t) else nth L0 t
theorem RvInv.step {L0 L : List Nat} {i : Nat} (h : RvInv L0 L i) (hi : i < L0.length - 1 - i) : RvInv L0 ((L.set i (nth L0 (L0.length - 1 - i))).set (L0.length - 1 - i) (nth L0 i)) (i + 1) := by
  obtain ⟨h1, h2⟩ := h
  refine ⟨by rw [List.length_set, List.length_set]; exact h1, fun t ht => ?_⟩
  rw [nth_set (by rw [List.length_set]; omega), nth_set (by omega)]
  by_cases a1 : t = L0.length - 1 - i
  · rw [if_pos a1, if_pos (by omega)]
    congr 1; omega
  · rw [if_neg a1]
    by_cases a2 : t = i
    · rw [if_pos a2, if_pos (by omega)]; subst a2; rfl
    · rw [if_neg a2, h2 t ht]
      by_cases a3 : t < i ∨ L0.length - 1 - i < t
      · rw [if_pos a3, if_pos (by omega)]
      · rw [if_neg a3, if_neg (by omega)]
theorem RvInv.done {L0 L : List Nat} {i : Nat} (h : RvInv L0 L i) (hi : L0.length - 1 - i ≤ i) : L = L0.reverse := by
  obtain ⟨h1, h2⟩ := h
  apply List.ext_getElem
  · simp [h1]
  · intro t ht1 ht2
    rw [← nth_eq ht1, h2 t (by omega), List.getElem_reverse]
    by_cases a : t < i ∨ L0.length - 1 - i < t
    · rw [if_pos a, nth_eq (by omega)]
    · rw [if_neg a, nth_eq (by omega)]
      congr 1; omega

def RetRv (w : World) (g : Nat) (t : TypeId) (L : List Nat) (X : List Value) (e : Ending) (w' : World) : Prop := e = .returned (.tuple #[]) ∧ Blk w' g t (browX L.reverse X) ∧ w.grownBy w' (some g)

set_option maxHeartbeats 4000000 in
theorem reverse_any (g : Nat) (L0 : List Nat) (X : List Value) (n c : Nat) (w : World) (hn : n = L0.length) (hb : Blk w g 5 (browX L0 X)) (hnn : n ≤ 100000000) (hn0 : 0 < n) :
    Calls Try.prog 71 #[.slice (some ⟨g, 0, none⟩) n c] w (RetRv w g 5 L0 X) := by
  have HN := Lib.hid hn; clear hn
  have HB := Lib.hid hb; clear hb
  go_enter Try.func71, Try.ntmps71
  go_wp2_with fail
  go_loopw [2, 3] (fun iv jv wr => ∃ (i : Nat) (L : List Nat), i ≤ n ∧ 2 * i ≤ n ∧ iv = .int .i64 i ∧ jv = .int .i64 ((n : Int) - 1 - i) ∧ Hid (RvInv L0 L i ∧ Blk wr g 5 (browX L X) ∧ w.grownBy wr (some g))) (fun iv _ _ => n - (intOf iv).toNat)
  case atStart =>
    refine ⟨0, L0, Nat.zero_le _, by omega, rfl, vint_eq (by omega), Lib.hid ⟨⟨rfl, fun t ht => ?_⟩, HB.out, World.grownBy.refl w _⟩⟩
    rw [if_neg (by omega)]
  case round =>
    obtain ⟨i, L, hi, hi2, rfl, rfl, HJ⟩ := hrel
    by_cases hlt : (i : Int) < (n : Int) - 1 - i
    · obtain ⟨j, hj⟩ : ∃ j : Nat, j = n - 1 - i := ⟨_, rfl⟩
      have e1 : (n : Int) - 1 - i = (j : Int) := by omega
      rw [e1] at hlt ⊢
      have hij : i < j := by omega
      have hjn : j < n := by omega
      have hLl : L.length = n := by rw [HJ.out.1.1, HN.out]
      have vi : nth L i = nth L0 i := by rw [HJ.out.1.2 i (by rw [← HN.out]; omega), if_neg (by rw [← HN.out]; omega)]
      have vj : nth L j = nth L0 j := by rw [HJ.out.1.2 j (by rw [← HN.out]; omega), if_neg (by rw [← HN.out]; omega)]
      have ci : wr.cell? ⟨g, i, none⟩ = some (.int .u8 (nth L0 i : Int)) := by rw [HJ.out.2.1.cell, browX_get (by omega), vi]
      have cj : wr.cell? ⟨g, j, none⟩ = some (.int .u8 (nth L0 j : Int)) := by rw [HJ.out.2.1.cell, browX_get (by omega), vj]
      have fi : wr.frozen? ⟨g, i, none⟩ = false := HJ.out.2.1.frozen i
      have fj : wr.frozen? ⟨g, j, none⟩ = false := HJ.out.2.1.frozen j
      have HJJ := Lib.hid hj; clear hj e1
      have HLL := Lib.hid hLl; clear hLl vi vj
      have i1 : (0 : Int) ≤ (i : Int) := by omega
      have i2 : (i : Int) < (n : Int) := by omega
      have i3 : (0 : Int) ≤ (j : Int) := by omega
      have i4 : (j : Int) < (n : Int) := by omega
      have hne : i ≠ j := by omega
      go_wp2_with fail
      go_region
      go_wp2_with fail
      have hst := HJ.out.1.step (i := i) (by rw [← HN.out]; have := HJJ.out; omega)
      rw [← HN.out, ← HJJ.out] at hst
      have hset := (HJ.out.2.1.set_ i (.int .u8 (nth L0 j : Int))).set_ j (.int .u8 (nth L0 i : Int))
      rw [browX_set _ _ _ _ (by rw [HLL.out]; omega), browX_set _ _ _ _ (by rw [List.length_set, HLL.out]; exact hjn)] at hset
      refine ⟨⟨i + 1, _, by omega, by have := HJJ.out; omega, by go_num, vint_eq (by have := HJJ.out; omega), Lib.hid ⟨hst, hset.drew, only_drew (only_setCell (only_setCell HJ.out.2.2 (.inl rfl) _) (.inl rfl) _)⟩⟩, by simp [intOf]; omega⟩
    · go_wp2_with fail
      refine bodyPost_end (results_none rfl _ _ _) rfl ⟨rfl, ?_, HJ.out.2.2⟩
      rw [← HJ.out.1.done (by rw [← HN.out]; omega)]
      exact HJ.out.2.1

/-- The decimal text of a number with the digits D. -/
def textOf (D : List Nat) : ByteArray := if D = [] then ⟨#[48]⟩ else ⟨(D.reverse.map fun d => UInt8.ofNat (d + 48)).toArray⟩

end Go.Proofs.Ytifnbpkcnkfanaa
