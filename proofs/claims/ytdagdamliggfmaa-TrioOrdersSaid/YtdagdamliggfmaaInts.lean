/-
  Contracts of slices.Index, Contains and Clone at int.
-/
import Derived.Test.YtdagdamliggfmaaAcy
namespace Go.Proofs.Ytdagdamliggfmaa
open Go.RowKit

set_option maxHeartbeats 1000000 in
theorem contains_int (A : Option Addr) (xs : List Int) (len c : Nat) (z : Int) (w : World) (hr : Xs w w.heap.size A len xs) :
    Calls Try.prog 43 #[.slice A len c, .int .i64 z] w fun e w' => e = .returned (.bool (decide (z ∈ xs))) ∧ Below w.heap.size w w' := by
  have hle := hr.le
  have HLEN := Lib.hid hr.len
  have HR := Lib.hid hr; clear hr
  have key : Calls Try.prog 53 #[.slice A len c, .int .i64 z] w fun e w' => (∃ i : Int, e = .returned (.int .i64 i) ∧ (decide (0 ≤ i) = decide (z ∈ xs))) ∧ w = w' := by
    go_enter Try.func53, Try.ntmps53
    go_wp2_with fail
    go_loop [5, 8] (fun _ i => ∃ k : Nat, k ≤ len ∧ i = .int .i64 k ∧ Hid (∀ j, j < k → inth xs j ≠ z)) (fun _ i => len - (intOf i).toNat)
    case atStart => exact ⟨0, Nat.zero_le _, rfl, Lib.hid fun j hj => absurd hj (by omega)⟩
    case round =>
      obtain ⟨k, hk, rfl, HI⟩ := hrel
      by_cases hlt : k < len
      · obtain ⟨ad, rfl, hb1, hc⟩ := HR.out.at_ hlt
        have hkl : k < xs.length := by have := HLEN.out; omega
        by_cases hz : z = inth xs k
        · have ht : (z == inth xs k) = true := by simp [hz]
          have HZ := Lib.hid hz; clear hz
          go_wp2_with fail
          go_ret
          refine ⟨⟨k, rfl, ?_⟩, rfl⟩
          exact ⟨fun _ => by rw [HZ.out]; exact inth_mem hkl, fun _ => by omega⟩
        · have ht : (z == inth xs k) = false := by rw [beq_eq_false_iff_ne]; exact hz
          have HZ := Lib.hid hz; clear hz
          go_wp2_with fail
          refine ⟨⟨k + 1, by omega, by go_num, Lib.hid fun j hj => ?_⟩, by simp [intOf]; omega⟩
          by_cases hjk : j = k
          · rw [hjk]; exact Ne.symm HZ.out
          · exact HI.out j (by omega)
      · go_wp2_with fail
        go_ret
        refine ⟨⟨-1, rfl, ?_⟩, rfl⟩
        refine ⟨fun h => by omega, fun h => ?_⟩
        obtain ⟨j, hj, hj2⟩ := List.getElem_of_mem h
        exact absurd ((inth_eq hj).trans hj2) (HI.out j (by have := HLEN.out; omega))
  go_enter Try.func43, Try.ntmps43
  go_wp2_with fail
  refine key.mono ?_
  rintro e w1 ⟨⟨i, rfl, hi⟩, rfl⟩
  have H := Lib.hid hi; clear hi key
  go_wp2_with fail
  go_ret
  exact ⟨ret_bool H.out, Below.refl _ _⟩

theorem eq_nil_int (A : Option Addr) (n c : Nat) (w : World) : (binOp .eql 25 (.slice A n c) (.slice none 0 0)).run Try.prog w = .ok (.bool A.isNone) w := by
  simp only [binOp]
  simp [Op.equal, Op.maxDepth, Lib.run_equalIn_slice_nil w 9999 25 3 A n c 0 0 Try.underlying25]

set_option maxHeartbeats 1000000 in
theorem clone_int (A : Option Addr) (xs : List Int) (n c : Nat) (w : World) (hr : Xs w w.heap.size A n xs) (hn : n ≤ 1000000) :
    Calls Try.prog 44 #[.slice A n c] w fun e w' => ∃ A' c', e = .returned (.slice A' n c') ∧ w'.ownsRow w.heap.size 3 1 (.slice A' n c') n (I64 xs) ∧ Below w.heap.size w w' := by
  have HR := Lib.hid hr; clear hr
  cases A with
  | none =>
    have h0 : n = 0 := by
      rcases Nat.eq_zero_or_pos n with h | h
      · exact h
      · obtain ⟨ad, he, _⟩ := HR.out.1.2 h
        cases he
    subst h0
    have HE := Lib.hid (show xs = [] from List.eq_nil_of_length_eq_zero HR.out.len.symm)
    have hnil := eq_nil_int none 0 c
    go_enter Try.func44, Try.ntmps44
    go_wp2_with fail
    go_ret
    rw [HE.out]
    exact ⟨none, 0, rfl, own_nil _ _ _, Below.refl _ _⟩
  | some ad =>
    obtain ⟨i, hi, hz, hs1, hby⟩ := info_parts info_int
    have hnil := eq_nil_int (some ad) n c
    go_enter Try.func44, Try.ntmps44
    go_wp2_with (at_builtin; refine wpList_append_any _ rfl _ _ 25 rfl w.heap.size 3 i _ 1 8 Try.underlying25 hi hz hs1 hby rfl (by omega) (.slice (some ⟨w.heap.size, 0, none⟩) 0 0) 0 [] rfl (own_empty w 3) w.heap.size (some ad) n c (I64 xs) rfl (HR.out.1.alloc (Nat.le_refl _) _) (one_I64 xs) (by simp only [maxLen]; omega) (by omega) (by simp) ?_; intro v' w1 hown' hgr hor; rw [Nat.zero_add, List.nil_append] at hown'; obtain ⟨A', c', rfl⟩ := own_form hown'; have HW := Lib.hid hown'; have HG := Lib.hid hgr; clear hown' hgr hor)
    go_ret
    exact ⟨A', c', rfl, HW.out, Below.appended (al _ _) (own_empty w 3) HG.out (by simp) (Nat.le_refl _)⟩

theorem step_app_int {ops : Array Oper} {o : Oper} {a : Act} {w : World} {K : Act → World → Prop} {Q : Exit → Act → World → Prop} {E : Prop} (hgd : Region.wanted o (yielded ops a.tmps) = true) (s x : Operand) (ho : o.op = .call { callee := .builtin .append, args := #[s, x], argTypes := #[25, 25] })
    (base : Nat) (v : Value) (L : List Int) (hs : a.eval s = v) (hown : w.ownsRow base 3 1 v L.length (I64 L)) (g : Nat) (y : Int) (hx : a.eval x = .slice (some ⟨g, 0, none⟩) 1 1) (hb : Blk w g 3 #[.int .i64 y])
    (hk : L.length ≤ 1000000) (hbase : base ≤ w.heap.size)
    (h : ∀ v' w', w'.ownsRow base 3 1 v' (L ++ [y]).length (I64 (L ++ [y])) → w.grownBy w' v.ownBlock → (v'.ownBlock = v.ownBlock ∨ v'.ownBlock = some w.heap.size) → K (a.put o.dst v') w') :
    if Region.wanted o (yielded ops a.tmps) = true then Oper.wp Try.prog o a w K Q else E := by
  obtain ⟨i, hi, hz, hs1, hby⟩ := info_parts info_int
  have hr : Reads w w.heap.size 1 (some ⟨g, 0, none⟩) 1 [.int .i64 y] := ⟨rfl, fun _ => ⟨_, rfl, hb.lt, fun j u hu => by
    have e : (Addr.add ⟨g, 0, none⟩ j) = ⟨g, j, none⟩ := by unfold Addr.add; split <;> simp_all
    rw [e, hb.cell]; simpa using hu⟩⟩
  rw [if_pos hgd]
  refine wp_append_any w s x 25 ho base 3 i _ 1 8 Try.underlying25 hi hz hs1 hby rfl (by omega) v L.length (I64 L) hs hown w.heap.size _ 1 1 _ hx hr (by simp; rfl) (by simp only [maxLen]; omega) (by omega) hbase ?_
  intro v' w' h1 h2 h3
  exact h v' w' (by rw [List.length_append]; simpa [I64] using h1) h2 h3
end Go.Proofs.Ytdagdamliggfmaa
