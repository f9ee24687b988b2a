/-
  Contracts of law26.Few, slices.Clone and law32.pairs.
-/
import Derived.Test.YtdagdamliggfmaaRAll
import Derived.Test.YtdagdamliggfmaaFillP
namespace Go.Proofs.Ytdagdamliggfmaa
open Go.RowKit

theorem own_lower {w : World} {base base' : Nat} {e : TypeId} {size n : Nat} {v : Value} {xs : List Value} (h : w.ownsRow base e size v n xs) (hb : base' ≤ base) : w.ownsRow base' e size v n xs := by
  refine ⟨h.1, ?_⟩
  rcases h.2 with h0 | ⟨g', cap, cur, rfl, h1, h2⟩
  · exact .inl h0
  · exact .inr ⟨g', cap, cur, rfl, Nat.le_trans hb h1, h2⟩
/-- A row keeps what it holds where only another row, of another element type, has grown. -/
theorem own_grown_own {w w' : World} {base base' : Nat} {e e' : TypeId} {size size' n n' : Nat} {v v' : Value} {xs xs' : List Value} (h : w.ownsRow base e size v n xs) (h' : w.ownsRow base' e' size' v' n' xs') (hne : e ≠ e') (hg : w.grownBy w' v'.ownBlock) : w'.ownsRow base e size v n xs := by
  refine ⟨h.1, ?_⟩
  rcases h.2 with h0 | ⟨g, cap, cur, rfl, h1, h2, h3⟩
  · exact .inl h0
  · refine .inr ⟨g, cap, cur, rfl, h1, ?_, h3⟩
    refine (hg.block g (Blk.lt' h2) ?_).trans h2
    rcases h'.2 with ⟨rfl, _⟩ | ⟨g', cap', cur', rfl, _, h2', _⟩
    · simp [Value.ownBlock]
    · simp only [Value.ownBlock]
      intro he
      injection he with he
      subst he
      rw [h2] at h2'
      injection h2' with h2'
      injection h2' with _ ht
      exact hne ht

def fewB (n : Int) (es : List Nat) : Bool := decide (0 ≤ n ∧ n ≤ 6 ∧ es.length ≤ 8 ∧ checkCode n es = 0)

set_option maxHeartbeats 1000000 in
theorem few_any (n : Int) (A : Option Addr) (es : List Nat) (len c : Nat) (w : World) (hr : Es w w.heap.size A len es) :
    Calls Try.prog 22 #[.agg #[.int .i64 n, .slice A len c]] w fun e w' => e = .returned (.bool (fewB n es)) ∧ Below w.heap.size w w' := by
  have hle := hr.le
  have HLEN := Lib.hid hr.len
  have HR := Lib.hid hr; clear hr
  by_cases h : 0 ≤ n ∧ n ≤ 6 ∧ len ≤ 8
  · obtain ⟨h0, h1, h2⟩ := h
    have HW := Lib.hid (al w (.cells #[.int .i64 n, .slice A len c] 24))
    go_enter Try.func22, Try.ntmps22
    go_wp2_with fail
    refine (of_any n A len c _).mono ?_
    rintro e w1 ⟨rfl, hb⟩
    have HB := Lib.hid (bthen HW.out hb (by simp)); clear hb
    go_wp2_with fail
    refine (rcheck_any n A es len c _ (HR.out.new HB.out)).mono ?_
    rintro e w2 ⟨rfl, hb⟩
    have HB2 := Lib.hid (bthen HB.out hb HB.out.size); clear hb
    go_wp2_with fail
    go_ret
    refine ⟨ret_bool ?_, HB2.out⟩
    have hl : es.length ≤ 8 := by have := HLEN.out; omega
    rw [fewB, Bool.eq_iff_iff]
    simp [h0, h1, hl]
  · have hf : fewB n es = false := by
      rw [fewB, decide_eq_false_iff_not]
      rintro ⟨h0, h1, h2, _⟩
      exact h ⟨h0, h1, by have := HLEN.out; omega⟩
    rw [hf]
    have h : n < 0 ∨ (0 ≤ n ∧ 6 < n) ∨ (0 ≤ n ∧ n ≤ 6 ∧ 8 < len) := by omega
    rcases h with h | ⟨h0, h⟩ | ⟨h0, h1, h⟩
    all_goals
      go_enter Try.func22, Try.ntmps22
      go_wp2_with fail
      go_ret
      exact ⟨rfl, al _ _⟩

theorem eq_nil (A : Option Addr) (n c : Nat) (w : World) : (binOp .eql 22 (.slice A n c) (.slice none 0 0)).run Try.prog w = .ok (.bool A.isNone) w := by
  simp only [binOp]
  simp [Op.equal, Op.maxDepth, Lib.run_equalIn_slice_nil w 9999 22 35 A n c 0 0 Try.underlying22]

set_option maxHeartbeats 1000000 in
theorem clone_u32 (A : Option Addr) (es : List Nat) (n c : Nat) (w : World) (hr : Es w w.heap.size A n es) (hn : n ≤ 1000000) :
    Calls Try.prog 23 #[.slice A n c] w fun e w' => ∃ A' c', e = .returned (.slice A' n c') ∧ w'.ownsRow w.heap.size 35 1 (.slice A' n c') n (U32 es) ∧ Below w.heap.size w w' := by
  have HR := Lib.hid hr; clear hr
  cases A with
  | none =>
    have h0 : n = 0 := by
      rcases Nat.eq_zero_or_pos n with h | h
      · exact h
      · obtain ⟨ad, he, _⟩ := HR.out.1.2 h
        cases he
    subst h0
    have HE := Lib.hid (show es = [] from List.eq_nil_of_length_eq_zero HR.out.len.symm)
    have hnil := eq_nil none 0 c
    go_enter Try.func23, Try.ntmps23
    go_wp2_with fail
    go_ret
    rw [HE.out]
    exact ⟨none, 0, rfl, own_nil _ _ _, Below.refl _ _⟩
  | some ad =>
    obtain ⟨i, hi, hz, hs1, hby⟩ := info_parts info_u32
    have hnil := eq_nil (some ad) n c
    go_enter Try.func23, Try.ntmps23
    go_wp2_with (at_builtin; refine wpList_append_any _ rfl _ _ 22 rfl w.heap.size 35 i _ 1 4 Try.underlying22 hi hz hs1 hby rfl (by omega) (.slice (some ⟨w.heap.size, 0, none⟩) 0 0) 0 [] rfl (own_empty w 35) w.heap.size (some ad) n c (U32 es) rfl (HR.out.1.alloc (Nat.le_refl _) _) (one_U32 es) (by simp only [maxLen]; omega) (by omega) (by simp) ?_; intro v' w1 hown' hgr hor; rw [Nat.zero_add, List.nil_append] at hown'; obtain ⟨A', c', rfl⟩ := own_form hown'; have HW := Lib.hid hown'; have HG := Lib.hid hgr; clear hown' hgr hor)
    go_ret
    exact ⟨A', c', rfl, HW.out, Below.appended (al _ _) (own_empty w 35) HG.out (by simp) (Nat.le_refl _)⟩

theorem step_app_u32 {ops : Array Oper} {o : Oper} {a : Act} {w : World} {K : Act → World → Prop} {Q : Exit → Act → World → Prop} {E : Prop} (hgd : o.guard = none) (s x : Operand) (ho : o.op = .call { callee := .builtin .append, args := #[s, x], argTypes := #[22, 22] })
    (base : Nat) (v : Value) (L : List Nat) (hs : a.eval s = v) (hown : w.ownsRow base 35 1 v L.length (U32 L)) (g y : Nat) (hx : a.eval x = .slice (some ⟨g, 0, none⟩) 1 1) (hb : Blk w g 35 #[.int .u32 (y : Int)])
    (hk : L.length ≤ 1000000) (hbase : base ≤ w.heap.size)
    (h : ∀ v' w', w'.ownsRow base 35 1 v' (L ++ [y]).length (U32 (L ++ [y])) → w.grownBy w' v.ownBlock → (v'.ownBlock = v.ownBlock ∨ v'.ownBlock = some w.heap.size) → K (a.put o.dst v') w') :
    if Region.wanted o (yielded ops a.tmps) = true then Oper.wp Try.prog o a w K Q else E := by
  obtain ⟨i, hi, hz, hs1, hby⟩ := info_parts info_u32
  have hr : Reads w w.heap.size 1 (some ⟨g, 0, none⟩) 1 [.int .u32 (y : Int)] := ⟨rfl, fun _ => ⟨_, rfl, hb.lt, fun j u hu => by
    have e : (Addr.add ⟨g, 0, none⟩ j) = ⟨g, j, none⟩ := by unfold Addr.add; split <;> simp_all
    rw [e, hb.cell]; simpa using hu⟩⟩
  refine step_append_any w hgd s x 22 ho base 35 i _ 1 4 Try.underlying22 hi hz hs1 hby rfl (by omega) v L.length (U32 L) hs hown w.heap.size _ 1 1 _ hx hr (by simp; rfl) (by simp only [maxLen]; omega) (by omega) hbase ?_
  intro v' w' h1 h2 h3
  exact h v' w' (by rw [List.length_append]; simpa [U32] using h1) h2 h3

theorem own_drew_alloc {w : World} {base : Nat} {e : TypeId} {size n : Nat} {v : Value} {xs : List Value} (h : w.ownsRow base e size v n xs) (o : Obj) : (w.drew.alloc o).ownsRow base e size v n xs := World.ownsRow.alloc (own_drewN h 1) o
/-- What stands at a loop's head of pairs. -/
def PairSt (w0 : World) (n : Int) (A : Option Addr) (len c : Nat) (v : Value) (l : List Nat) (wr : World) : Prop :=
  wr.ownsRow (w0.heap.size + 1) 35 1 v l.length (U32 l) ∧ GB wr w0.heap.size 24 (.int .i64 n) (.slice A len c) ∧ Below w0.heap.size w0 wr ∧ w0.heap.size + 1 ≤ wr.heap.size

set_option maxHeartbeats 4000000 in
theorem pairs_any (n : Nat) (A : Option Addr) (es : List Nat) (len c : Nat) (w : World) (hr : Es w w.heap.size A len es) (hn : n ≤ 6) :
    Calls Try.prog 24 #[.agg #[.int .i64 n, .slice A len c]] w fun e w' => ∃ A' c', e = .returned (.slice A' (pairL es n).length c') ∧ w'.ownsRow (w.heap.size + 1) 35 1 (.slice A' (pairL es n).length c') (pairL es n).length (U32 (pairL es n)) ∧ Below w.heap.size w w' := by
  have hle := hr.le
  have HR := Lib.hid hr; clear hr
  have HLEN := Lib.hid (pairL_length es hn)
  go_enter Try.func24, Try.ntmps24
  go_wp2_with fail
  go_loopw [3, 4, 5, 7, 10, 14, 20] (fun v _ _ _ i _ _ wr => ∃ (a : Nat) (l : List Nat), a ≤ n ∧ i = .int .i64 a ∧ Hid (l ++ pairV es n a = pairL es n ∧ PairSt w n A len c v l wr)) (fun _ _ _ _ i _ _ _ => n - (intOf i).toNat)
  case atStart => exact ⟨0, [], Nat.zero_le _, rfl, Lib.hid ⟨rfl, own_nil _ _ _, GB.made _ _ _ _, al _ _, by simp⟩⟩
  case round =>
    obtain ⟨a, l, ha, rfl, HI⟩ := hrel
    by_cases hlt : a < n
    · go_wp2_with fail
      obtain ⟨wo, rfl⟩ : ∃ wo : World, wo = wr := ⟨_, rfl⟩
      go_loopw [3, 5, 7, 14, 20] (fun v _ _ i _ wr => ∃ (b : Nat) (l : List Nat), b ≤ a ∧ i = .int .i64 b ∧ Hid (l ++ (pairW es a b ++ pairV es n (a + 1)) = pairL es n ∧ PairSt w n A len c v l wr)) (fun _ _ _ i _ _ => a - (intOf i).toNat)
      case atStart => exact ⟨0, l, Nat.zero_le _, rfl, Lib.hid ⟨by rw [← pairV_step hlt]; exact HI.out.1, HI.out.2⟩⟩
      case round =>
        obtain ⟨b, l, hb, rfl, HI⟩ := hrel
        by_cases hlt2 : b < a
        · obtain ⟨h1, h2, h3, h4, h5⟩ := HI.out
          have hll : l.length ≤ 36 := by have := HLEN.out; rw [← h1] at this; simp at this; omega
          rw [pairW_step hlt2] at h1
          have H1 := Lib.hid h1; clear h1
          obtain ⟨A1, c1, hv⟩ := own_form h2
          subst hv
          have H2 := Lib.hid h2; clear h2
          have g1 := h3.c1
          have H3 := Lib.hid h3; clear h3
          have H4 := Lib.hid h4; clear h4
          clear HI
          obtain ⟨wo, rfl⟩ : ∃ wo : World, wo = wr := ⟨_, rfl⟩
          go_wp2_with fail
          clear g1
          go_loop [3, 7, 20] (fun v _ i => ∃ k : Nat, k ≤ len ∧ i = .int .i64 k ∧ v = .slice A1 l.length c1 ∧ Hid ((es.take k).any (fun e => e.testBit a && e.testBit b) = false)) (fun _ _ i => len - (intOf i).toNat)
          case atStart => exact ⟨0, Nat.zero_le _, rfl, rfl, Lib.hid rfl⟩
          case round =>
            obtain ⟨k, hk, rfl, rfl, HJ⟩ := hrel
            by_cases hlt3 : k < len
            · obtain ⟨ad, rfl, hb1, hcell⟩ := (HR.out.below H4.out).at_ hlt3
              have hlk : k < es.length := by have := HR.out.len; omega
              have hek := Lib.hid (HR.out.lt hlt3)
              have hst := Lib.hid (any_take_succ (fun e => e.testBit a && e.testBit b) es k hlk)
              cases hta : (nth es k).testBit a with
              | false =>
                have ht : (bits .and .u32 ((nth es k : Int) / 2 ^ a) 1 == 1) = false := by rw [bit_test _ _ hek.out]; exact hta
                have HTA := Lib.hid hta; clear hta
                go_wp2_with fail
                exact ⟨⟨k + 1, by omega, by go_num, rfl, Lib.hid (by rw [hst.out, HJ.out, HTA.out]; rfl)⟩, by simp [intOf]; omega⟩
              | true =>
                have ht : (bits .and .u32 ((nth es k : Int) / 2 ^ a) 1 == 1) = true := by rw [bit_test _ _ hek.out]; exact hta
                have HTA := Lib.hid hta; clear hta
                cases htb : (nth es k).testBit b with
                | false =>
                  have ht2 : (bits .and .u32 ((nth es k : Int) / 2 ^ b) 1 == 1) = false := by rw [bit_test _ _ hek.out]; exact htb
                  have HTB := Lib.hid htb; clear htb
                  go_wp2_with fail
                  exact ⟨⟨k + 1, by omega, by go_num, rfl, Lib.hid (by rw [hst.out, HJ.out, HTA.out, HTB.out]; rfl)⟩, by simp [intOf]; omega⟩
                | true =>
                  have ht2 : (bits .and .u32 ((nth es k : Int) / 2 ^ b) 1 == 1) = true := by rw [bit_test _ _ hek.out]; exact htb
                  have HTB := Lib.hid htb; clear htb
                  have HAny := Lib.hid (show es.any (fun e => e.testBit a && e.testBit b) = true by rw [List.any_eq_true]; exact ⟨_, nth_mem hlk, by rw [HTA.out, HTB.out]; rfl⟩)
                  go_wp2_with fail
                  clear ht ht2 hcell
                  have hxa : 2 ^ a < 2 ^ 32 := pow2_lt32 (by omega)
                  have hxb : 2 ^ b < 2 ^ 32 := pow2_lt32 (by omega)
                  have HOR := Lib.hid (show bits .or .u32 ((2 : Int) ^ a % 4294967296) ((2 : Int) ^ b % 4294967296) = ((2 ^ a ||| 2 ^ b : Nat) : Int) by rw [shl_mod a (by omega), shl_mod b (by omega), bits_or _ _ hxa hxb])
                  clear hxa hxb
                  go_region_held3 (fun _ => True) (trivial) (first
                    | (go_loud (refine step_app_u32 rfl _ _ rfl (w.heap.size + 1) (Value.slice A1 l.length c1) l rfl (own_drew_alloc H2.out _) wo.heap.size (2 ^ a ||| 2 ^ b) rfl (by rw [← HOR.out]; exact Blk.new _ _ _) (by omega) (by simp; omega) ?_; intro v' w3 hown' hgr hor; obtain ⟨A', c', rfl⟩ := own_form hown'; have HW := Lib.hid hown'; have HGR := Lib.hid hgr; clear hown' hgr hor)))
                  have hL : (l ++ [2 ^ a ||| 2 ^ b]).length = l.length + 1 := by simp
                  have hw := HW.out
                  rw [hL] at hw
                  have HWW := Lib.hid hw; clear hw
                  have HL := Lib.hid hL; clear hL
                  go_wp2_with fail
                  refine ⟨⟨b + 1, l ++ [2 ^ a ||| 2 ^ b], by omega, by go_num, Lib.hid ⟨?_, ?_, ?_, ?_, ?_⟩⟩, by simp [intOf]; omega⟩
                  · have := H1.out
                    rw [HAny.out] at this
                    simpa using this
                  · rw [HL.out]; exact HWW.out
                  · exact GB.appended (H3.out.drew.alloc _) (own_drew_alloc H2.out _) HGR.out (by decide)
                  · exact Below.appended (H4.out.drew.alloc (by have := H4.out.size; exact this) _) (own_drew_alloc H2.out _) HGR.out (by simp; omega) (by omega)
                  · have := HGR.out.size; simp at this; omega
            · go_wp2_with fail
              refine ⟨⟨b + 1, l, by omega, by go_num, Lib.hid ⟨?_, H2.out, H3.out, H4.out, h5⟩⟩, by simp [intOf]; omega⟩
              have h6 := HJ.out
              rw [List.take_of_length_le (by have := HR.out.len; omega)] at h6
              have := H1.out
              rw [h6] at this
              simpa using this
        · go_wp2_with fail
          refine ⟨⟨a + 1, l, by omega, by go_num, Lib.hid ⟨?_, HI.out.2⟩⟩, by simp [intOf]; omega⟩
          have := HI.out.1
          rw [pairW_end (by omega)] at this
          exact this
    · obtain ⟨h1, h2, h3, h4, h5⟩ := HI.out
      rw [pairV_end (by omega), List.append_nil] at h1
      obtain ⟨A1, c1, hv⟩ := own_form h2
      subst hv
      have H1 := Lib.hid h1; clear h1
      have H4 := Lib.hid h4; clear h4 h3 HI
      have H2 := Lib.hid h2; clear h2
      go_wp2_with fail
      go_ret
      rw [← H1.out]
      exact ⟨A1, c1, rfl, H2.out, H4.out⟩
end Go.Proofs.Ytdagdamliggfmaa
