/-
  nat.Parse.
-/
import Derived.Test.YtifnbpkcnkfanaaNParseP
import Derived.Test.YtifnbpkcnkfanaaNNum
namespace Go.Proofs.Ytifnbpkcnkfanaa
open Go.RowKit

section
variable {ops : Array Oper} {rest : List Oper} {o : Oper} {a : Act} {w : World} {Q : Exit → Act → World → Prop}
theorem app_nat (hgd : o.guard = none) (s x : Operand) (ho : o.op = .call { callee := .builtin .append, args := #[s, x], argTypes := #[27, 27] })
    (base : Nat) (v : Value) (k : Nat) (L : List Nat) (hs : a.eval s = v) (hown : w.ownsRow base 23 1 v k (U32 L)) (g y : Nat) (hx : a.eval x = .slice (some ⟨g, 0, none⟩) 1 1) (hb : Blk w g 23 #[.int .u32 (y : Int)])
    (hk : k ≤ 1000000) (hbase : base ≤ w.heap.size)
    (h : ∀ v' w', w'.ownsRow base 23 1 v' (k + 1) (U32 (L ++ [y])) → w.grownBy w' v.ownBlock → (v'.ownBlock = v.ownBlock ∨ v'.ownBlock = some w.heap.size) → wpList Try.prog ops Q rest (a.put o.dst v') w') : wpList Try.prog ops Q (o :: rest) a w := by
  obtain ⟨i, hi, hz, hs1, hby⟩ := info_parts info_u32
  have hr : Reads w w.heap.size 1 (some ⟨g, 0, none⟩) 1 [.int .u32 (y : Int)] := ⟨rfl, fun _ => ⟨_, rfl, hb.lt, fun j u hu => by
    have e : (Addr.add ⟨g, 0, none⟩ j) = ⟨g, j, none⟩ := by unfold Addr.add; split <;> simp_all
    rw [e, hb.cell]; simpa using hu⟩⟩
  refine wpList_append_any w hgd s x 27 ho base 23 i _ 1 4 Try.underlying27 hi hz hs1 hby rfl (by omega) v k (U32 L) hs hown w.heap.size _ 1 1 _ hx hr (by simp; rfl) (by simp only [maxLen]; omega) (by omega) hbase ?_
  intro v' w' h1 h2 h3
  exact h v' w' (by simpa [U32] using h1) h2 h3
end
theorem own_cap2 {w : World} {base : Nat} {e : TypeId} {n : Nat} {A : Option Addr} {c : Nat} {xs : List Value} (h : w.ownsRow base e 1 (.slice A n c) n xs) : n ≤ c := by
  rcases h.2 with ⟨h1, h2⟩ | ⟨g, cap, cur, h1, _, _, h3, _⟩
  · omega
  · cases h1; exact h3
theorem own_some {w : World} {base : Nat} {e : TypeId} {n : Nat} {A : Option Addr} {c : Nat} {xs : List Value} (h : w.ownsRow base e 1 (.slice A n c) n xs) (hn : 0 < n) : ∃ g, A = some ⟨g, 0, none⟩ ∧ base ≤ g := by
  rcases h.2 with ⟨h1, h2⟩ | ⟨g, cap, cur, h1, hb, _⟩
  · omega
  · cases h1; exact ⟨g, rfl, hb⟩

def RetParse (w : World) (bs : List Nat) (e : Ending) (w' : World) : Prop :=
  (1200 < bs.length → e = .returned (.tuple #[.slice none 0 0, .int .i64 13]) ∧ Below w.heap.size w w') ∧
  (bs.length ≤ 1200 → ¬ PGood bs → e = .returned (.tuple #[.slice none 0 0, .int .i64 15]) ∧ Below w.heap.size w w') ∧
  (bs.length ≤ 1200 → PGood bs → ∃ A k c, e = .returned (.tuple #[.slice A k c, .int .i64 0]) ∧ Num w' A k c 1201 (dv bs bs.length) ∧ Norm w' A k (dv bs bs.length) ∧ Below w.heap.size w w')
theorem RetParse.long {w : World} {bs : List Nat} (h : 1200 < bs.length) {w' : World} (hb : Below w.heap.size w w') : RetParse w bs (.returned (.tuple #[.slice none 0 0, .int .i64 13])) w' :=
  ⟨fun _ => ⟨rfl, hb⟩, fun h1 => by omega, fun h1 => by omega⟩
theorem RetParse.bad {w : World} {bs : List Nat} (h : bs.length ≤ 1200) (hg : ¬ PGood bs) {w' : World} (hb : Below w.heap.size w w') : RetParse w bs (.returned (.tuple #[.slice none 0 0, .int .i64 15])) w' :=
  ⟨fun h1 => by omega, fun _ _ => ⟨rfl, hb⟩, fun _ h1 => absurd h1 hg⟩
theorem ten_PB (n : Nat) : 10 ^ n ≤ PB n := Nat.pow_le_pow_left (by omega) n

set_option maxHeartbeats 8000000 in
theorem parse_loop (s : ByteArray) (w : World) (h1 : s.size ≤ 1200) (h0 : 0 < s.size) (hf : nth (bytesOf s) 0 = 48 → s.size = 1) : Calls Try.prog 55 #[.string s] w (RetParse w (bytesOf s)) := by
  have hl := bytes_length s
  have t1 : decide ((1200 : Int) < (s.size : Int)) = false := by simp; omega
  have t2 : (s.toList == []) = false := by
    have : s.toList ≠ [] := fun h => by rw [bytesOf, h] at hl; simp at hl; omega
    simpa using this
  have hg0 := bytes_get s 0 h0
  have hcase : ((nth (bytesOf s) 0 : Int) == 48) = false ∨ (((nth (bytesOf s) 0 : Int) == 48) = true ∧ (s.toList == [48]) = true) := by
    by_cases h : nth (bytesOf s) 0 = 48
    · right
      refine ⟨by simp [h], ?_⟩
      have h2 := hf h
      have h3 : bytesOf s = bytesOf ⟨#[48]⟩ := by
        rw [h2] at hl
        match hb : bytesOf s, hl with
        | [b], _ =>
          rw [hb] at h; simp [nth] at h; rw [h]; simp [bytesOf, ByteArray.toList_eq]
      have h4 := bytes_inj h3
      rw [h4]; simp [ByteArray.toList_eq]
    · left; simp; omega
  have HF := Lib.hid hf; clear hf
  have HL := Lib.hid hl; clear hl
  rcases hcase with t3 | ⟨t3, t4⟩
  all_goals
    go_enter Try.func55, Try.ntmps55
    go_wp2_with fail
    go_loopw [4, 24] (fun ov iv wr => ∃ (i k : Nat) (L : List Nat), iv = .int .i64 i ∧ i ≤ s.size ∧ k ≤ 1201 ∧ Hid (Nrm 4294967296 L (dv (bytesOf s) i) ∧ wr.ownsRow w.heap.size 23 1 ov k (U32 L) ∧ (∀ j, j < i → 48 ≤ nth (bytesOf s) j ∧ nth (bytesOf s) j ≤ 57) ∧ Below w.heap.size w wr)) (fun _ iv _ => s.size - (intOf iv).toNat)
    case atStart => exact ⟨0, 0, [], rfl, by omega, by omega, Lib.hid ⟨Nrm.nil _, own_nil _ _ _, fun j hj => by omega, Below.refl _ _⟩⟩
    case round =>
      obtain ⟨i, k, L, rfl, hi, hk, HJ⟩ := hrel
      obtain ⟨Ao, co, rfl⟩ := own_form HJ.out.2.1
      by_cases hlt : i < s.size
      · have hgi := bytes_get s i hlt
        have hbl := bytes_lt s _ (nth_mem (show i < (bytesOf s).length by rw [HL.out]; exact hlt))
        obtain ⟨b, hb⟩ : ∃ b, b = nth (bytesOf s) i := ⟨_, rfl⟩
        rw [← hb] at hgi hbl
        have HBB := Lib.hid hb; clear hb
        by_cases hb1 : b < 48
        · go_wp2_with fail
          refine bodyPost_end (results_tmp2 rfl _ _ _) rfl ?_
          exact RetParse.bad (by rw [HL.out]; exact h1) (fun hg => by have := hg.2.1 i (by rw [HL.out]; exact hlt); rw [← HBB.out] at this; omega) HJ.out.2.2.2
        · by_cases hb2 : 57 < b
          · go_wp2_with fail
            refine bodyPost_end (results_tmp2 rfl _ _ _) rfl ?_
            exact RetParse.bad (by rw [HL.out]; exact h1) (fun hg => by have := hg.2.1 i (by rw [HL.out]; exact hlt); rw [← HBB.out] at this; omega) HJ.out.2.2.2
          · obtain ⟨dg, hdg⟩ : ∃ dg, dg = b - 48 := ⟨_, rfl⟩
            have ed : (b : Int) - 48 = (dg : Int) := by omega
            have hd9 : dg ≤ 9 := by omega
            have HDG := Lib.hid (show dv (bytesOf s) (i + 1) = dv (bytesOf s) i * 10 + dg by rw [dv, ← HBB.out, hdg])
            have HGOOD := Lib.hid (show 48 ≤ nth (bytesOf s) i ∧ nth (bytesOf s) i ≤ 57 by rw [← HBB.out]; omega)
            have hll : L.length = k := by have := HJ.out.2.1.1; rw [U32_length] at this; omega
            have HLL := Lib.hid hll; clear hll
            clear hdg
            go_wp2_with fail
            go_loopw [6, 44] (fun cv jv wr => ∃ (j cr : Nat) (L' : List Nat), jv = .int .i64 j ∧ j ≤ k ∧ cv = .int .u64 cr ∧ cr ≤ 10 ∧ Hid (PaInv L L' dg j cr ∧ wr.ownsRow w.heap.size 23 1 (.slice Ao k co) k (U32 L') ∧ Below w.heap.size w wr)) (fun _ jv _ => k - (intOf jv).toNat)
            case atStart => exact ⟨0, dg, L, rfl, by omega, by simp, by omega, Lib.hid ⟨PaInv.start HJ.out.1.2.1 hd9, HJ.out.2.1, HJ.out.2.2.2⟩⟩
            case round =>
              obtain ⟨j, cr, L', rfl, hj, rfl, hcr, HI⟩ := hrel
              by_cases hjk : j < k
              · obtain ⟨g, rfl, hg⟩ := own_some HI.out.2.1 (by omega)
                have hl' : L'.length = k := by rw [HI.out.1.1, HLL.out]
                have hcell : wr.cell? ⟨g, j, none⟩ = some (.int .u32 (nth L j : Int)) := by
                  rw [HI.out.2.1.cellAt j (by omega)]
                  have : nth L' j = nth L j := HI.out.1.2.2.2.2 j (Nat.le_refl _) (by rw [HLL.out]; exact hjk)
                  rw [← this]
                  simp [U32, nth, List.getD, hl', hjk]
                have hfz : wr.frozen? ⟨g, j, none⟩ = false := HI.out.2.1.frozenAt j
                have hx := HJ.out.1.2.1 _ (nth_mem (show j < L.length by rw [HLL.out]; exact hjk))
                obtain ⟨x, hxx⟩ : ∃ x, x = nth L j := ⟨_, rfl⟩
                obtain ⟨sm, hsm⟩ : ∃ sm, sm = cr + 10 * x := ⟨_, rfl⟩
                have hst := Lib.hid (HI.out.1.step (s := sm) (by rw [HLL.out]; exact hjk) HJ.out.1.2.1 (by rw [hsm, hxx]))
                rw [← hxx] at hcell hx
                have e1 : (cr : Int) + 10 * (x : Int) = (sm : Int) := by omega
                have hsb : sm ≤ 42949672970 := by omega
                have HLP := Lib.hid hl'
                clear hsm hxx hl'
                go_wp2_with fail
                have hstore := HI.out.2.1.stored j (.int .u32 ((sm % 4294967296 : Nat) : Int))
                have hset : (U32 L').set j (.int .u32 ((sm % 4294967296 : Nat) : Int)) = U32 (L'.set j (sm % 4294967296)) := by simp [U32, List.map_set]
                rw [hset] at hstore
                refine ⟨⟨j + 1, sm / 4294967296, L'.set j (sm % 4294967296), by go_num, by omega, by simp, hst.out.2.2.2.1, Lib.hid ⟨hst.out, ?_, HI.out.2.2.setCell hg _⟩⟩, by simp [intOf]; omega⟩
                have := hstore.1
                simpa using this
              · obtain rfl : j = k := by omega
                have hin := HI.out.1
                rw [← HLL.out] at hin
                have HIN := Lib.hid hin; clear hin
                have hgood : ∀ j, j < i + 1 → 48 ≤ nth (bytesOf s) j ∧ nth (bytesOf s) j ≤ 57 := fun j hj => by
                  by_cases h : j = i
                  · subst h; exact HGOOD.out
                  · exact HJ.out.2.2.1 j (by omega)
                have hlt10 := dv_lt (bs := bytesOf s) (i + 1) (fun j hj => (hgood j hj).2)
                have HG2 := Lib.hid hgood; clear hgood
                have HLT10 := Lib.hid hlt10; clear hlt10
                by_cases hc0 : 0 < cr
                · have hN' := HIN.out.grow HJ.out.1 hc0
                  rw [← HDG.out] at hN'
                  have hk2 : j + 1 ≤ 1201 := by
                    have h2 := PB_len hN' (Nat.lt_of_lt_of_le HLT10.out (ten_PB _))
                    rw [List.length_append, List.length_singleton, HIN.out.1, HLL.out] at h2
                    omega
                  have HN2 := Lib.hid hN'; clear hN'
                  go_wp2_with (at_builtin; refine app_nat rfl (.tmp 65) (.tmp 68) rfl w.heap.size _ j L' rfl (HI.out.2.1.alloc _) wr.heap.size cr rfl (Blk.new wr 23 _) (by omega) (by have := HI.out.2.2.size; simp; omega) ?_; intro v' w4 hown4 hg4 hat4; have H4 := Lib.hid (And.intro hown4 hg4); clear hown4 hg4 hat4)
                  have hB4 := Below.appended (HI.out.2.2.alloc HI.out.2.2.size (.cells #[.int .u32 (cr : Int)] 23)) (HI.out.2.1.alloc _) H4.out.2 (by have := HI.out.2.2.size; simp; omega) (Nat.le_refl _)
                  refine ⟨⟨i + 1, j + 1, L' ++ [cr], by go_num, by omega, hk2, Lib.hid ⟨HN2.out, H4.out.1, HG2.out, hB4⟩⟩, ?_⟩
                  simp [intOf]; omega
                · obtain rfl : cr = 0 := by omega
                  have hN' := HIN.out.stop HJ.out.1
                  rw [← HDG.out] at hN'
                  have HN2 := Lib.hid hN'; clear hN'
                  have h00 : ((0 : Nat) : Int) = 0 := rfl
                  go_wp2_with fail
                  refine ⟨⟨i + 1, j, L', by go_num, by omega, hk, Lib.hid ⟨HN2.out, HI.out.2.1, HG2.out, HI.out.2.2⟩⟩, ?_⟩
                  simp [intOf]; omega
      · obtain rfl : i = s.size := by omega
        go_wp2_with fail
        refine bodyPost_end (results_tmp2 rfl _ _ _) rfl ?_
        have hG : PGood (bytesOf s) := by
          refine ⟨fun h => ?_, ?_, ?_⟩
          · have := HL.out; rw [h] at this; simp at this; omega
          · rw [HL.out]; exact HJ.out.2.2.1
          · rw [HL.out]; exact HF.out
        refine ⟨fun h => by rw [HL.out] at h; omega, fun _ hn => absurd hG hn, fun _ _ => ?_⟩
        · obtain ⟨A2, c2, he, hE⟩ := Es.of_own HJ.out.2.1 HJ.out.1.2.1
          cases he
          have hlt10 := dv_lt (bs := bytesOf s) s.size (fun j hj => (HJ.out.2.2.1 j hj).2)
          have h3 : dv (bytesOf s) s.size < PB 1201 := Nat.lt_of_lt_of_le (Nat.lt_of_lt_of_le hlt10 (ten_PB _)) (PB_mono (by omega))
          rw [HL.out]
          have := Num.of_nrm hE (own_cap2 HJ.out.2.1) HJ.out.1 h3 (by omega) (by omega)
          exact ⟨Ao, k, co, rfl, this.1, this.2, HJ.out.2.2.2⟩

set_option maxHeartbeats 2000000 in
theorem parse_any (s : ByteArray) (w : World) (hs : s.size ≤ 9223372036854775807) : Calls Try.prog 55 #[.string s] w (RetParse w (bytesOf s)) := by
  have hl := bytes_length s
  by_cases h1 : 1200 < s.size
  · have t1 : decide ((1200 : Int) < (s.size : Int)) = true := by simp; omega
    have HL := Lib.hid hl; clear hl
    go_enter Try.func55, Try.ntmps55
    go_wp2_with fail
    refine bodyPost_end (results_tmp2 rfl _ _ _) rfl ?_
    exact RetParse.long (by rw [HL.out]; exact h1) (Below.refl _ _)
  · have t1 : decide ((1200 : Int) < (s.size : Int)) = false := by simp; omega
    by_cases h0 : s.size = 0
    · have hn : bytesOf s = [] := List.eq_nil_of_length_eq_zero (by omega)
      have t2 : (s.toList == []) = true := by rw [bytes_nil.1 hn]; rfl
      have HN := Lib.hid hn; clear hn hl
      go_enter Try.func55, Try.ntmps55
      go_wp2_with fail
      refine bodyPost_end (results_tmp2 rfl _ _ _) rfl ?_
      exact RetParse.bad (by rw [HN.out]; simp) (fun hg => hg.1 HN.out) (Below.refl _ _)
    · by_cases hf : nth (bytesOf s) 0 = 48 → s.size = 1
      · exact parse_loop s w (by omega) (by omega) hf
      · have t2 : (s.toList == []) = false := by
          have : s.toList ≠ [] := fun h => by rw [bytesOf, h] at hl; simp at hl; omega
          simpa using this
        have h00 : 0 < s.size := Nat.pos_of_ne_zero h0
        have hg0 := bytes_get s 0 h00
        have hf1 : nth (bytesOf s) 0 = 48 := Classical.byContradiction fun h => hf fun h' => absurd h' h
        have t3 : ((nth (bytesOf s) 0 : Int) == 48) = true := by simp [hf1]
        have t4 : (s.toList == [48]) = false := by
          have : s.toList ≠ [48] := fun h => by rw [bytesOf, h] at hl; simp at hl; exact hf fun _ => by omega
          simpa using this
        have HL := Lib.hid hl; clear hl
        have HF := Lib.hid hf; clear hf hf1
        go_enter Try.func55, Try.ntmps55
        go_wp2_with fail
        refine bodyPost_end (results_tmp2 rfl _ _ _) rfl ?_
        exact RetParse.bad (by rw [HL.out]; omega) (fun hg => HF.out (by have := hg.2.2; rwa [HL.out] at this)) (Below.refl _ _)
end Go.Proofs.Ytifnbpkcnkfanaa
