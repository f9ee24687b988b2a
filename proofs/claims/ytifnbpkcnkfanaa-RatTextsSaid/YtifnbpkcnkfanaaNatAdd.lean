/-
  Contracts of nat.Add, Sub.
-/
import Derived.Test.YtifnbpkcnkfanaaNat
namespace Go.Proofs.Ytifnbpkcnkfanaa
open Go.RowKit

theorem mk_nat (n : Nat) (hn : n ≤ 60000000000000) (W : World) : (Instr.makeSlice 27 (.int .i64 (n : Int)) (.int .i64 (n : Int))).run Try.prog W = .ok (.slice (some ⟨W.heap.size, 0, none⟩) n n) (W.alloc (.cells (urow (zer n)) 23)) := by
  obtain ⟨i, hi, hz, hs, hb⟩ := info_parts info_u32
  have h := run_make_rowN (P := Try.prog) 27 23 i (.int .u32 0) Try.underlying27 hi hz .i64 .i64 n n (Nat.le_refl _) (by rw [hb]; omega) (by omega) W
  rw [hs, Nat.mul_one] at h
  rw [h, zer, ← urow_make]; rfl

/-- The sum so far. -/
def AddInv (l f L : List Nat) (i c : Nat) : Prop := L.length = l.length + 1 ∧ (∀ d ∈ L, d < 4294967296) ∧ valB 4294967296 (L.take i) + 4294967296 ^ i * c = valB 4294967296 (l.take i) + valB 4294967296 (f.take i) ∧ c ≤ 1
theorem take_set_lt {L : List Nat} {i x : Nat} (h : i < L.length) : (L.set i x).take (i + 1) = L.take i ++ [x] := by
  rw [List.take_succ_eq_append_getElem (by simp; exact h)]
  simp only [List.getElem_set_self, List.take_set]
  rw [List.set_eq_of_length_le (by simp; omega)]
theorem mem_set {L : List Nat} {i x b : Nat} (h : ∀ d ∈ L, d < b) (hx : x < b) : ∀ d ∈ L.set i x, d < b := by
  intro d hd
  rcases List.mem_or_eq_of_mem_set hd with h1 | h1
  · exact h d h1
  · omega
theorem valB_snoc (b : Nat) (l : List Nat) (x : Nat) : valB b (l ++ [x]) = valB b l + b ^ l.length * x := by rw [valB_append, valB_single]
theorem AddInv.step {l f L : List Nat} {i c s : Nat} (h : AddInv l f L i c) (hi : i < l.length) (hl : ∀ d ∈ l, d < 4294967296) (hf : ∀ d ∈ f, d < 4294967296)
    (hs : s = c + nth l i + (if i < f.length then nth f i else 0)) : AddInv l f (L.set i (s % 4294967296)) (i + 1) (s / 4294967296) ∧ s < 8589934592 := by
  obtain ⟨h1, h2, h3, h4⟩ := h
  have d1 := hl _ (nth_mem hi)
  have d2 : (if i < f.length then nth f i else 0) < 4294967296 := by
    split
    · rename_i hlt; exact hf _ (nth_mem hlt)
    · omega
  have e1 := valB_take (b := 4294967296) hi
  have e2 : valB 4294967296 (f.take (i + 1)) = valB 4294967296 (f.take i) + 4294967296 ^ i * (if i < f.length then nth f i else 0) := by
    split
    · rename_i hlt; exact valB_take hlt
    · rw [List.take_of_length_le (by omega), List.take_of_length_le (by omega)]; simp
  have e3 : valB 4294967296 ((L.set i (s % 4294967296)).take (i + 1)) = valB 4294967296 (L.take i) + 4294967296 ^ i * (s % 4294967296) := by
    rw [take_set_lt (by omega), valB_snoc, List.length_take, Nat.min_eq_left (by omega)]
  refine ⟨⟨by rw [List.length_set]; exact h1, mem_set h2 (Nat.mod_lt _ (by omega)), ?_, by omega⟩, by omega⟩
  rw [e1, e2, e3, Nat.pow_succ]
  generalize hx : (if i < f.length then nth f i else 0) = x at *
  have hsx : 4294967296 ^ i * (s % 4294967296) + 4294967296 ^ i * 4294967296 * (s / 4294967296) = 4294967296 ^ i * s := by
    rw [Nat.mul_assoc, ← Nat.mul_add, Nat.mod_add_div]
  rw [Nat.add_assoc, hsx, hs, Nat.mul_add, Nat.mul_add]
  omega

set_option maxHeartbeats 4000000 in
theorem add_any (A : Option Addr) (ds : List Nat) (n c : Nat) (hc : n ≤ c) (B : Option Addr) (fs : List Nat) (m d : Nat) (hd : m ≤ d) (w : World) (hr : Es w w.heap.size A n ds) (hs : Es w w.heap.size B m fs) (hn : n ≤ 40000000000000) (hm : m ≤ 40000000000000) :
    Calls Try.prog 49 #[.slice A n c, .slice B m d] w (RetNat w (valB 4294967296 ds + valB 4294967296 fs)) := by
  have HR := Lib.hid hr; clear hr
  have HS := Lib.hid hs; clear hs
  go_enter Try.func49, Try.ntmps49
  go_wp2_with fail
  refine (trim_any A ds n c hc _ HR.out).mono ?_
  rintro e w1 ⟨k, l, rfl, hk, hl, hN, rfl⟩
  have H1 := Lib.hid hl; clear hl
  have N1 := Lib.hid hN; clear hN
  go_wp2_with fail
  refine (trim_any B fs m d hd _ HS.out).mono ?_
  rintro e w2 ⟨j, f, rfl, hj, hf, hM, rfl⟩
  have H2 := Lib.hid hf; clear hf
  have N2 := Lib.hid hM; clear hM
  go_upto_if 16 with (fail)
  go_cut [0, 1] (fun s0 s1 wx => ∃ (A' B' : Option Addr) (k' j' : Nat) (l' f' : List Nat), s0 = .slice A' k' k' ∧ s1 = .slice B' j' j' ∧ (j' ≤ k' ∧ k' ≤ 40000000000000) ∧ Hid (Es w w.heap.size A' k' l' ∧ Es w w.heap.size B' j' f' ∧ valB 4294967296 l' + valB 4294967296 f' = valB 4294967296 ds + valB 4294967296 fs) ∧ wx = w)
  case first =>
    by_cases hlt : k < j
    · go_wp2_with fail
      go_meet
      exact ⟨B, A, j, k, f, l, rfl, rfl, by omega, Lib.hid ⟨H2.out, H1.out, by rw [N1.out.1, N2.out.1, Nat.add_comm]⟩, rfl⟩
    · go_wp2_with fail
      go_meet
      exact ⟨A, B, k, j, l, f, rfl, rfl, by omega, Lib.hid ⟨H1.out, H2.out, by rw [N1.out.1, N2.out.1]⟩, rfl⟩
  case rest =>
    obtain ⟨A', B', k', j', l', f', rfl, rfl, ⟨hjk, hk6⟩, HI, rfl⟩ := hcut
    clear H1 N1 H2 N2 hk hj k j l f HR HS
    have hmk := mk_nat (k' + 1) (by omega)
    simp only [Int.natCast_add, Int.natCast_one] at hmk
    go_wp2_with fail
    clear hmk
    go_loopw [6, 7, 25] (fun cv _ i wr => ∃ (i' cr : Nat) (L : List Nat), i' ≤ k' ∧ cr ≤ 1 ∧ i = .int .i64 i' ∧ cv = .int .u64 cr ∧ Hid (AddInv l' f' L i' cr ∧ Blk wr wc.heap.size 23 (urow L) ∧ Below wc.heap.size wc wr)) (fun _ _ i _ => k' - (intOf i).toNat)
    case atStart =>
      refine ⟨0, 0, zer (k' + 1), Nat.zero_le _, by omega, rfl, rfl, Lib.hid ⟨⟨?_, ?_, ?_, by omega⟩, Blk.new _ _ _, al _ _⟩⟩
      · rw [zer_length, HI.out.1.len]
      · intro d hd
        have := List.eq_of_mem_replicate hd
        omega
      · simp [valB]
    case round =>
      obtain ⟨i, cr, L, hi, hcr, rfl, rfl, HJ⟩ := hrel
      by_cases hlt : i < k'
      · obtain ⟨ad, rfl, hb1, hcell⟩ := (HI.out.1.below HJ.out.2.2).at_ hlt
        have hli : i < l'.length := by have := HI.out.1.len; omega
        have hd1 := HI.out.1.lt hlt
        have hL : i < L.length := by rw [HJ.out.1.1]; omega
        have cR : wr.cell? ⟨wc.heap.size, i, none⟩ = some (.int .u32 (nth L i : Int)) := by rw [HJ.out.2.1.cell, urow_get hL]
        have fR : wr.frozen? ⟨wc.heap.size, i, none⟩ = false := HJ.out.2.1.frozen i
        clear hL
        by_cases hf : i < j'
        · obtain ⟨ad2, rfl, hb2, hcell2⟩ := (HI.out.2.1.below HJ.out.2.2).at_ hf
          have hfi : i < f'.length := by have := HI.out.2.1.len; omega
          have hd2 := HI.out.2.1.lt hf
          have hst := Lib.hid (HJ.out.1.step hli HI.out.1.2.2 HI.out.2.1.2.2 (s := cr + nth l' i + nth f' i) (by rw [if_pos hfi]))
          go_wp2_with fail
          refine ⟨⟨i + 1, (cr + nth l' i + nth f' i) / 4294967296, L.set i ((cr + nth l' i + nth f' i) % 4294967296), by omega, hst.out.1.2.2.2, by go_num, by simp, Lib.hid ⟨hst.out.1, ?_, HJ.out.2.2.setCell (Nat.le_refl _) _⟩⟩, by simp [intOf]; omega⟩
          have := HJ.out.2.1.set_ i (.int .u32 (((cr + nth l' i + nth f' i) % 4294967296 : Nat) : Int))
          rw [urow_set] at this
          simpa using this
        · have hfi : ¬ i < f'.length := by have := HI.out.2.1.len; omega
          have hst := Lib.hid (HJ.out.1.step hli HI.out.1.2.2 HI.out.2.1.2.2 (s := cr + nth l' i) (by rw [if_neg hfi]; omega))
          go_wp2_with fail
          refine ⟨⟨i + 1, (cr + nth l' i) / 4294967296, L.set i ((cr + nth l' i) % 4294967296), by omega, hst.out.1.2.2.2, by go_num, by simp, Lib.hid ⟨hst.out.1, ?_, HJ.out.2.2.setCell (Nat.le_refl _) _⟩⟩, by simp [intOf]; omega⟩
          have := HJ.out.2.1.set_ i (.int .u32 (((cr + nth l' i) % 4294967296 : Nat) : Int))
          rw [urow_set] at this
          simpa using this
      · obtain rfl : i = k' := by omega
        have hL : i < L.length := by rw [HJ.out.1.1, HI.out.1.len]; omega
        have cR : wr.cell? ⟨wc.heap.size, i, none⟩ = some (.int .u32 (nth L i : Int)) := by rw [HJ.out.2.1.cell, urow_get hL]
        have fR : wr.frozen? ⟨wc.heap.size, i, none⟩ = false := HJ.out.2.1.frozen i
        have HL := Lib.hid hL; clear hL
        go_wp2_with fail
        have hset := HJ.out.2.1.set_ i (.int .u32 ((cr : Nat) : Int))
        rw [urow_set] at hset
        have hlen : (L.set i cr).length = i + 1 := by rw [List.length_set, HJ.out.1.1, HI.out.1.len]
        have hE := Es.of_blk hset (by omega) (mem_set HJ.out.1.2.1 (by omega))
        rw [hlen] at hE
        have hv : valB 4294967296 (L.set i cr) = valB 4294967296 ds + valB 4294967296 fs := by
          have h1 : (L.set i cr).take (i + 1) = L.set i cr := List.take_of_length_le (by omega)
          rw [← h1, take_set_lt HL.out, valB_snoc, List.length_take, Nat.min_eq_left (by have := HL.out; omega), HJ.out.1.2.2.1, ← HI.out.2.2, List.take_of_length_le (by rw [HI.out.1.len]; omega), List.take_of_length_le (by have := HI.out.2.1.len; omega)]
        have hB := HJ.out.2.2.setCell (p := ⟨wc.heap.size, i, none⟩) (Nat.le_refl _) (.int .u32 (cr : Int))
        refine (trim_any _ _ (i + 1) (i + 1) (Nat.le_refl _) _ hE).mono ?_
        rintro e w3 ⟨k2, l2, rfl, hk2, hl2, hN2, rfl⟩
        rw [hv] at hN2
        have HE := Lib.hid hl2
        have HN := Lib.hid hN2
        have HBB := Lib.hid hB
        clear hl2 hN2 hB hE hset hv hlen
        go_wp2_with fail
        go_ret
        exact ⟨_, k2, k2, l2, rfl, Nat.le_refl _, HE.out, HN.out, HBB.out⟩

end Go.Proofs.Ytifnbpkcnkfanaa
