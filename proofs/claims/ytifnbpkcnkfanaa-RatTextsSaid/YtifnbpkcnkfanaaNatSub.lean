/-
  Contract of nat.Sub.
-/
import Derived.Test.YtifnbpkcnkfanaaNatAdd
namespace Go.Proofs.Ytifnbpkcnkfanaa
open Go.RowKit

def SubInv (l f L : List Nat) (i b : Nat) : Prop := L.length = l.length ∧ (∀ d ∈ L, d < 4294967296) ∧ valB 4294967296 (L.take i) + valB 4294967296 (f.take i) = valB 4294967296 (l.take i) + 4294967296 ^ i * b ∧ b ≤ 1
theorem SubInv.step {l f L : List Nat} {i b y : Nat} (h : SubInv l f L i b) (hi : i < l.length) (hl : ∀ d ∈ l, d < 4294967296) (hy : y = if i < f.length then nth f i else 0) (hy2 : y < 4294967296) :
    SubInv l f (L.set i ((nth l i + 4294967296 - b - y) % 4294967296)) (i + 1) (if nth l i < b + y then 1 else 0) := by
  obtain ⟨h1, h2, h3, h4⟩ := h
  have d1 := hl _ (nth_mem hi)
  have e1 := valB_take (b := 4294967296) hi
  have e2 : valB 4294967296 (f.take (i + 1)) = valB 4294967296 (f.take i) + 4294967296 ^ i * y := by
    subst hy
    split
    · rename_i hlt; exact valB_take hlt
    · rw [List.take_of_length_le (by omega), List.take_of_length_le (by omega)]; simp
  have e3 : valB 4294967296 ((L.set i ((nth l i + 4294967296 - b - y) % 4294967296)).take (i + 1)) = valB 4294967296 (L.take i) + 4294967296 ^ i * ((nth l i + 4294967296 - b - y) % 4294967296) := by
    rw [take_set_lt (by omega), valB_snoc, List.length_take, Nat.min_eq_left (by omega)]
  refine ⟨by rw [List.length_set]; exact h1, mem_set h2 (Nat.mod_lt _ (by omega)), ?_, by split <;> omega⟩
  rw [e1, e2, e3, Nat.pow_succ]
  by_cases hb : nth l i < b + y
  · rw [if_pos hb]
    have hd : (nth l i + 4294967296 - b - y) % 4294967296 + y + b = nth l i + 4294967296 := by omega
    have hm : 4294967296 ^ i * ((nth l i + 4294967296 - b - y) % 4294967296) + 4294967296 ^ i * y + 4294967296 ^ i * b = 4294967296 ^ i * nth l i + 4294967296 ^ i * 4294967296 := by
      rw [← Nat.mul_add, ← Nat.mul_add, hd, Nat.mul_add]
    rw [Nat.mul_one]
    omega
  · rw [if_neg hb]
    have hd : (nth l i + 4294967296 - b - y) % 4294967296 + y + b = nth l i := by omega
    have hm : 4294967296 ^ i * ((nth l i + 4294967296 - b - y) % 4294967296) + 4294967296 ^ i * y + 4294967296 ^ i * b = 4294967296 ^ i * nth l i := by
      rw [← Nat.mul_add, ← Nat.mul_add, hd]
    rw [Nat.mul_zero]
    omega

theorem u64_wrap (x : Int) : IntKind.u64.wrap x = x % 18446744073709551616 := by simp [IntKind.wrap, IntKind.bits, IntKind.signed]
theorem sub_lo (a b y : Nat) (ha : a < 4294967296) (hb : b ≤ 1) (hy : y < 4294967296) : IntKind.u64.wrap (IntKind.u64.wrap ((a : Int) - b) - y) % 4294967296 = (((a + 4294967296 - b - y) % 4294967296 : Nat) : Int) := by
  rw [u64_wrap, u64_wrap]; omega
theorem sub_hi (a b y : Nat) (ha : a < 4294967296) (hb : b ≤ 1) (hy : y < 4294967296) : IntKind.u64.wrap (IntKind.u64.wrap ((a : Int) - b) - y) / 9223372036854775808 = ((if a < b + y then 1 else 0 : Nat) : Int) := by
  rw [u64_wrap, u64_wrap]
  split <;> omega
theorem sub_lo0 (a b : Nat) (ha : a < 4294967296) (hb : b ≤ 1) : IntKind.u64.wrap ((a : Int) - b) % 4294967296 = (((a + 4294967296 - b - 0) % 4294967296 : Nat) : Int) := by
  rw [u64_wrap]; omega
theorem sub_hi0 (a b : Nat) (ha : a < 4294967296) (hb : b ≤ 1) : IntKind.u64.wrap ((a : Int) - b) / 9223372036854775808 = ((if a < b + 0 then 1 else 0 : Nat) : Int) := by
  rw [u64_wrap]
  split <;> omega
theorem SubInv.done {l f L : List Nat} {b N M : Nat} (h : SubInv l f L l.length b) (hN : Nrm 4294967296 l N) (hM : Nrm 4294967296 f M) (hle : M ≤ N) : valB 4294967296 L = N - M := by
  obtain ⟨h1, h2, h3, h4⟩ := h
  have hf : f.length ≤ l.length := by
    rcases Nat.lt_or_ge l.length f.length with h | h
    · have := hN.len_lt hM (by omega) h; omega
    · exact h
  rw [List.take_of_length_le (by omega), List.take_of_length_le hf, List.take_of_length_le (Nat.le_refl _), hN.1, hM.1] at h3
  have h5 := valB_lt h2
  rw [h1] at h5
  have : b = 0 ∨ b = 1 := by omega
  rcases this with rfl | rfl
  · omega
  · omega

/-- Sub's answers. -/
def RetSub (w : World) (x y : Nat) (e : Ending) (w' : World) : Prop :=
  (x < y → e = .returned (.tuple #[.slice none 0 0, .int .i64 19]) ∧ Below w.heap.size w w') ∧
  (y ≤ x → ∃ A k c l, e = .returned (.tuple #[.slice A k c, .int .i64 0]) ∧ k ≤ c ∧ Es w' w'.heap.size A k l ∧ Nrm 4294967296 l (x - y) ∧ Below w.heap.size w w')

set_option maxHeartbeats 4000000 in
theorem sub_any (A : Option Addr) (ds : List Nat) (n c : Nat) (hc : n ≤ c) (B : Option Addr) (fs : List Nat) (m d : Nat) (hd : m ≤ d) (w : World) (hr : Es w w.heap.size A n ds) (hs : Es w w.heap.size B m fs) (hn : n ≤ 1000000) :
    Calls Try.prog 50 #[.slice A n c, .slice B m d] w (RetSub w (valB 4294967296 ds) (valB 4294967296 fs)) := by
  have HR := Lib.hid hr; clear hr
  have HS := Lib.hid hs; clear hs
  go_enter Try.func50, Try.ntmps50
  go_wp2_with fail
  refine (trim_any A ds n c hc _ HR.out).mono ?_
  rintro e w1 ⟨k, l, rfl, hk, hl, hN, rfl⟩
  have H1 := Lib.hid hl; clear hl
  have N1 := Lib.hid hN; clear hN
  go_wp2_with fail
  refine (trim_any B fs m d hd _ HS.out).mono ?_
  rintro e w2 ⟨j, f, rfl, hj, hf, hM, rfl⟩
  have H2 := Lib.hid hf; clear hf
  have N2 := Lib.hid hM; clear hM
  have hk2 := H1.out.le
  have hj2 := H2.out.le
  go_wp2_with fail
  refine (ncmp_any A l k k (Nat.le_refl _) B f j j (Nat.le_refl _) _ H1.out H2.out).mono ?_
  rintro e w3 ⟨rfl, hb⟩
  rw [N1.out.1, N2.out.1]
  have HB := Lib.hid hb; clear hb
  by_cases hlt : valB 4294967296 ds < valB 4294967296 fs
  · rw [show cmpN (valB 4294967296 ds) (valB 4294967296 fs) = -1 by simp [cmpN, hlt]]
    have HLT := Lib.hid hlt; clear hlt
    go_wp2_with fail
    go_ret2
    exact ⟨fun _ => ⟨rfl, HB.out⟩, fun h => by have := HLT.out; omega⟩
  · have hge : 0 ≤ cmpN (valB 4294967296 ds) (valB 4294967296 fs) := by
      simp only [cmpN, if_neg hlt]; split <;> omega
    generalize cmpN (valB 4294967296 ds) (valB 4294967296 fs) = cv at *
    have HLT := Lib.hid hlt; clear hlt
    have hmk := mk_nat k (by omega)
    have hs3 := HB.out.size
    go_wp2_with fail
    clear hmk
    go_loopw [7, 8, 9, 23] (fun bv _ _ i wr => ∃ (i' b : Nat) (L : List Nat), i' ≤ k ∧ b ≤ 1 ∧ i = .int .i64 i' ∧ bv = .int .u64 b ∧ Hid (SubInv l f L i' b ∧ Blk wr w3.heap.size 23 (urow L) ∧ Below w.heap.size w wr)) (fun _ _ _ i _ => k - (intOf i).toNat)
    case atStart =>
      refine ⟨0, 0, zer k, Nat.zero_le _, by omega, rfl, rfl, Lib.hid ⟨⟨?_, ?_, ?_, by omega⟩, Blk.new _ _ _, HB.out.alloc HB.out.size _⟩⟩
      · rw [zer_length, H1.out.len]
      · intro d hd
        have := List.eq_of_mem_replicate hd
        omega
      · simp [valB]
    case round =>
      obtain ⟨i, b, L, hi, hb, rfl, rfl, HJ⟩ := hrel
      by_cases hlt : i < k
      · obtain ⟨ad, rfl, hb1, hcell⟩ := (H1.out.below HJ.out.2.2).at_ hlt
        have hli : i < l.length := by have := H1.out.len; omega
        have hd1 := H1.out.lt hlt
        have hL : i < L.length := by rw [HJ.out.1.1]; omega
        have cR : wr.cell? ⟨w3.heap.size, i, none⟩ = some (.int .u32 (nth L i : Int)) := by rw [HJ.out.2.1.cell, urow_get hL]
        have fR : wr.frozen? ⟨w3.heap.size, i, none⟩ = false := HJ.out.2.1.frozen i
        clear hL
        by_cases hf : i < j
        · obtain ⟨ad2, rfl, hb2, hcell2⟩ := (H2.out.below HJ.out.2.2).at_ hf
          have hfi : i < f.length := by have := H2.out.len; omega
          have hd2 := H2.out.lt hf
          have hst := Lib.hid (HJ.out.1.step hli H1.out.2.2 (y := nth f i) (by rw [if_pos hfi]) hd2)
          go_wp2_with fail
          rw [sub_lo _ _ _ hd1 hb hd2, sub_hi _ _ _ hd1 hb hd2]
          refine ⟨⟨i + 1, _, _, by omega, hst.out.2.2.2, by go_num, rfl, Lib.hid ⟨hst.out, ?_, HJ.out.2.2.setCell hs3 _⟩⟩, by simp [intOf]; omega⟩
          have := HJ.out.2.1.set_ i (.int .u32 (((nth l i + 4294967296 - b - nth f i) % 4294967296 : Nat) : Int))
          rwa [urow_set] at this
        · have hfi : ¬ i < f.length := by have := H2.out.len; omega
          have hst := Lib.hid (HJ.out.1.step hli H1.out.2.2 (y := 0) (by rw [if_neg hfi]) (by omega))
          go_wp2_with fail
          rw [sub_lo0 _ _ hd1 hb, sub_hi0 _ _ hd1 hb]
          refine ⟨⟨i + 1, _, _, by omega, hst.out.2.2.2, by go_num, rfl, Lib.hid ⟨hst.out, ?_, HJ.out.2.2.setCell hs3 _⟩⟩, by simp [intOf]; omega⟩
          have := HJ.out.2.1.set_ i (.int .u32 (((nth l i + 4294967296 - b - 0) % 4294967296 : Nat) : Int))
          rwa [urow_set] at this
      · obtain rfl : i = k := by omega
        go_wp2_with fail
        have hlen : L.length = i := by rw [HJ.out.1.1, H1.out.len]
        have hE := Es.of_blk HJ.out.2.1 (by omega) HJ.out.1.2.1
        rw [hlen] at hE
        have hv : valB 4294967296 L = valB 4294967296 ds - valB 4294967296 fs := by
          have h1 := HJ.out.1
          rw [H1.out.len] at h1
          exact h1.done N1.out N2.out (by have := HLT.out; omega)
        refine (trim_any _ _ i i (Nat.le_refl _) _ hE).mono ?_
        rintro e w4 ⟨k2, l2, rfl, hk2, hl2, hN2, rfl⟩
        rw [hv] at hN2
        have HE := Lib.hid hl2
        have HN := Lib.hid hN2
        clear hl2 hN2 hE hv hlen
        go_wp2_with fail
        go_ret2
        exact ⟨fun h => by have := HLT.out; omega, fun _ => ⟨_, k2, k2, l2, rfl, Nat.le_refl _, HE.out, HN.out, HJ.out.2.2⟩⟩

end Go.Proofs.Ytifnbpkcnkfanaa
