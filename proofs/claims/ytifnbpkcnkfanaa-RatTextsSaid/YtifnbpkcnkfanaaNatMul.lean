/-
  Contract of nat.Mul.
-/
import Derived.Test.YtifnbpkcnkfanaaNatAdd
import Derived.IntWalk
namespace Go.Proofs.Ytifnbpkcnkfanaa
open Go.RowKit

/-- The product so far: i digits of l are done, of the next j digits of f. L is the row; cr the carry. -/
def MulInv (b : Nat) (l f L : List Nat) (i j cr : Nat) : Prop := L.length = l.length + f.length ∧ (∀ d ∈ L, d < b) ∧ cr < b ∧
  (∀ t, i + f.length ≤ t → t < L.length → nth L t = 0) ∧
  valB b L + b ^ (i + j) * cr = valB b (l.take i) * valB b f + b ^ i * (nth l i * valB b (f.take j))

theorem mul_bound {a b c d : Nat} (ha : a < 4294967296) (hb : b < 4294967296) (hc : c < 4294967296) (hd : d < 4294967296) : d + (a * b + c) < 18446744073709551616 := by
  have : a * b ≤ 4294967295 * 4294967295 := Nat.mul_le_mul (by omega) (by omega)
  omega
theorem mul_bound' {p a b c d : Nat} (ha : a < p) (hb : b < p) (hc : c < p) (hd : d < p) : d + (a * b + c) < p * p := by
  obtain ⟨q, rfl⟩ : ∃ q, p = q + 1 := ⟨p - 1, by omega⟩
  have h : a * b ≤ q * q := Nat.mul_le_mul (by omega) (by omega)
  have e : (q + 1) * (q + 1) = q * q + q + q + 1 := by rw [Nat.add_mul, Nat.mul_add]; omega
  omega
theorem MulInv.step {p : Nat} {l f L : List Nat} {i j cr s : Nat} (h : MulInv p l f L i j cr) (hi : i < l.length) (hj : j < f.length) (hl : ∀ d ∈ l, d < p) (hf : ∀ d ∈ f, d < p)
    (hs : s = cr + (nth l i * nth f j + nth L (i + j))) : MulInv p l f (L.set (i + j) (s % p)) i (j + 1) (s / p) := by
  obtain ⟨h1, h2, h3, h4, h5⟩ := h
  have d1 := hl _ (nth_mem hi)
  have d2 := hf _ (nth_mem hj)
  have d3 := h2 _ (nth_mem (show i + j < L.length by omega))
  have hb := mul_bound' d1 d2 d3 h3
  rw [← hs] at hb
  refine ⟨by rw [List.length_set]; exact h1, mem_set h2 (Nat.mod_lt _ (by omega)), Nat.div_lt_of_lt_mul hb, fun t ht1 ht2 => ?_, ?_⟩
  · rw [nth_set (by omega), if_neg (by omega)]
    exact h4 t ht1 (by rw [List.length_set] at ht2; exact ht2)
  · have e1 := valB_set (b := p) (l := L) (k := i + j) (x := s % p) (by omega)
    have e2 := valB_take (b := p) hj
    rw [e2]
    have e3 : p ^ (i + (j + 1)) * (s / p) = p ^ (i + j) * (p * (s / p)) := by
      rw [← Nat.add_assoc, Nat.pow_succ, Nat.mul_assoc]
    have e4 : p ^ (i + j) * s = p ^ (i + j) * cr + p ^ (i + j) * (nth l i * nth f j) + p ^ (i + j) * nth L (i + j) := by
      rw [hs, Nat.mul_add, Nat.mul_add, Nat.add_assoc]
    have e5 : p ^ (i + j) * (s % p) + p ^ (i + j) * (p * (s / p)) = p ^ (i + j) * s := by
      rw [← Nat.mul_add, Nat.mod_add_div]
    have e6 : p ^ i * (nth l i * (valB p (f.take j) + p ^ j * nth f j)) = p ^ i * (nth l i * valB p (f.take j)) + p ^ (i + j) * (nth l i * nth f j) := by
      rw [Nat.mul_add, Nat.mul_add, Nat.pow_add]
      congr 1
      rw [Nat.mul_assoc (p ^ i), Nat.mul_left_comm (nth l i)]
    rw [e3, e6]
    omega
theorem MulInv.row {p : Nat} {l f L : List Nat} {i cr : Nat} (h : MulInv p l f L i f.length cr) (hi : i < l.length) : MulInv p l f (L.set (i + f.length) cr) (i + 1) 0 0 := by
  obtain ⟨h1, h2, h3, h4, h5⟩ := h
  have h0 := h4 (i + f.length) (Nat.le_refl _) (by omega)
  refine ⟨by rw [List.length_set]; exact h1, mem_set h2 h3, by omega, fun t ht1 ht2 => ?_, ?_⟩
  · rw [nth_set (by omega), if_neg (by omega)]
    exact h4 t (by omega) (by rw [List.length_set] at ht2; exact ht2)
  · have e1 := valB_set (b := p) (l := L) (k := i + f.length) (x := cr) (by omega)
    rw [h0, Nat.mul_zero, Nat.add_zero] at e1
    rw [List.take_length] at h5
    have e2 := valB_take (b := p) hi
    rw [e1, h5, e2, Nat.add_mul, Nat.mul_assoc]
    simp [valB]

set_option maxHeartbeats 4000000 in
theorem mul_any (A : Option Addr) (ds : List Nat) (n c : Nat) (hc : n ≤ c) (B : Option Addr) (fs : List Nat) (m d : Nat) (hd : m ≤ d) (w : World) (hr : Es w w.heap.size A n ds) (hs : Es w w.heap.size B m fs) (hn : n ≤ 1000000) (hm : m ≤ 1000000) :
    Calls Try.prog 48 #[.slice A n c, .slice B m d] w (RetNat w (valB 4294967296 ds * valB 4294967296 fs)) := by
  have HR := Lib.hid hr; clear hr
  have HS := Lib.hid hs; clear hs
  go_enter Try.func48, Try.ntmps48
  go_wp2_with fail
  refine (trim_any A ds n c hc _ HR.out).mono ?_
  rintro e w1 ⟨k, l, rfl, hk, hl, hN, rfl⟩
  have H1 := Lib.hid hl; clear hl
  have N1 := Lib.hid hN; clear hN
  go_wp2_with fail
  refine (trim_any B fs m d hd _ HS.out).mono ?_
  rintro e w2 ⟨j, f, rfl, hj, hf, hM, rfl⟩
  have H2 := Lib.hid hf; clear hf
  have N2 := Lib.hid hM; clear hM
  have hmk := mk_nat (k + j) (by omega)
  simp only [Int.natCast_add] at hmk
  go_wp2_with fail
  clear hmk
  go_loopw [6, 7, 8, 21] (fun _ _ _ i wr => ∃ (i' : Nat) (L : List Nat), i' ≤ k ∧ i = .int .i64 i' ∧ Hid (MulInv 4294967296 l f L i' 0 0 ∧ Blk wr w.heap.size 23 (urow L) ∧ Below w.heap.size w wr)) (fun _ _ _ i _ => k - (intOf i).toNat)
  case atStart =>
    refine ⟨0, zer (k + j), Nat.zero_le _, rfl, Lib.hid ⟨⟨?_, ?_, by omega, ?_, ?_⟩, Blk.new _ _ _, al _ _⟩⟩
    · rw [zer_length, ← H1.out.len, ← H2.out.len]
    · intro d hd
      have := List.eq_of_mem_replicate hd
      omega
    · intro t _ _; exact nth_zer _ _
    · simp [valB, zer, valB_zero]
  case round =>
    obtain ⟨i, L, hi, rfl, HJ⟩ := hrel
    by_cases hlt : i < k
    · have hli : i < l.length := by have := H1.out.len; omega
      have hd1 := H1.out.lt hlt
      obtain ⟨wo, rfl⟩ : ∃ wo : World, wo = wr := ⟨_, rfl⟩
      go_wp2_with fail
      go_loopw [7, 8, 26] (fun cv _ q wr => ∃ (j' cr : Nat) (L : List Nat), j' ≤ j ∧ cr < 4294967296 ∧ q = .int .i64 j' ∧ cv = .int .u64 cr ∧ Hid (MulInv 4294967296 l f L i j' cr ∧ Blk wr w.heap.size 23 (urow L) ∧ Below w.heap.size w wr)) (fun _ _ q _ => j - (intOf q).toNat)
      case atStart => exact ⟨0, 0, L, Nat.zero_le _, by omega, rfl, rfl, HJ⟩
      case round =>
        obtain ⟨j', cr, L, hj', hcr, rfl, rfl, HJ⟩ := hrel
        by_cases hjt : j' < j
        · obtain ⟨ad, rfl, hb1, hcell⟩ := (H1.out.below HJ.out.2.2).at_ hlt
          obtain ⟨ad2, rfl, hb2, hcell2⟩ := (H2.out.below HJ.out.2.2).at_ hjt
          have hfj : j' < f.length := by have := H2.out.len; omega
          have hd2 := H2.out.lt hjt
          have hL : i + j' < L.length := by rw [HJ.out.1.1]; omega
          have hd3 := HJ.out.1.2.1 _ (nth_mem hL)
          have cR : wr.cell? ⟨w.heap.size, i + j', none⟩ = some (.int .u32 (nth L (i + j') : Int)) := by rw [HJ.out.2.1.cell, urow_get hL]
          have fR : wr.frozen? ⟨w.heap.size, i + j', none⟩ = false := HJ.out.2.1.frozen _
          clear hL
          have hbd := mul_bound hd1 hd2 hd3 hcr
          have hst := Lib.hid (HJ.out.1.step hli hfj H1.out.2.2 H2.out.2.2 rfl)
          have i1 : IntKind.i64.wrap ((i : Int) + (j' : Int)) = (i : Int) + (j' : Int) := IntWalk.i64_in _ (by omega)
          have i2 : (0 : Int) ≤ (i : Int) + (j' : Int) := by omega
          have i3 : ((i : Int) + (j' : Int)).toNat = i + j' := by omega
          have i4 : (i : Int) + (j' : Int) < ((k + j : Nat) : Int) := by omega
          go_wp2_with fail
          go_quiet (fail)
          rw [show ((cr : Int) + ((nth l i : Int) * (nth f j' : Int) + (nth L (i + j') : Int))) = ((cr + (nth l i * nth f j' + nth L (i + j')) : Nat) : Int) by simp]
          generalize cr + (nth l i * nth f j' + nth L (i + j')) = sm at *
          clear i1 i2 i3 i4
          go_wp2_with fail
          have hset := (HJ.out.2.1.drewN nq).set_ (i + j') (.int .u32 ((sm % 4294967296 : Nat) : Int))
          rw [urow_set] at hset
          refine ⟨⟨j' + 1, sm / 4294967296, _, by omega, hst.out.2.2.1, by go_num, by simp, Lib.hid ⟨hst.out, ?_, (below_drewN HJ.out.2.2 _).setCell (Nat.le_refl _) _⟩⟩, by simp [intOf]; omega⟩
          simpa using hset
        · obtain rfl : j' = j := by omega
          have hL : i + j' < L.length := by rw [HJ.out.1.1, ← H2.out.len]; omega
          have cR : wr.cell? ⟨w.heap.size, i + j', none⟩ = some (.int .u32 (nth L (i + j') : Int)) := by rw [HJ.out.2.1.cell, urow_get hL]
          have fR : wr.frozen? ⟨w.heap.size, i + j', none⟩ = false := HJ.out.2.1.frozen _
          have HL := Lib.hid hL; clear hL
          go_wp2_with fail
          have hset := HJ.out.2.1.set_ (i + j') (.int .u32 (cr : Int))
          rw [urow_set] at hset
          have h1 := HJ.out.1
          rw [H2.out.len] at h1
          have h2 := h1.row hli
          rw [← H2.out.len] at h2
          exact ⟨⟨i + 1, _, by omega, by go_num, Lib.hid ⟨h2, hset, HJ.out.2.2.setCell (Nat.le_refl _) _⟩⟩, by simp [intOf]; omega⟩
    · obtain rfl : i = k := by omega
      go_wp2_with fail
      have hlen : L.length = i + j := by rw [HJ.out.1.1, H1.out.len, H2.out.len]
      have hE := Es.of_blk HJ.out.2.1 (by omega) HJ.out.1.2.1
      rw [hlen] at hE
      have hv : valB 4294967296 L = valB 4294967296 ds * valB 4294967296 fs := by
        have h1 := HJ.out.1.2.2.2.2
        rw [List.take_of_length_le (by rw [H1.out.len]; exact Nat.le_refl _), N1.out.1, N2.out.1] at h1
        simpa [valB] using h1
      refine (trim_any _ _ (i + j) (i + j) (Nat.le_refl _) _ hE).mono ?_
      rintro e w4 ⟨k2, l2, rfl, hk2, hl2, hN2, rfl⟩
      rw [hv] at hN2
      have HE := Lib.hid hl2
      have HN := Lib.hid hN2
      clear hl2 hN2 hE hv hlen
      go_wp2_with fail
      go_ret
      exact ⟨_, k2, k2, l2, rfl, Nat.le_refl _, HE.out, HN.out, HJ.out.2.2⟩

end Go.Proofs.Ytifnbpkcnkfanaa
