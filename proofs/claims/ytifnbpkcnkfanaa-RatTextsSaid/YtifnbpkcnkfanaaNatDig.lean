/-
  Contracts of nat.divDigit, shiftLeft, shiftRight.
-/
import Derived.Test.YtifnbpkcnkfanaaNatAdd
import Derived.IntWalk
namespace Go.Proofs.Ytifnbpkcnkfanaa
open Go.RowKit

/-- A row with spare cells behind it. -/
def urowX (L : List Nat) (X : List Value) : Array Value := (U32 L ++ X).toArray
theorem urowX_get {L : List Nat} {X : List Value} {k : Nat} (h : k < L.length) : (urowX L X)[k]? = some (.int .u32 (nth L k : Int)) := by
  simp only [urowX, List.getElem?_toArray]
  rw [List.getElem?_append_left (by rw [U32_length]; exact h)]
  simp [U32, nth, List.getD, h]
theorem urowX_set (L : List Nat) (X : List Value) (k x : Nat) (h : k < L.length) : (urowX L X).setIfInBounds k (.int .u32 (x : Int)) = urowX (L.set k x) X := by
  simp only [urowX, List.setIfInBounds_toArray]
  rw [List.set_append_left _ _ (by rw [U32_length]; exact h)]
  simp [U32, List.map_set]
theorem urow_X (L : List Nat) : urow L = urowX L [] := by simp [urow, urowX]
theorem Es.of_blkX {w : World} {g t : Nat} {l : List Nat} {X : List Value} (h : Blk w g t (urowX l X)) (hl : l.length ≤ 9223372036854775807) (hb : ∀ e ∈ l, e < 4294967296) : Es w w.heap.size (some ⟨g, 0, none⟩) l.length l :=
  ⟨⟨by simp [U32_length], fun _ => ⟨_, rfl, h.lt, fun j u hu => by
    have e : (Addr.add ⟨g, 0, none⟩ j) = ⟨g, j, none⟩ := by unfold Addr.add; split <;> simp_all
    rw [e, h.cell]
    simp only [urowX, List.getElem?_toArray]
    rw [List.getElem?_append_left ((List.getElem?_eq_some_iff.1 hu).1)]
    exact hu⟩⟩, ⟨rfl, hl⟩, hb⟩
theorem own_rowX {w : World} {base : Nat} {t : TypeId} {n : Nat} {v : Value} {L : List Nat} (h : w.ownsRow base t 1 v n (U32 L)) (hn : 0 < n) :
    ∃ g c X, v = .slice (some ⟨g, 0, none⟩) n c ∧ base ≤ g ∧ n ≤ c ∧ Blk w g t (urowX L X) ∧ L.length = n := by
  have hl := h.1
  rw [U32_length] at hl
  rcases h.2 with ⟨_, h0⟩ | ⟨g, cap, cur, rfl, hb, hh, hc, _, _, htk⟩
  · omega
  · refine ⟨g, cap, cur.toList.drop n, rfl, hb, hc, ?_, by omega⟩
    rw [Nat.mul_one] at htk
    have : cur = urowX L (cur.toList.drop n) := by
      simp only [urowX]
      rw [← htk, List.take_append_drop]
    unfold Blk
    rw [hh]
    exact congrArg (fun z => some (Obj.cells z t (0, 0))) this

/-- r * 2^32 + x as Go writes it. -/
theorem join32 (r x : Nat) (hr : r < 4294967296) (hx : x < 4294967296) : bits .or .u64 ((r : Int) * 4294967296) (x : Int) = ((r * 4294967296 + x : Nat) : Int) := by
  have h1 : ((r : Int) * 4294967296) = ((r * 4294967296 : Nat) : Int) := by simp
  rw [h1, u64_or_nat _ _ (by omega) (by omega), nat_join 32 _ _ (by omega) (by omega)]

/-- The quotient so far, from the top down to digit i. -/
def DivInv (p : Nat) (L0 L : List Nat) (d i r : Nat) : Prop := L.length = L0.length ∧ (∀ x ∈ L, x < p) ∧ r < d ∧ L.take i = L0.take i ∧ valB p (L.drop i) * d + r = valB p (L0.drop i)
theorem nth_of_take {L M : List Nat} {i k : Nat} (h : L.take i = M.take i) (hk : k < i) : nth L k = nth M k := by
  rw [← nth_take (l := L) hk, h, nth_take hk]
theorem DivInv.step {p : Nat} {L0 L : List Nat} {d i r s : Nat} (h : DivInv p L0 L d (i + 1) r) (hi : i < L0.length) (hp : ∀ x ∈ L0, x < p) (hs : s = r * p + nth L0 i) :
    DivInv p L0 (L.set i (s / d)) d i (s % d) ∧ s / d < p ∧ s < d * p := by
  obtain ⟨h1, h2, h3, h4, h5⟩ := h
  have d1 := hp _ (nth_mem hi)
  have hsd : s < d * p := by
    have : (r + 1) * p ≤ d * p := Nat.mul_le_mul_right p h3
    rw [Nat.add_mul] at this
    omega
  have hq : s / d < p := Nat.div_lt_of_lt_mul hsd
  refine ⟨⟨by rw [List.length_set]; exact h1, mem_set h2 hq, Nat.mod_lt _ (by omega), ?_, ?_⟩, hq, hsd⟩
  · rw [List.take_set, List.set_eq_of_length_le (by simp; omega)]
    have := congrArg (List.take i) h4
    rw [List.take_take, List.take_take, Nat.min_eq_left (by omega)] at this
    exact this
  · rw [valB_drop (by rw [List.length_set]; omega), valB_drop hi, nth_set (by omega), if_pos rfl]
    have e1 : (L.set i (s / d)).drop (i + 1) = L.drop (i + 1) := by
      rw [List.drop_set, if_pos (by omega)]
    rw [e1, ← h5]
    have e2 := Nat.div_add_mod s d
    have e3 : (s / d + p * valB p (L.drop (i + 1))) * d + s % d = d * (s / d) + s % d + p * (valB p (L.drop (i + 1)) * d) := by
      rw [Nat.add_mul, Nat.mul_comm (s / d) d, Nat.mul_assoc]; omega
    rw [e3, e2, hs, Nat.mul_add, Nat.mul_comm r p]
    omega

theorem quo_nat (s d : Nat) (h : s / d < 4294967296) : IntKind.u64.wrap ((s : Int).tdiv (d : Int)) % 4294967296 = ((s / d : Nat) : Int) := by
  have h1 : (s : Int).tdiv (d : Int) = ((s / d : Nat) : Int) := rfl
  rw [h1]
  simp only [IntKind.wrap, IntKind.bits, IntKind.signed]
  generalize s / d = q at *
  simp
  omega
theorem rem_nat (s d : Nat) : (s : Int).tmod (d : Int) = ((s % d : Nat) : Int) := by
  rw [Int.tmod_eq_emod_of_nonneg (by omega)]; simp

/-- divDigit's answer: the remainder; the row holds the quotient. -/
def RetDig (w : World) (g : Nat) (t : TypeId) (L0 : List Nat) (X : List Value) (d : Nat) (e : Ending) (w' : World) : Prop :=
  e = .returned (.int .u32 ((valB 4294967296 L0 % d : Nat) : Int)) ∧ ∃ L, L.length = L0.length ∧ (∀ x ∈ L, x < 4294967296) ∧ valB 4294967296 L = valB 4294967296 L0 / d ∧ Blk w' g t (urowX L X) ∧ w.grownBy w' (some g)

set_option maxHeartbeats 4000000 in
theorem divDigit_any (g : Nat) (L0 : List Nat) (X : List Value) (n c d : Nat) (w : World) (hn : n = L0.length) (hb : Blk w g 23 (urowX L0 X)) (hd0 : 0 < d) (hd : d < 4294967296) (hL : ∀ x ∈ L0, x < 4294967296) (hnn : n ≤ 1000000) :
    Calls Try.prog 64 #[.slice (some ⟨g, 0, none⟩) n c, .int .u32 d] w (RetDig w g 23 L0 X d) := by
  have HN := Lib.hid hn; clear hn
  have HL := Lib.hid hL; clear hL
  have HB := Lib.hid hb; clear hb
  go_enter Try.func64, Try.ntmps64
  go_wp2_with fail
  go_loopw [5, 6] (fun rv i wr => ∃ (i' r : Nat) (L : List Nat), i' ≤ n ∧ r < d ∧ i = .int .i64 ((i' : Int) - 1) ∧ rv = .int .u64 r ∧ Hid (DivInv 4294967296 L0 L d i' r ∧ Blk wr g 23 (urowX L X) ∧ w.grownBy wr (some g))) (fun _ i _ => (intOf i + 1).toNat)
  case atStart =>
    refine ⟨n, 0, L0, Nat.le_refl _, hd0, rfl, rfl, Lib.hid ⟨⟨rfl, HL.out, hd0, rfl, ?_⟩, HB.out, World.grownBy.refl w _⟩⟩
    rw [HN.out, List.drop_length]; simp [valB]
  case round =>
    obtain ⟨i, r, L, hi, hr, rfl, rfl, HJ⟩ := hrel
    by_cases h0 : 0 < i
    · obtain ⟨i, rfl⟩ : ∃ m, i = m + 1 := ⟨i - 1, by omega⟩
      have i0 : ((i + 1 : Nat) : Int) - 1 = (i : Int) := by omega
      rw [i0]
      have hli : i < L0.length := by have := HN.out; omega
      have hLl : i < L.length := by rw [HJ.out.1.1]; exact hli
      have hx : nth L i = nth L0 i := nth_of_take HJ.out.1.2.2.2.1 (by omega)
      have cR : wr.cell? ⟨g, i, none⟩ = some (.int .u32 (nth L0 i : Int)) := by rw [HJ.out.2.1.cell, urowX_get hLl, hx]
      have fR : wr.frozen? ⟨g, i, none⟩ = false := HJ.out.2.1.frozen i
      have hd1 := HL.out _ (nth_mem hli)
      have hst := Lib.hid (HJ.out.1.step hli HL.out rfl)
      have HLl := Lib.hid hLl
      clear hx hli hLl
      have hj := Lib.hid (join32 r (nth L0 i) (by omega) hd1)
      go_wp2_with fail
      rw [hj.out, quo_nat _ _ hst.out.2.1, rem_nat]
      refine ⟨⟨i, _, _, by omega, hst.out.1.2.2.1, rfl, rfl, Lib.hid ⟨hst.out.1, ?_, only_setCell HJ.out.2.2 (.inl rfl) _⟩⟩, by simp [intOf]⟩
      have := HJ.out.2.1.set_ i (.int .u32 (((r * 4294967296 + nth L0 i) / d : Nat) : Int))
      rwa [urowX_set _ _ _ _ HLl.out] at this
    · obtain rfl : i = 0 := by omega
      go_wp2_with fail
      go_ret
      have h1 := HJ.out.1
      obtain ⟨h1, h2, h3, h4, h5⟩ := HJ.out.1
      simp only [List.drop_zero] at h5
      have e1 : valB 4294967296 L = valB 4294967296 L0 / d := by
        rw [← h5, Nat.add_comm, Nat.add_mul_div_right _ _ hd0, Nat.div_eq_of_lt h3, Nat.zero_add]
      have e2 : r = valB 4294967296 L0 % d := by
        rw [← h5, Nat.add_comm, Nat.add_mul_mod_self_right, Nat.mod_eq_of_lt h3]
      refine ⟨ret_int ?_, L, h1, h2, e1, HJ.out.2.1, HJ.out.2.2⟩
      rw [e2]

/-- shiftLeft: one digit more. -/
def ShlInv (p q : Nat) (l L : List Nat) (i cr : Nat) : Prop := L.length = l.length + 1 ∧ (∀ d ∈ L, d < p) ∧ cr < q ∧ valB p (L.take i) + p ^ i * cr = valB p (l.take i) * q
theorem ShlInv.step {p q : Nat} {l L : List Nat} {i cr s : Nat} (h : ShlInv p q l L i cr) (hi : i < l.length) (hl : ∀ d ∈ l, d < p) (hs : s = cr + nth l i * q) : ShlInv p q l (L.set i (s % p)) (i + 1) (s / p) := by
  obtain ⟨h1, h2, h3, h4⟩ := h
  have d1 := hl _ (nth_mem hi)
  have hp : 0 < p := by omega
  have hsq : s < p * q := by
    have : (nth l i + 1) * q ≤ p * q := Nat.mul_le_mul_right q d1
    rw [Nat.add_mul] at this
    omega
  refine ⟨by rw [List.length_set]; exact h1, mem_set h2 (Nat.mod_lt _ hp), Nat.div_lt_of_lt_mul hsq, ?_⟩
  rw [take_set_lt (by omega), valB_snoc, List.length_take, Nat.min_eq_left (by omega), valB_take hi, Nat.add_mul, ← h4, Nat.pow_succ]
  have e1 : p ^ i * (s % p) + p ^ i * p * (s / p) = p ^ i * s := by rw [Nat.mul_assoc, ← Nat.mul_add, Nat.mod_add_div]
  rw [Nat.add_assoc, e1, hs, Nat.mul_add, Nat.mul_assoc]
  omega
theorem ShlInv.done {p q : Nat} {l L : List Nat} {cr : Nat} (h : ShlInv p q l L l.length cr) : valB p (L.set l.length cr) = valB p l * q := by
  obtain ⟨h1, h2, h3, h4⟩ := h
  have e : (L.set l.length cr).take (l.length + 1) = L.set l.length cr := List.take_of_length_le (by rw [List.length_set]; omega)
  rw [← e, take_set_lt (by omega), valB_snoc, List.length_take, Nat.min_eq_left (by omega), h4, List.take_length]

/-- The carry and the next digit shifted do not overlap. -/
theorem shl_join (cr x s : Nat) (hs : s < 32) (hc : cr < 2 ^ s) (hx : x < 4294967296) : bits .or .u64 (cr : Int) (IntKind.u64.wrap ((x : Int) * 2 ^ s)) = ((cr + x * 2 ^ s : Nat) : Int) := by
  have h2 : 2 ^ s ≤ 2 ^ 31 := two_pow_le (by omega)
  have h3 : x * 2 ^ s ≤ 4294967295 * 2147483648 := Nat.mul_le_mul (by omega) h2
  have e1 : IntKind.u64.wrap ((x : Int) * 2 ^ s) = ((x * 2 ^ s : Nat) : Int) := by
    rw [← cast_pow2, ← Int.natCast_mul]
    simp only [IntKind.wrap, IntKind.bits, IntKind.signed]
    generalize x * 2 ^ s = y at *
    simp
    omega
  rw [e1, u64_or_nat _ _ (by omega) (by omega), Nat.or_comm, nat_join s _ _ (Nat.mul_mod_left _ _) hc, Nat.add_comm]

/-- A new row, whole. -/
def RetRow (w : World) (t : TypeId) (n N : Nat) (e : Ending) (w' : World) : Prop :=
  ∃ L, e = .returned (.slice (some ⟨w.heap.size, 0, none⟩) n n) ∧ L.length = n ∧ (∀ d ∈ L, d < 4294967296) ∧ valB 4294967296 L = N ∧ Blk w' w.heap.size t (urow L) ∧ Below w.heap.size w w'

set_option maxHeartbeats 4000000 in
theorem shl_any (A : Option Addr) (l : List Nat) (n c s : Nat) (w : World) (hr : Es w w.heap.size A n l) (hn : n ≤ 1000000) (hs : s < 32) :
    Calls Try.prog 73 #[.slice A n c, .int .u64 s] w (RetRow w 23 (n + 1) (valB 4294967296 l * 2 ^ s)) := by
  have HR := Lib.hid hr; clear hr
  have hmk := mk_nat (n + 1) (by omega)
  simp only [Int.natCast_add, Int.natCast_one] at hmk
  have hq31 : 2 ^ s ≤ 2147483648 := two_pow_le (m := 31) (by omega)
  have hq0 := pow2_pos s
  go_enter Try.func73, Try.ntmps73
  go_wp2_with fail
  clear hmk
  go_loopw [6, 7, 14] (fun cv _ i wr => ∃ (i' cr : Nat) (L : List Nat), i' ≤ n ∧ cr < 4294967296 ∧ i = .int .i64 i' ∧ cv = .int .u64 cr ∧ Hid (ShlInv 4294967296 (2 ^ s) l L i' cr ∧ Blk wr w.heap.size 23 (urow L) ∧ Below w.heap.size w wr)) (fun _ _ i _ => n - (intOf i).toNat)
  case atStart =>
    refine ⟨0, 0, zer (n + 1), Nat.zero_le _, by omega, rfl, rfl, Lib.hid ⟨⟨?_, ?_, hq0, ?_⟩, Blk.new _ _ _, al _ _⟩⟩
    · rw [zer_length, HR.out.len]
    · intro d hd
      have := List.eq_of_mem_replicate hd
      omega
    · simp [valB]
  case round =>
    obtain ⟨i, cr, L, hi, hcr, rfl, rfl, HJ⟩ := hrel
    by_cases hlt : i < n
    · obtain ⟨ad, rfl, hb1, hcell⟩ := (HR.out.below HJ.out.2.2).at_ hlt
      have hli : i < l.length := by have := HR.out.len; omega
      have hd1 := HR.out.lt hlt
      have hL : i < L.length := by rw [HJ.out.1.1]; omega
      have cR : wr.cell? ⟨w.heap.size, i, none⟩ = some (.int .u32 (nth L i : Int)) := by rw [HJ.out.2.1.cell, urow_get hL]
      have fR : wr.frozen? ⟨w.heap.size, i, none⟩ = false := HJ.out.2.1.frozen i
      clear hL
      have hst := Lib.hid (HJ.out.1.step hli HR.out.2.2 rfl)
      have hj := Lib.hid (shl_join cr (nth l i) s hs HJ.out.1.2.2.1 hd1)
      go_wp2_with fail
      rw [hj.out]
      generalize cr + nth l i * 2 ^ s = sm at *
      have hset := HJ.out.2.1.set_ i (.int .u32 ((sm % 4294967296 : Nat) : Int))
      rw [urow_set] at hset
      refine ⟨⟨i + 1, sm / 4294967296, _, by omega, by have := hst.out.2.2.1; omega, by go_num, by simp, Lib.hid ⟨hst.out, ?_, HJ.out.2.2.setCell (Nat.le_refl _) _⟩⟩, by simp [intOf]; omega⟩
      simpa using hset
    · obtain rfl : i = n := by omega
      have hL : i < L.length := by rw [HJ.out.1.1, HR.out.len]; omega
      have cR : wr.cell? ⟨w.heap.size, i, none⟩ = some (.int .u32 (nth L i : Int)) := by rw [HJ.out.2.1.cell, urow_get hL]
      have fR : wr.frozen? ⟨w.heap.size, i, none⟩ = false := HJ.out.2.1.frozen i
      clear hL
      go_wp2_with fail
      go_ret
      have hset := HJ.out.2.1.set_ i (.int .u32 (cr : Int))
      rw [urow_set] at hset
      have h1 := HJ.out.1
      have hv : valB 4294967296 (L.set i cr) = valB 4294967296 l * 2 ^ s := by
        rw [HR.out.len] at h1 ⊢
        exact h1.done
      exact ⟨L.set i cr, rfl, by rw [List.length_set, HJ.out.1.1, HR.out.len], mem_set HJ.out.1.2.1 hcr, hv, hset, HJ.out.2.2.setCell (Nat.le_refl _) _⟩

/-- shiftRight, from the top down. -/
def ShrInv (p q : Nat) (l L : List Nat) (i : Nat) : Prop := L.length = l.length ∧ (∀ d ∈ L, d < p) ∧ valB p (L.drop i) = valB p (l.drop i) / q
theorem shr_digit {p q x y V : Nat} (hq : 0 < q) (hx : x < p) (hpq : p % q = 0) (hy : V % p = y) : (x + p * V) / q = (y * p + x) / q % p + p * (V / q) := by
  have hp : 0 < p := by omega
  obtain ⟨m, hm⟩ : ∃ m, p = q * m := ⟨p / q, by rw [Nat.mul_comm, Nat.div_mul_cancel (Nat.dvd_of_mod_eq_zero hpq)]⟩
  have hVR : V % q = y % q := by rw [← hy, hm, Nat.mod_mul_right_mod]
  have e1 : x + p * V = (x + p * (V % q)) + p * (V / q) * q := by
    have h : V = q * (V / q) + V % q := (Nat.div_add_mod V q).symm
    have h1 : p * V = p * (q * (V / q)) + p * (V % q) := by rw [← Nat.mul_add]; exact congrArg (p * ·) h
    rw [h1, Nat.mul_comm q, ← Nat.mul_assoc]
    omega
  have e2 : y * p + x = (x + p * (y % q)) + p * (y / q) * q := by
    have h : y = q * (y / q) + y % q := (Nat.div_add_mod y q).symm
    have h1 : p * y = p * (q * (y / q)) + p * (y % q) := by rw [← Nat.mul_add]; exact congrArg (p * ·) h
    rw [Nat.mul_comm y p, h1, Nat.mul_comm q, ← Nat.mul_assoc]
    omega
  have hlt : (x + p * (y % q)) / q < p := by
    apply Nat.div_lt_of_lt_mul
    have : y % q < q := Nat.mod_lt _ hq
    have h3 : p * (y % q + 1) ≤ p * q := Nat.mul_le_mul_left p this
    rw [Nat.mul_add] at h3
    rw [Nat.mul_comm q p]
    omega
  rw [e1, Nat.add_mul_div_right _ _ hq, hVR, e2, Nat.add_mul_div_right _ _ hq, Nat.add_mul_mod_self_left, Nat.mod_eq_of_lt hlt]
theorem valB_drop_mod {p : Nat} {l : List Nat} {i : Nat} (hl : ∀ d ∈ l, d < p) : valB p (l.drop i) % p = nth l i := by
  rcases Nat.lt_or_ge i l.length with h | h
  · rw [valB_drop h, Nat.add_mul_mod_self_left, Nat.mod_eq_of_lt (hl _ (nth_mem h))]
  · rw [List.drop_of_length_le h]
    simp [valB, nth, List.getD, List.getElem?_eq_none h]
theorem ShrInv.step {p q : Nat} {l L : List Nat} {i : Nat} (h : ShrInv p q l L (i + 1)) (hi : i < l.length) (hl : ∀ d ∈ l, d < p) (hq : 0 < q) (hpq : p % q = 0) :
    ShrInv p q l (L.set i ((nth l (i + 1) * p + nth l i) / q % p)) i := by
  obtain ⟨h1, h2, h3⟩ := h
  have d1 := hl _ (nth_mem hi)
  refine ⟨by rw [List.length_set]; exact h1, mem_set h2 (Nat.mod_lt _ (by omega)), ?_⟩
  rw [valB_drop (by rw [List.length_set]; omega), valB_drop hi, nth_set (by omega), if_pos rfl]
  have e1 : (L.set i ((nth l (i + 1) * p + nth l i) / q % p)).drop (i + 1) = L.drop (i + 1) := by
    rw [List.drop_set, if_pos (by omega)]
  rw [e1, h3, shr_digit hq d1 hpq (valB_drop_mod hl)]
theorem shr_val (h x : Nat) (hx : x < 4294967296) : bits .or .u64 (IntKind.u64.wrap ((h : Int) * 4294967296)) (x : Int) = ((h % 4294967296 * 4294967296 + x : Nat) : Int) := by
  have e1 : IntKind.u64.wrap ((h : Int) * 4294967296) = ((h % 4294967296 * 4294967296 : Nat) : Int) := by
    simp only [IntKind.wrap, IntKind.bits, IntKind.signed]
    simp
    omega
  rw [e1, u64_or_nat _ _ (by omega) (by omega), nat_join 32 _ _ (by omega) (by omega)]

set_option maxHeartbeats 4000000 in
theorem shr_any (A : Option Addr) (l : List Nat) (n c s : Nat) (w : World) (hr : Es w w.heap.size A n l) (hn : n ≤ 1000000) (hs : s < 32) :
    Calls Try.prog 77 #[.slice A n c, .int .u64 s] w (RetRow w 23 n (valB 4294967296 l / 2 ^ s)) := by
  have HR := Lib.hid hr; clear hr
  have hmk := mk_nat n (by omega)
  go_enter Try.func77, Try.ntmps77
  go_wp2_with fail
  clear hmk
  go_loopw [6, 7] (fun hv i wr => ∃ (i' h : Nat) (L : List Nat), i' ≤ n ∧ h < 18446744073709551616 ∧ i = .int .i64 ((i' : Int) - 1) ∧ hv = .int .u64 h ∧ Hid (h % 4294967296 = nth l i' ∧ ShrInv 4294967296 (2 ^ s) l L i' ∧ Blk wr w.heap.size 23 (urow L) ∧ Below w.heap.size w wr)) (fun _ i _ => (intOf i + 1).toNat)
  case atStart =>
    refine ⟨n, 0, zer n, Nat.le_refl _, by omega, rfl, rfl, Lib.hid ⟨?_, ⟨?_, ?_, ?_⟩, Blk.new _ _ _, al _ _⟩⟩
    · rw [HR.out.len]; simp [nth, List.getD]
    · rw [zer_length, HR.out.len]
    · intro d hd
      have := List.eq_of_mem_replicate hd
      omega
    · rw [List.drop_of_length_le (by rw [zer_length]; exact Nat.le_refl _), List.drop_of_length_le (by rw [HR.out.len]; exact Nat.le_refl _)]
      simp [valB]
  case round =>
    obtain ⟨i, h, L, hi, hh, rfl, rfl, HJ⟩ := hrel
    by_cases h0 : 0 < i
    · obtain ⟨i, rfl⟩ : ∃ m, i = m + 1 := ⟨i - 1, by omega⟩
      have i0 : ((i + 1 : Nat) : Int) - 1 = (i : Int) := by omega
      rw [i0]
      obtain ⟨ad, rfl, hb1, hcell⟩ := (HR.out.below HJ.out.2.2.2).at_ (show i < n by omega)
      have hli : i < l.length := by have := HR.out.len; omega
      have hd1 := HR.out.lt (show i < n by omega)
      have hL : i < L.length := by rw [HJ.out.2.1.1]; omega
      have cR : wr.cell? ⟨w.heap.size, i, none⟩ = some (.int .u32 (nth L i : Int)) := by rw [HJ.out.2.2.1.cell, urow_get hL]
      have fR : wr.frozen? ⟨w.heap.size, i, none⟩ = false := HJ.out.2.2.1.frozen i
      clear hL
      have hst := Lib.hid (HJ.out.2.1.step hli HR.out.2.2 (pow2_pos s) (Nat.mod_eq_zero_of_dvd (Nat.pow_dvd_pow 2 (show s ≤ 32 by omega))))
      have hj := Lib.hid (shr_val h (nth l i) hd1)
      go_wp2_with fail
      rw [hj.out, HJ.out.1]
      have hy : nth l (i + 1) < 4294967296 := by rw [← HJ.out.1]; exact Nat.mod_lt _ (by omega)
      have hset := HJ.out.2.2.1.set_ i (.int .u32 (((nth l (i + 1) * 4294967296 + nth l i) / 2 ^ s % 4294967296 : Nat) : Int))
      rw [urow_set] at hset
      have hst2 := hst.out
      obtain ⟨sm, hsm⟩ : ∃ sm, sm = nth l (i + 1) * 4294967296 + nth l i := ⟨_, rfl⟩
      rw [← hsm] at hset hst2 ⊢
      refine ⟨⟨i, sm, _, by omega, by omega, rfl, rfl, Lib.hid ⟨by omega, hst2, ?_, HJ.out.2.2.2.setCell (Nat.le_refl _) _⟩⟩, by simp [intOf]⟩
      have e : ((sm / 2 ^ s % 4294967296 : Nat) : Int) = (sm : Int) / 2 ^ s % 4294967296 := by simp
      rw [← e]
      exact hset
    · obtain rfl : i = 0 := by omega
      go_wp2_with fail
      go_ret
      obtain ⟨h1, h2, h3⟩ := HJ.out.2.1
      exact ⟨L, rfl, by rw [h1, HR.out.len], h2, by simpa using h3, HJ.out.2.2.1, HJ.out.2.2.2⟩

end Go.Proofs.Ytifnbpkcnkfanaa
