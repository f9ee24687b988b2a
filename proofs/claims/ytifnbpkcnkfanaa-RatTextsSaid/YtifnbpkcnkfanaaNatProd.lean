/-
  Contracts of nat.subProduct and addBack.
-/
import Derived.Test.YtifnbpkcnkfanaaNatGuess
import Derived.Test.YtifnbpkcnkfanaaNatSub
import Derived.Test.YtifnbpkcnkfanaaNatMul
namespace Go.Proofs.Ytifnbpkcnkfanaa
open Go.RowKit

def SpInv (p : Nat) (S0 S v : List Nat) (f i cr bw : Nat) : Prop := S.length = S0.length ∧ (∀ d ∈ S, d < p) ∧ cr < p ∧ bw ≤ 1 ∧ S.drop i = S0.drop i ∧ valB p (S.take i) + f * valB p (v.take i) = valB p (S0.take i) + p ^ i * (cr + bw)
theorem nth_of_drop {L M : List Nat} {i k : Nat} (h : L.drop i = M.drop i) (hk : i ≤ k) : nth L k = nth M k := by
  have h1 : (L.drop i)[k - i]? = (M.drop i)[k - i]? := by rw [h]
  simp only [List.getElem?_drop, show i + (k - i) = k by omega] at h1
  simp [nth, List.getD, h1]
theorem SpInv.step {p : Nat} {S0 S v : List Nat} {f i cr bw c x b : Nat} (h : SpInv p S0 S v f i cr bw) (hi : i < v.length) (hS : i < S0.length) (d0 : ∀ d ∈ S0, d < p) (dv : ∀ d ∈ v, d < p) (hf : f < p)
    (hc : c = cr + f * nth v i) (hx : x + c % p + bw = nth S0 i + p * b) (hxp : x < p) (hb : b ≤ 1) : SpInv p S0 (S.set i x) v f (i + 1) (c / p) b ∧ c < p * p := by
  obtain ⟨h1, h2, h3, h4, h5, h6⟩ := h
  have e0 := d0 _ (nth_mem hS)
  have e1 := dv _ (nth_mem hi)
  have hcp : c < p * p := by have := mul_bound' hf e1 h3 (show 0 < p by omega); omega
  refine ⟨⟨by rw [List.length_set]; exact h1, mem_set h2 hxp, Nat.div_lt_of_lt_mul hcp, hb, ?_, ?_⟩, hcp⟩
  · rw [List.drop_set, if_pos (by omega)]
    have := congrArg (List.drop 1) h5
    rw [List.drop_drop, List.drop_drop] at this
    exact this
  · rw [take_set_lt (by omega), valB_snoc, List.length_take, Nat.min_eq_left (by omega), valB_take hi, valB_take hS, Nat.mul_add, Nat.pow_succ]
    have q1 : f * (p ^ i * nth v i) = p ^ i * (f * nth v i) := by rw [Nat.mul_left_comm]
    have q2 : p ^ i * p * (c / p + b) = p ^ i * (p * (c / p)) + p ^ i * (p * b) := by rw [Nat.mul_assoc, Nat.mul_add, Nat.mul_add]
    have q3 : p ^ i * x + p ^ i * (c % p) + p ^ i * bw = p ^ i * nth S0 i + p ^ i * (p * b) := by rw [← Nat.mul_add, ← Nat.mul_add, hx, Nat.mul_add]
    have q4 : p ^ i * (c % p) + p ^ i * (p * (c / p)) = p ^ i * cr + p ^ i * (f * nth v i) := by rw [← Nat.mul_add, Nat.mod_add_div, hc, Nat.mul_add]
    have q5 : p ^ i * (cr + bw) = p ^ i * cr + p ^ i * bw := Nat.mul_add _ _ _
    rw [q1, q2]
    omega
/-- The end: the top digit. -/
theorem SpInv.done {p : Nat} {S0 S v : List Nat} {f n cr bw x b : Nat} (h : SpInv p S0 S v f n cr bw) (hS : S0.length = n + 1) (hv : v.length = n)
    (hx : x + cr + bw = nth S0 n + p * b) (hxp : x < p) (hb : b ≤ 1) :
    (b = 0 → f * valB p v ≤ valB p S0 ∧ valB p (S.set n x) = valB p S0 - f * valB p v) ∧ (b = 1 → valB p S0 < f * valB p v ∧ valB p (S.set n x) + f * valB p v = valB p S0 + p ^ (n + 1)) := by
  obtain ⟨h1, h2, h3, h4, h5, h6⟩ := h
  have e1 : valB p (S.set n x) = valB p (S.take n) + p ^ n * x := by
    have : (S.set n x).take (n + 1) = S.set n x := List.take_of_length_le (by rw [List.length_set]; omega)
    rw [← this, take_set_lt (by omega), valB_snoc, List.length_take, Nat.min_eq_left (by omega)]
  have e2 : valB p S0 = valB p (S0.take n) + p ^ n * nth S0 n := by
    have := valB_take (b := p) (l := S0) (k := n) (by omega)
    rwa [List.take_of_length_le (by omega)] at this
  rw [List.take_of_length_le (by omega : v.length ≤ n)] at h6
  have e3 : p ^ n * x + p ^ n * cr + p ^ n * bw = p ^ n * nth S0 n + p ^ n * (p * b) := by rw [← Nat.mul_add, ← Nat.mul_add, hx, Nat.mul_add]
  have e4 : p ^ n * (cr + bw) = p ^ n * cr + p ^ n * bw := Nat.mul_add _ _ _
  have hlt : valB p (S.set n x) < p ^ (n + 1) := by
    have := valB_lt (b := p) (l := S.set n x) (mem_set h2 hxp)
    rwa [List.length_set, h1, hS] at this
  constructor
  · rintro rfl
    simp only [Nat.mul_zero] at e3
    constructor <;> omega
  · rintro rfl
    have e5 : p ^ n * (p * 1) = p ^ (n + 1) := by rw [Nat.mul_one, Nat.pow_succ]
    rw [e5] at e3
    constructor <;> omega

theorem sp_lo (a y b : Nat) (ha : a < 4294967296) (hy : y < 4294967296) (hb : b ≤ 1) : IntKind.u64.wrap (IntKind.u64.wrap ((a : Int) - y) - b) % 4294967296 = (((a + 8589934592 - y - b) % 4294967296 : Nat) : Int) := by
  rw [u64_wrap, u64_wrap]; omega
theorem sp_hi (a y b : Nat) (ha : a < 4294967296) (hy : y < 4294967296) (hb : b ≤ 1) : IntKind.u64.wrap (IntKind.u64.wrap ((a : Int) - y) - b) / 9223372036854775808 = ((if a < y + b then 1 else 0 : Nat) : Int) := by
  rw [u64_wrap, u64_wrap]
  split <;> omega
theorem mask_nat (c : Nat) (h : c < 18446744073709551616) : bits .and .u64 (c : Int) 4294967295 = ((c % 4294967296 : Nat) : Int) := by
  rw [show (4294967295 : Int) = ((4294967295 : Nat) : Int) from rfl, u64_and_nat _ _ h (by omega)]
  have := Nat.and_two_pow_sub_one_eq_mod c 32
  simp only [show (2 : Nat) ^ 32 - 1 = 4294967295 from rfl, show (2 : Nat) ^ 32 = 4294967296 from rfl] at this
  rw [this]
theorem sp_digit (a y b : Nat) (ha : a < 4294967296) (hy : y < 4294967296) (hb : b ≤ 1) : (a + 8589934592 - y - b) % 4294967296 + y + b = a + 4294967296 * (if a < y + b then 1 else 0) := by
  split <;> omega

/-- subProduct's answer. -/
def RetSp (w : World) (g : Nat) (t : TypeId) (P S R : List Nat) (X : List Value) (v : List Nat) (f : Nat) (e : Ending) (w' : World) : Prop :=
  ∃ (S' : List Nat) (neg : Bool), e = .returned (.bool neg) ∧ S'.length = S.length ∧ (∀ d ∈ S', d < 4294967296) ∧ Blk w' g t (urowX (P ++ S' ++ R) X) ∧ w.grownBy w' (some g) ∧
    (neg = false → f * valB 4294967296 v ≤ valB 4294967296 S ∧ valB 4294967296 S' = valB 4294967296 S - f * valB 4294967296 v) ∧
    (neg = true → valB 4294967296 S < f * valB 4294967296 v ∧ valB 4294967296 S' + f * valB 4294967296 v = valB 4294967296 S + 4294967296 ^ S.length)

set_option maxHeartbeats 4000000 in
theorem subProduct_any (g gv j N n c d f : Nat) (P S R v : List Nat) (X Xv : List Value) (w : World) (hb : Blk w g 23 (urowX (P ++ S ++ R) X)) (hbv : Blk w gv 23 (urowX v Xv)) (hg : g ≠ gv) (hj : P.length = j) (hN : N = n + 1) (hS : S.length = N) (hv : v.length = n)
    (dS : ∀ d ∈ S, d < 4294967296) (dv : ∀ d ∈ v, d < 4294967296) (hf : f < 4294967296) (hn : n ≤ 1000000) :
    Calls Try.prog 75 #[.slice (some ⟨g, j, none⟩) N c, .slice (some ⟨gv, 0, none⟩) n d, .int .u64 f] w (RetSp w g 23 P S R X v f) := by
  have HB := Lib.hid hb; clear hb
  have HV := Lib.hid hbv; clear hbv
  have HE := Lib.hid (And.intro hj (And.intro hS hv)); clear hj hS hv
  have HD := Lib.hid (And.intro dS dv); clear dS dv
  have hnN : n < N := by omega
  have HN := Lib.hid hN; clear hN
  have HG := Lib.hid hg; clear hg
  go_enter Try.func75, Try.ntmps75
  go_wp2_with fail
  go_loopw [7, 8, 9, 10, 14] (fun cv bv _ _ i wr => ∃ (i' cr bw : Nat) (S' : List Nat), i' ≤ n ∧ i = .int .i64 i' ∧ cv = .int .u64 cr ∧ bv = .int .u64 bw ∧ cr < 4294967296 ∧ bw ≤ 1 ∧ Hid (SpInv 4294967296 S S' v f i' cr bw ∧ Blk wr g 23 (urowX (P ++ S' ++ R) X) ∧ w.grownBy wr (some g))) (fun _ _ _ _ i _ => n - (intOf i).toNat)
  case atStart =>
    refine ⟨0, 0, 0, S, Nat.zero_le _, rfl, rfl, rfl, by omega, by omega, Lib.hid ⟨⟨rfl, HD.out.1, by omega, by omega, rfl, ?_⟩, HB.out, World.grownBy.refl w _⟩⟩
    simp [valB]
  case round =>
    obtain ⟨i, cr, bw, S', hi, rfl, rfl, rfl, hcr, hbw, HJ⟩ := hrel
    by_cases hlt : i < n
    · have hvi : i < v.length := by rw [HE.out.2.2]; exact hlt
      have hSi : i < S.length := by rw [HE.out.2.1]; omega
      have hS'i : i < S'.length := by rw [HJ.out.1.1]; exact hSi
      have hbv := HV.out.grown HJ.out.2.2 (by intro e; cases e; exact HG.out rfl)
      have cV : wr.cell? ⟨gv, i, none⟩ = some (.int .u32 (nth v i : Int)) := by rw [hbv.cell, urowX_get hvi]
      have hx : nth S' i = nth S i := nth_of_drop HJ.out.1.2.2.2.2.1 (Nat.le_refl _)
      have cS : wr.cell? ⟨g, j + i, none⟩ = some (.int .u32 (nth S i : Int)) := by
        rw [HJ.out.2.1.cell, urowX_get (by simp [HE.out.1]; omega), nth_mid HE.out.1 hS'i, hx]
      have fS : wr.frozen? ⟨g, j + i, none⟩ = false := HJ.out.2.1.frozen _
      have dv1 := HD.out.2 _ (nth_mem hvi)
      have ds1 := HD.out.1 _ (nth_mem hSi)
      have HX := Lib.hid (And.intro hvi (And.intro hSi hS'i)); clear hvi hSi hS'i hbv hx
      have hbd : cr + f * nth v i < 18446744073709551616 := by
        have : f * nth v i ≤ 4294967295 * 4294967295 := Nat.mul_le_mul (by omega) (by omega)
        omega
      have hprod : f * nth v i < 18446744073709551616 := by omega
      go_wp2_with fail
      rw [show ((cr : Int) + (f : Int) * (nth v i : Int)) = ((cr + f * nth v i : Nat) : Int) by simp, mask_nat _ hbd]
      have hy : (cr + f * nth v i) % 4294967296 < 4294967296 := Nat.mod_lt _ (by omega)
      rw [sp_lo _ _ _ ds1 hy hbw, sp_hi _ _ _ ds1 hy hbw]
      have hst := (HJ.out.1.step HX.out.1 HX.out.2.1 HD.out.1 HD.out.2 hf rfl (sp_digit _ _ _ ds1 hy hbw) (Nat.mod_lt _ (by omega)) (by split <;> omega)).1
      have hset := HJ.out.2.1.set_ (j + i) (.int .u32 (((nth S i + 8589934592 - (cr + f * nth v i) % 4294967296 - bw) % 4294967296 : Nat) : Int))
      rw [urowX_set _ _ _ _ (by have h1 := HE.out.1; have h2 := HX.out.2.2; simp; omega), set_mid HE.out.1 HX.out.2.2] at hset
      exact ⟨⟨i + 1, _, _, _, by omega, by go_num, vint_eq (by simp), rfl, hst.2.2.1, hst.2.2.2.1, Lib.hid ⟨hst, hset, only_setCell HJ.out.2.2 (.inl rfl) _⟩⟩, by simp [intOf]; omega⟩
    · obtain rfl : i = n := by omega
      have hSi : i < S.length := by rw [HE.out.2.1]; omega
      have hS'i : i < S'.length := by rw [HJ.out.1.1]; exact hSi
      have hx : nth S' i = nth S i := nth_of_drop HJ.out.1.2.2.2.2.1 (Nat.le_refl _)
      have cS : wr.cell? ⟨g, j + i, none⟩ = some (.int .u32 (nth S i : Int)) := by
        rw [HJ.out.2.1.cell, urowX_get (by simp [HE.out.1]; omega), nth_mid HE.out.1 hS'i, hx]
      have fS : wr.frozen? ⟨g, j + i, none⟩ = false := HJ.out.2.1.frozen _
      have ds1 := HD.out.1 _ (nth_mem hSi)
      have HX := Lib.hid hS'i; clear hSi hS'i hx
      go_wp2_with fail
      go_ret
      rw [sp_lo _ _ _ ds1 hcr hbw, sp_hi _ _ _ ds1 hcr hbw]
      have hset := HJ.out.2.1.set_ (j + i) (.int .u32 (((nth S i + 8589934592 - cr - bw) % 4294967296 : Nat) : Int))
      rw [urowX_set _ _ _ _ (by have h1 := HE.out.1; have h2 := HX.out; simp; omega), set_mid HE.out.1 HX.out] at hset
      have hdn := HJ.out.1.done (by rw [HE.out.2.1]; exact HN.out) HE.out.2.2 (sp_digit _ _ _ ds1 hcr hbw) (Nat.mod_lt _ (by omega)) (by split <;> omega)
      refine ⟨_, decide (nth S i < cr + bw), ret_bool ?_, by rw [List.length_set]; exact HJ.out.1.1, mem_set HJ.out.1.2.1 (Nat.mod_lt _ (by omega)), hset, only_setCell HJ.out.2.2 (.inl rfl) _, fun h => ?_, fun h => ?_⟩
      · by_cases h : nth S i < cr + bw <;> simp [h]
      · exact hdn.1 (by simp at h; rw [if_neg (by omega)])
      · have := hdn.2 (by simp at h; rw [if_pos h])
        rw [HE.out.2.1, HN.out]
        exact this

/-- addBack so far. -/
def AbInv (p : Nat) (S0 S v : List Nat) (i cr : Nat) : Prop := S.length = S0.length ∧ (∀ d ∈ S, d < p) ∧ cr ≤ 1 ∧ S.drop i = S0.drop i ∧ valB p (S.take i) + p ^ i * cr = valB p (S0.take i) + valB p (v.take i)
theorem AbInv.step {p : Nat} {S0 S v : List Nat} {i cr s : Nat} (h : AbInv p S0 S v i cr) (hi : i < v.length) (hS : i < S0.length) (d0 : ∀ d ∈ S0, d < p) (dv : ∀ d ∈ v, d < p)
    (hs : s = cr + (nth S0 i + nth v i)) : AbInv p S0 (S.set i (s % p)) v (i + 1) (s / p) := by
  obtain ⟨h1, h2, h3, h4, h5⟩ := h
  have e0 := d0 _ (nth_mem hS)
  have e1 := dv _ (nth_mem hi)
  have hp : 0 < p := by omega
  refine ⟨by rw [List.length_set]; exact h1, mem_set h2 (Nat.mod_lt _ hp), ?_, ?_, ?_⟩
  · have : s < p * 2 := by omega
    have := Nat.div_lt_of_lt_mul this
    omega
  · rw [List.drop_set, if_pos (by omega)]
    have := congrArg (List.drop 1) h4
    rw [List.drop_drop, List.drop_drop] at this
    exact this
  · rw [take_set_lt (by omega), valB_snoc, List.length_take, Nat.min_eq_left (by omega), valB_take hi, valB_take hS, Nat.pow_succ]
    have q1 : p ^ i * (s % p) + p ^ i * p * (s / p) = p ^ i * s := by rw [Nat.mul_assoc, ← Nat.mul_add, Nat.mod_add_div]
    rw [Nat.add_assoc, q1, hs, Nat.mul_add, Nat.mul_add]
    omega
theorem AbInv.done {p : Nat} {S0 S v : List Nat} {n cr : Nat} (h : AbInv p S0 S v n cr) (hS : S0.length = n + 1) (hv : v.length = n) :
    valB p (S.set n ((nth S0 n + cr) % p)) % p ^ (n + 1) = (valB p S0 + valB p v) % p ^ (n + 1) := by
  obtain ⟨h1, h2, h3, h4, h5⟩ := h
  have e1 : valB p (S.set n ((nth S0 n + cr) % p)) = valB p (S.take n) + p ^ n * ((nth S0 n + cr) % p) := by
    have : (S.set n ((nth S0 n + cr) % p)).take (n + 1) = S.set n ((nth S0 n + cr) % p) := List.take_of_length_le (by rw [List.length_set]; omega)
    rw [← this, take_set_lt (by omega), valB_snoc, List.length_take, Nat.min_eq_left (by omega)]
  have e2 : valB p S0 = valB p (S0.take n) + p ^ n * nth S0 n := by
    have := valB_take (b := p) (l := S0) (k := n) (by omega)
    rwa [List.take_of_length_le (by omega)] at this
  rw [List.take_of_length_le (by omega : v.length ≤ n)] at h5
  have e3 : p ^ n * (nth S0 n + cr) = p ^ n * ((nth S0 n + cr) % p) + p ^ (n + 1) * ((nth S0 n + cr) / p) := by
    rw [Nat.pow_succ, Nat.mul_assoc, ← Nat.mul_add, Nat.mod_add_div]
  have e4 : p ^ n * (nth S0 n + cr) = p ^ n * nth S0 n + p ^ n * cr := Nat.mul_add _ _ _
  have e5 : valB p S0 + valB p v = valB p (S.set n ((nth S0 n + cr) % p)) + p ^ (n + 1) * ((nth S0 n + cr) / p) := by omega
  rw [e5, Nat.add_mul_mod_self_left]

/-- addBack's answer. -/
def RetAb (w : World) (g : Nat) (t : TypeId) (P S R : List Nat) (X : List Value) (v : List Nat) (e : Ending) (w' : World) : Prop :=
  ∃ S' : List Nat, e = .returned (.tuple #[]) ∧ S'.length = S.length ∧ (∀ d ∈ S', d < 4294967296) ∧ Blk w' g t (urowX (P ++ S' ++ R) X) ∧ w.grownBy w' (some g) ∧
    valB 4294967296 S' % 4294967296 ^ S.length = (valB 4294967296 S + valB 4294967296 v) % 4294967296 ^ S.length

set_option maxHeartbeats 4000000 in
theorem addBack_any (g gv j N n c d : Nat) (P S R v : List Nat) (X Xv : List Value) (w : World) (hb : Blk w g 23 (urowX (P ++ S ++ R) X)) (hbv : Blk w gv 23 (urowX v Xv)) (hg : g ≠ gv) (hj : P.length = j) (hN : N = n + 1) (hS : S.length = N) (hv : v.length = n)
    (dS : ∀ d ∈ S, d < 4294967296) (dv : ∀ d ∈ v, d < 4294967296) (hn : n ≤ 1000000) :
    Calls Try.prog 76 #[.slice (some ⟨g, j, none⟩) N c, .slice (some ⟨gv, 0, none⟩) n d] w (RetAb w g 23 P S R X v) := by
  have HB := Lib.hid hb; clear hb
  have HV := Lib.hid hbv; clear hbv
  have HE := Lib.hid (And.intro hj (And.intro hS hv)); clear hj hS hv
  have HD := Lib.hid (And.intro dS dv); clear dS dv
  have hnN : n < N := by omega
  have HN := Lib.hid hN; clear hN
  have HG := Lib.hid hg; clear hg
  go_enter Try.func76, Try.ntmps76
  go_wp2_with fail
  go_loopw [4, 5, 8] (fun cv _ i wr => ∃ (i' cr : Nat) (S' : List Nat), i' ≤ n ∧ i = .int .i64 i' ∧ cv = .int .u64 cr ∧ cr ≤ 1 ∧ Hid (AbInv 4294967296 S S' v i' cr ∧ Blk wr g 23 (urowX (P ++ S' ++ R) X) ∧ w.grownBy wr (some g))) (fun _ _ i _ => n - (intOf i).toNat)
  case atStart =>
    refine ⟨0, 0, S, Nat.zero_le _, rfl, rfl, by omega, Lib.hid ⟨⟨rfl, HD.out.1, by omega, rfl, ?_⟩, HB.out, World.grownBy.refl w _⟩⟩
    simp [valB]
  case round =>
    obtain ⟨i, cr, S', hi, rfl, rfl, hcr, HJ⟩ := hrel
    by_cases hlt : i < n
    · have hvi : i < v.length := by rw [HE.out.2.2]; exact hlt
      have hSi : i < S.length := by rw [HE.out.2.1]; omega
      have hS'i : i < S'.length := by rw [HJ.out.1.1]; exact hSi
      have hbv := HV.out.grown HJ.out.2.2 (by intro e; cases e; exact HG.out rfl)
      have cV : wr.cell? ⟨gv, i, none⟩ = some (.int .u32 (nth v i : Int)) := by rw [hbv.cell, urowX_get hvi]
      have hx : nth S' i = nth S i := nth_of_drop HJ.out.1.2.2.2.1 (Nat.le_refl _)
      have cS : wr.cell? ⟨g, j + i, none⟩ = some (.int .u32 (nth S i : Int)) := by
        rw [HJ.out.2.1.cell, urowX_get (by simp [HE.out.1]; omega), nth_mid HE.out.1 hS'i, hx]
      have fS : wr.frozen? ⟨g, j + i, none⟩ = false := HJ.out.2.1.frozen _
      have dv1 := HD.out.2 _ (nth_mem hvi)
      have ds1 := HD.out.1 _ (nth_mem hSi)
      have HX := Lib.hid (And.intro hvi (And.intro hSi hS'i)); clear hvi hSi hS'i hbv hx
      go_wp2_with fail
      go_quiet (fail)
      go_wp2_with fail
      rw [show ((cr : Int) + ((nth S i : Int) + (nth v i : Int))) = ((cr + (nth S i + nth v i) : Nat) : Int) by simp]
      have hst := HJ.out.1.step HX.out.1 HX.out.2.1 HD.out.1 HD.out.2 rfl
      have hset := (HJ.out.2.1.drewN nq).set_ (j + i) (.int .u32 (((cr + (nth S i + nth v i)) % 4294967296 : Nat) : Int))
      rw [urowX_set _ _ _ _ (by have h1 := HE.out.1; have h2 := HX.out.2.2; simp; omega), set_mid HE.out.1 HX.out.2.2] at hset
      refine ⟨⟨i + 1, _, _, by omega, by go_num, vint_eq (by simp), hst.2.2.1, Lib.hid ⟨hst, ?_, only_setCell (only_drewN HJ.out.2.2 _) (.inl rfl) _⟩⟩, by simp [intOf]; omega⟩
      simpa using hset
    · obtain rfl : i = n := by omega
      have hSi : i < S.length := by rw [HE.out.2.1]; omega
      have hS'i : i < S'.length := by rw [HJ.out.1.1]; exact hSi
      have hx : nth S' i = nth S i := nth_of_drop HJ.out.1.2.2.2.1 (Nat.le_refl _)
      have cS : wr.cell? ⟨g, j + i, none⟩ = some (.int .u32 (nth S i : Int)) := by
        rw [HJ.out.2.1.cell, urowX_get (by simp [HE.out.1]; omega), nth_mid HE.out.1 hS'i, hx]
      have fS : wr.frozen? ⟨g, j + i, none⟩ = false := HJ.out.2.1.frozen _
      have ds1 := HD.out.1 _ (nth_mem hSi)
      have HX := Lib.hid hS'i; clear hSi hS'i hx
      go_wp2_with fail
      refine bodyPost_end (results_none rfl _ _ _) rfl ?_
      rw [show (((nth S i : Int) + (cr : Int)) % 4294967296) = (((nth S i + cr) % 4294967296 : Nat) : Int) by simp]
      have hset := HJ.out.2.1.set_ (j + i) (.int .u32 (((nth S i + cr) % 4294967296 : Nat) : Int))
      rw [urowX_set _ _ _ _ (by have h1 := HE.out.1; have h2 := HX.out; simp; omega), set_mid HE.out.1 HX.out] at hset
      refine ⟨_, rfl, by rw [List.length_set]; exact HJ.out.1.1, mem_set HJ.out.1.2.1 (Nat.mod_lt _ (by omega)), hset, only_setCell HJ.out.2.2 (.inl rfl) _, ?_⟩
      rw [HE.out.2.1, HN.out]
      exact HJ.out.1.done (by rw [HE.out.2.1]; exact HN.out) HE.out.2.2

end Go.Proofs.Ytifnbpkcnkfanaa
