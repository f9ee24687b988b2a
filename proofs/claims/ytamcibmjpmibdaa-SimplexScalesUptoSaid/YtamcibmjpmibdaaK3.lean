/-
Contracts of nat.subProduct and addBack.
Contract of nat.divLong.
Contract of nat.DivMod.
Contracts of nat.Bits, Uint64.
Rows of bytes; slices.Reverse of bytes; decimal texts.
Contract of nat.Text.
Numbers of layer 4, each with its value and a bound: the contracts as the laws use them.
-/
import Derived.Test.YtamcibmjpmibdaaK2
import Derived.Test.YtamcibmjpmibdaaK1
import Derived.Deep.LoopGhost
namespace Go.Proofs.Ytamcibmjpmibdaa
open Go.RowKit

def SpInv (p : Nat) (S0 S v : List Nat) (f i cr bw : Nat) : Prop := S.length = S0.length ∧ (∀ d ∈ S, d < p) ∧ cr < p ∧ bw ≤ 1 ∧ S.drop i = S0.drop i ∧ valB p (S.take i) + f * valB p (v.take i) = valB p (S0.take i) + p ^ i * (cr + bw)
theorem nth_of_drop {L M : List Nat} {i k : Nat} (h : L.drop i = M.drop i) (hk : i ≤ k) : nth L k = nth M k := by
  have h1 : (L.drop i)[k - i]? = (M.drop i)[k - i]? := by rw [h]
  simp only [List.getElem?_drop, show i + (k - i) = k by omega] at h1
  simp [nth, List.getD, h1]
theorem SpInv.step {p : Nat} {S0 S v : List Nat} {f i cr bw c x b : Nat} (h : SpInv p S0 S v f i cr bw) (hi : i < v.length) (hS : i < S0.length) (d0 : ∀ d ∈ S0, d < p) (dv : ∀ d ∈ v, d < p) (hf : f < p)
    (hc : c = cr + f * nth v i) (hx : x + c % p + bw = nth S0 i + p * b) (hxp : x < p) (hb : b ≤ 1) : SpInv p S0 (S.set i x) v f (i + 1) (c / p) b ∧ c < p * p := by
  obtain ⟨h1, h2, h3, h4, h5, h6⟩ := h
  have e0 := d0 _ (nth_mem hS)
  have e1 := dv _ (nth_mem hi)
  have hcp : c < p * p := by have := mul_bound' hf e1 h3 (show 0 < p by omega); omega
  refine ⟨⟨by rw [List.length_set]; exact h1, mem_set h2 hxp, Nat.div_lt_of_lt_mul hcp, hb, ?_, ?_⟩, hcp⟩
  · rw [List.drop_set, if_pos (by omega)]
    have := congrArg (List.drop 1) h5
    rw [List.drop_drop, List.drop_drop] at this
    exact this
  · rw [take_set_lt (by omega), valB_snoc, List.length_take, Nat.min_eq_left (by omega), valB_take hi, valB_take hS, Nat.mul_add, Nat.pow_succ]
    have q1 : f * (p ^ i * nth v i) = p ^ i * (f * nth v i) := by rw [Nat.mul_left_comm]
    have q2 : p ^ i * p * (c / p + b) = p ^ i * (p * (c / p)) + p ^ i * (p * b) := by rw [Nat.mul_assoc, Nat.mul_add, Nat.mul_add]
    have q3 : p ^ i * x + p ^ i * (c % p) + p ^ i * bw = p ^ i * nth S0 i + p ^ i * (p * b) := by rw [← Nat.mul_add, ← Nat.mul_add, hx, Nat.mul_add]
    have q4 : p ^ i * (c % p) + p ^ i * (p * (c / p)) = p ^ i * cr + p ^ i * (f * nth v i) := by rw [← Nat.mul_add, Nat.mod_add_div, hc, Nat.mul_add]
    have q5 : p ^ i * (cr + bw) = p ^ i * cr + p ^ i * bw := Nat.mul_add _ _ _
    rw [q1, q2]
    omega
/-- The end: the top digit. -/
theorem SpInv.done {p : Nat} {S0 S v : List Nat} {f n cr bw x b : Nat} (h : SpInv p S0 S v f n cr bw) (hS : S0.length = n + 1) (hv : v.length = n)
    (hx : x + cr + bw = nth S0 n + p * b) (hxp : x < p) (hb : b ≤ 1) :
    (b = 0 → f * valB p v ≤ valB p S0 ∧ valB p (S.set n x) = valB p S0 - f * valB p v) ∧ (b = 1 → valB p S0 < f * valB p v ∧ valB p (S.set n x) + f * valB p v = valB p S0 + p ^ (n + 1)) := by
  obtain ⟨h1, h2, h3, h4, h5, h6⟩ := h
  have e1 : valB p (S.set n x) = valB p (S.take n) + p ^ n * x := by
    have : (S.set n x).take (n + 1) = S.set n x := List.take_of_length_le (by rw [List.length_set]; omega)
    rw [← this, take_set_lt (by omega), valB_snoc, List.length_take, Nat.min_eq_left (by omega)]
  have e2 : valB p S0 = valB p (S0.take n) + p ^ n * nth S0 n := by
    have := valB_take (b := p) (l := S0) (k := n) (by omega)
    rwa [List.take_of_length_le (by omega)] at this
  rw [List.take_of_length_le (by omega : v.length ≤ n)] at h6
  have e3 : p ^ n * x + p ^ n * cr + p ^ n * bw = p ^ n * nth S0 n + p ^ n * (p * b) := by rw [← Nat.mul_add, ← Nat.mul_add, hx, Nat.mul_add]
  have e4 : p ^ n * (cr + bw) = p ^ n * cr + p ^ n * bw := Nat.mul_add _ _ _
  have hlt : valB p (S.set n x) < p ^ (n + 1) := by
    have := valB_lt (b := p) (l := S.set n x) (mem_set h2 hxp)
    rwa [List.length_set, h1, hS] at this
  constructor
  · rintro rfl
    simp only [Nat.mul_zero] at e3
    constructor <;> omega
  · rintro rfl
    have e5 : p ^ n * (p * 1) = p ^ (n + 1) := by rw [Nat.mul_one, Nat.pow_succ]
    rw [e5] at e3
    constructor <;> omega

theorem sp_lo (a y b : Nat) (ha : a < 4294967296) (hy : y < 4294967296) (hb : b ≤ 1) : IntKind.u64.wrap (IntKind.u64.wrap ((a : Int) - y) - b) % 4294967296 = (((a + 8589934592 - y - b) % 4294967296 : Nat) : Int) := by
  rw [u64_wrap, u64_wrap]; omega
theorem sp_hi (a y b : Nat) (ha : a < 4294967296) (hy : y < 4294967296) (hb : b ≤ 1) : IntKind.u64.wrap (IntKind.u64.wrap ((a : Int) - y) - b) / 9223372036854775808 = ((if a < y + b then 1 else 0 : Nat) : Int) := by
  rw [u64_wrap, u64_wrap]
  split <;> omega
theorem mask_nat (c : Nat) (h : c < 18446744073709551616) : bits .and .u64 (c : Int) 4294967295 = ((c % 4294967296 : Nat) : Int) := by
  rw [show (4294967295 : Int) = ((4294967295 : Nat) : Int) from rfl, u64_and_nat _ _ h (by omega)]
  have := Nat.and_two_pow_sub_one_eq_mod c 32
  simp only [show (2 : Nat) ^ 32 - 1 = 4294967295 from rfl, show (2 : Nat) ^ 32 = 4294967296 from rfl] at this
  rw [this]
theorem sp_digit (a y b : Nat) (ha : a < 4294967296) (hy : y < 4294967296) (hb : b ≤ 1) : (a + 8589934592 - y - b) % 4294967296 + y + b = a + 4294967296 * (if a < y + b then 1 else 0) := by
  split <;> omega

/-- subProduct's answer. -/
def RetSp (w : World) (g : Nat) (t : TypeId) (P S R : List Nat) (X : List Value) (v : List Nat) (f : Nat) (e : Ending) (w' : World) : Prop :=
  ∃ (S' : List Nat) (neg : Bool), e = .returned (.bool neg) ∧ S'.length = S.length ∧ (∀ d ∈ S', d < 4294967296) ∧ Blk w' g t (urowX (P ++ S' ++ R) X) ∧ w.grownBy w' (some g) ∧
    (neg = false → f * valB 4294967296 v ≤ valB 4294967296 S ∧ valB 4294967296 S' = valB 4294967296 S - f * valB 4294967296 v) ∧
    (neg = true → valB 4294967296 S < f * valB 4294967296 v ∧ valB 4294967296 S' + f * valB 4294967296 v = valB 4294967296 S + 4294967296 ^ S.length)

set_option maxHeartbeats 4000000 in
theorem subProduct_any (g gv j N n c d f : Nat) (P S R v : List Nat) (X Xv : List Value) (w : World) (hb : Blk w g 111 (urowX (P ++ S ++ R) X)) (hbv : Blk w gv 111 (urowX v Xv)) (hg : g ≠ gv) (hj : P.length = j) (hN : N = n + 1) (hS : S.length = N) (hv : v.length = n)
    (dS : ∀ d ∈ S, d < 4294967296) (dv : ∀ d ∈ v, d < 4294967296) (hf : f < 4294967296) (hn : n ≤ 1000000) :
    Calls Try.prog 106 #[.slice (some ⟨g, j, none⟩) N c, .slice (some ⟨gv, 0, none⟩) n d, .int .u64 f] w (RetSp w g 111 P S R X v f) := by
  have HB := Lib.hid hb; clear hb
  have HV := Lib.hid hbv; clear hbv
  have HE := Lib.hid (And.intro hj (And.intro hS hv)); clear hj hS hv
  have HD := Lib.hid (And.intro dS dv); clear dS dv
  have hnN : n < N := by omega
  have HN := Lib.hid hN; clear hN
  have HG := Lib.hid hg; clear hg
  go_enter Try.func106, Try.ntmps106
  go_wp2_with fail
  go_loopw [7, 8, 9, 10, 14] (fun cv bv _ _ i wr => ∃ (i' cr bw : Nat) (S' : List Nat), i' ≤ n ∧ i = .int .i64 i' ∧ cv = .int .u64 cr ∧ bv = .int .u64 bw ∧ cr < 4294967296 ∧ bw ≤ 1 ∧ Hid (SpInv 4294967296 S S' v f i' cr bw ∧ Blk wr g 111 (urowX (P ++ S' ++ R) X) ∧ w.grownBy wr (some g))) (fun _ _ _ _ i _ => n - (intOf i).toNat)
  case atStart =>
    refine ⟨0, 0, 0, S, Nat.zero_le _, rfl, rfl, rfl, by omega, by omega, Lib.hid ⟨⟨rfl, HD.out.1, by omega, by omega, rfl, ?_⟩, HB.out, World.grownBy.refl w _⟩⟩
    simp [valB]
  case round =>
    obtain ⟨i, cr, bw, S', hi, rfl, rfl, rfl, hcr, hbw, HJ⟩ := hrel
    by_cases hlt : i < n
    · have hvi : i < v.length := by rw [HE.out.2.2]; exact hlt
      have hSi : i < S.length := by rw [HE.out.2.1]; omega
      have hS'i : i < S'.length := by rw [HJ.out.1.1]; exact hSi
      have hbv := HV.out.grown HJ.out.2.2 (by intro e; cases e; exact HG.out rfl)
      have cV : wr.cell? ⟨gv, i, none⟩ = some (.int .u32 (nth v i : Int)) := by rw [hbv.cell, urowX_get hvi]
      have hx : nth S' i = nth S i := nth_of_drop HJ.out.1.2.2.2.2.1 (Nat.le_refl _)
      have cS : wr.cell? ⟨g, j + i, none⟩ = some (.int .u32 (nth S i : Int)) := by
        rw [HJ.out.2.1.cell, urowX_get (by simp [HE.out.1]; omega), nth_mid HE.out.1 hS'i, hx]
      have fS : wr.frozen? ⟨g, j + i, none⟩ = false := HJ.out.2.1.frozen _
      have dv1 := HD.out.2 _ (nth_mem hvi)
      have ds1 := HD.out.1 _ (nth_mem hSi)
      have HX := Lib.hid (And.intro hvi (And.intro hSi hS'i)); clear hvi hSi hS'i hbv hx
      have hbd : cr + f * nth v i < 18446744073709551616 := by
        have : f * nth v i ≤ 4294967295 * 4294967295 := Nat.mul_le_mul (by omega) (by omega)
        omega
      have hprod : f * nth v i < 18446744073709551616 := by omega
      go_wp2_with fail
      rw [show ((cr : Int) + (f : Int) * (nth v i : Int)) = ((cr + f * nth v i : Nat) : Int) by simp, mask_nat _ hbd]
      have hy : (cr + f * nth v i) % 4294967296 < 4294967296 := Nat.mod_lt _ (by omega)
      rw [sp_lo _ _ _ ds1 hy hbw, sp_hi _ _ _ ds1 hy hbw]
      have hst := (HJ.out.1.step HX.out.1 HX.out.2.1 HD.out.1 HD.out.2 hf rfl (sp_digit _ _ _ ds1 hy hbw) (Nat.mod_lt _ (by omega)) (by split <;> omega)).1
      have hset := HJ.out.2.1.set_ (j + i) (.int .u32 (((nth S i + 8589934592 - (cr + f * nth v i) % 4294967296 - bw) % 4294967296 : Nat) : Int))
      rw [urowX_set _ _ _ _ (by have h1 := HE.out.1; have h2 := HX.out.2.2; simp; omega), set_mid HE.out.1 HX.out.2.2] at hset
      exact ⟨⟨i + 1, _, _, _, by omega, by go_num, vint_eq (by simp), rfl, hst.2.2.1, hst.2.2.2.1, Lib.hid ⟨hst, hset, only_setCell HJ.out.2.2 (.inl rfl) _⟩⟩, by simp [intOf]; omega⟩
    · obtain rfl : i = n := by omega
      have hSi : i < S.length := by rw [HE.out.2.1]; omega
      have hS'i : i < S'.length := by rw [HJ.out.1.1]; exact hSi
      have hx : nth S' i = nth S i := nth_of_drop HJ.out.1.2.2.2.2.1 (Nat.le_refl _)
      have cS : wr.cell? ⟨g, j + i, none⟩ = some (.int .u32 (nth S i : Int)) := by
        rw [HJ.out.2.1.cell, urowX_get (by simp [HE.out.1]; omega), nth_mid HE.out.1 hS'i, hx]
      have fS : wr.frozen? ⟨g, j + i, none⟩ = false := HJ.out.2.1.frozen _
      have ds1 := HD.out.1 _ (nth_mem hSi)
      have HX := Lib.hid hS'i; clear hSi hS'i hx
      go_wp2_with fail
      go_ret
      rw [sp_lo _ _ _ ds1 hcr hbw, sp_hi _ _ _ ds1 hcr hbw]
      have hset := HJ.out.2.1.set_ (j + i) (.int .u32 (((nth S i + 8589934592 - cr - bw) % 4294967296 : Nat) : Int))
      rw [urowX_set _ _ _ _ (by have h1 := HE.out.1; have h2 := HX.out; simp; omega), set_mid HE.out.1 HX.out] at hset
      have hdn := HJ.out.1.done (by rw [HE.out.2.1]; exact HN.out) HE.out.2.2 (sp_digit _ _ _ ds1 hcr hbw) (Nat.mod_lt _ (by omega)) (by split <;> omega)
      refine ⟨_, decide (nth S i < cr + bw), ret_bool ?_, by rw [List.length_set]; exact HJ.out.1.1, mem_set HJ.out.1.2.1 (Nat.mod_lt _ (by omega)), hset, only_setCell HJ.out.2.2 (.inl rfl) _, fun h => ?_, fun h => ?_⟩
      · by_cases h : nth S i < cr + bw <;> simp [h]
      · exact hdn.1 (by simp at h; rw [if_neg (by omega)])
      · have := hdn.2 (by simp at h; rw [if_pos h])
        rw [HE.out.2.1, HN.out]
        exact this

/-- addBack so far. -/
def AbInv (p : Nat) (S0 S v : List Nat) (i cr : Nat) : Prop := S.length = S0.length ∧ (∀ d ∈ S, d < p) ∧ cr ≤ 1 ∧ S.drop i = S0.drop i ∧ valB p (S.take i) + p ^ i * cr = valB p (S0.take i) + valB p (v.take i)
theorem AbInv.step {p : Nat} {S0 S v : List Nat} {i cr s : Nat} (h : AbInv p S0 S v i cr) (hi : i < v.length) (hS : i < S0.length) (d0 : ∀ d ∈ S0, d < p) (dv : ∀ d ∈ v, d < p)
    (hs : s = cr + (nth S0 i + nth v i)) : AbInv p S0 (S.set i (s % p)) v (i + 1) (s / p) := by
  obtain ⟨h1, h2, h3, h4, h5⟩ := h
  have e0 := d0 _ (nth_mem hS)
  have e1 := dv _ (nth_mem hi)
  have hp : 0 < p := by omega
  refine ⟨by rw [List.length_set]; exact h1, mem_set h2 (Nat.mod_lt _ hp), ?_, ?_, ?_⟩
  · have : s < p * 2 := by omega
    have := Nat.div_lt_of_lt_mul this
    omega
  · rw [List.drop_set, if_pos (by omega)]
    have := congrArg (List.drop 1) h4
    rw [List.drop_drop, List.drop_drop] at this
    exact this
  · rw [take_set_lt (by omega), valB_snoc, List.length_take, Nat.min_eq_left (by omega), valB_take hi, valB_take hS, Nat.pow_succ]
    have q1 : p ^ i * (s % p) + p ^ i * p * (s / p) = p ^ i * s := by rw [Nat.mul_assoc, ← Nat.mul_add, Nat.mod_add_div]
    rw [Nat.add_assoc, q1, hs, Nat.mul_add, Nat.mul_add]
    omega
theorem AbInv.done {p : Nat} {S0 S v : List Nat} {n cr : Nat} (h : AbInv p S0 S v n cr) (hS : S0.length = n + 1) (hv : v.length = n) :
    valB p (S.set n ((nth S0 n + cr) % p)) % p ^ (n + 1) = (valB p S0 + valB p v) % p ^ (n + 1) := by
  obtain ⟨h1, h2, h3, h4, h5⟩ := h
  have e1 : valB p (S.set n ((nth S0 n + cr) % p)) = valB p (S.take n) + p ^ n * ((nth S0 n + cr) % p) := by
    have : (S.set n ((nth S0 n + cr) % p)).take (n + 1) = S.set n ((nth S0 n + cr) % p) := List.take_of_length_le (by rw [List.length_set]; omega)
    rw [← this, take_set_lt (by omega), valB_snoc, List.length_take, Nat.min_eq_left (by omega)]
  have e2 : valB p S0 = valB p (S0.take n) + p ^ n * nth S0 n := by
    have := valB_take (b := p) (l := S0) (k := n) (by omega)
    rwa [List.take_of_length_le (by omega)] at this
  rw [List.take_of_length_le (by omega : v.length ≤ n)] at h5
  have e3 : p ^ n * (nth S0 n + cr) = p ^ n * ((nth S0 n + cr) % p) + p ^ (n + 1) * ((nth S0 n + cr) / p) := by
    rw [Nat.pow_succ, Nat.mul_assoc, ← Nat.mul_add, Nat.mod_add_div]
  have e4 : p ^ n * (nth S0 n + cr) = p ^ n * nth S0 n + p ^ n * cr := Nat.mul_add _ _ _
  have e5 : valB p S0 + valB p v = valB p (S.set n ((nth S0 n + cr) % p)) + p ^ (n + 1) * ((nth S0 n + cr) / p) := by omega
  rw [e5, Nat.add_mul_mod_self_left]

/-- addBack's answer. -/
def RetAb (w : World) (g : Nat) (t : TypeId) (P S R : List Nat) (X : List Value) (v : List Nat) (e : Ending) (w' : World) : Prop :=
  ∃ S' : List Nat, e = .returned (.tuple #[]) ∧ S'.length = S.length ∧ (∀ d ∈ S', d < 4294967296) ∧ Blk w' g t (urowX (P ++ S' ++ R) X) ∧ w.grownBy w' (some g) ∧
    valB 4294967296 S' % 4294967296 ^ S.length = (valB 4294967296 S + valB 4294967296 v) % 4294967296 ^ S.length

set_option maxHeartbeats 4000000 in
theorem addBack_any (g gv j N n c d : Nat) (P S R v : List Nat) (X Xv : List Value) (w : World) (hb : Blk w g 111 (urowX (P ++ S ++ R) X)) (hbv : Blk w gv 111 (urowX v Xv)) (hg : g ≠ gv) (hj : P.length = j) (hN : N = n + 1) (hS : S.length = N) (hv : v.length = n)
    (dS : ∀ d ∈ S, d < 4294967296) (dv : ∀ d ∈ v, d < 4294967296) (hn : n ≤ 1000000) :
    Calls Try.prog 107 #[.slice (some ⟨g, j, none⟩) N c, .slice (some ⟨gv, 0, none⟩) n d] w (RetAb w g 111 P S R X v) := by
  have HB := Lib.hid hb; clear hb
  have HV := Lib.hid hbv; clear hbv
  have HE := Lib.hid (And.intro hj (And.intro hS hv)); clear hj hS hv
  have HD := Lib.hid (And.intro dS dv); clear dS dv
  have hnN : n < N := by omega
  have HN := Lib.hid hN; clear hN
  have HG := Lib.hid hg; clear hg
  go_enter Try.func107, Try.ntmps107
  go_wp2_with fail
  go_loopw [4, 5, 8] (fun cv _ i wr => ∃ (i' cr : Nat) (S' : List Nat), i' ≤ n ∧ i = .int .i64 i' ∧ cv = .int .u64 cr ∧ cr ≤ 1 ∧ Hid (AbInv 4294967296 S S' v i' cr ∧ Blk wr g 111 (urowX (P ++ S' ++ R) X) ∧ w.grownBy wr (some g))) (fun _ _ i _ => n - (intOf i).toNat)
  case atStart =>
    refine ⟨0, 0, S, Nat.zero_le _, rfl, rfl, by omega, Lib.hid ⟨⟨rfl, HD.out.1, by omega, rfl, ?_⟩, HB.out, World.grownBy.refl w _⟩⟩
    simp [valB]
  case round =>
    obtain ⟨i, cr, S', hi, rfl, rfl, hcr, HJ⟩ := hrel
    by_cases hlt : i < n
    · have hvi : i < v.length := by rw [HE.out.2.2]; exact hlt
      have hSi : i < S.length := by rw [HE.out.2.1]; omega
      have hS'i : i < S'.length := by rw [HJ.out.1.1]; exact hSi
      have hbv := HV.out.grown HJ.out.2.2 (by intro e; cases e; exact HG.out rfl)
      have cV : wr.cell? ⟨gv, i, none⟩ = some (.int .u32 (nth v i : Int)) := by rw [hbv.cell, urowX_get hvi]
      have hx : nth S' i = nth S i := nth_of_drop HJ.out.1.2.2.2.1 (Nat.le_refl _)
      have cS : wr.cell? ⟨g, j + i, none⟩ = some (.int .u32 (nth S i : Int)) := by
        rw [HJ.out.2.1.cell, urowX_get (by simp [HE.out.1]; omega), nth_mid HE.out.1 hS'i, hx]
      have fS : wr.frozen? ⟨g, j + i, none⟩ = false := HJ.out.2.1.frozen _
      have dv1 := HD.out.2 _ (nth_mem hvi)
      have ds1 := HD.out.1 _ (nth_mem hSi)
      have HX := Lib.hid (And.intro hvi (And.intro hSi hS'i)); clear hvi hSi hS'i hbv hx
      go_wp2_with fail
      go_quiet (fail)
      go_wp2_with fail
      rw [show ((cr : Int) + ((nth S i : Int) + (nth v i : Int))) = ((cr + (nth S i + nth v i) : Nat) : Int) by simp]
      have hst := HJ.out.1.step HX.out.1 HX.out.2.1 HD.out.1 HD.out.2 rfl
      have hset := (HJ.out.2.1.drewN nq).set_ (j + i) (.int .u32 (((cr + (nth S i + nth v i)) % 4294967296 : Nat) : Int))
      rw [urowX_set _ _ _ _ (by have h1 := HE.out.1; have h2 := HX.out.2.2; simp; omega), set_mid HE.out.1 HX.out.2.2] at hset
      refine ⟨⟨i + 1, _, _, by omega, by go_num, vint_eq (by simp), hst.2.2.1, Lib.hid ⟨hst, ?_, only_setCell (only_drewN HJ.out.2.2 _) (.inl rfl) _⟩⟩, by simp [intOf]; omega⟩
      simpa using hset
    · obtain rfl : i = n := by omega
      have hSi : i < S.length := by rw [HE.out.2.1]; omega
      have hS'i : i < S'.length := by rw [HJ.out.1.1]; exact hSi
      have hx : nth S' i = nth S i := nth_of_drop HJ.out.1.2.2.2.1 (Nat.le_refl _)
      have cS : wr.cell? ⟨g, j + i, none⟩ = some (.int .u32 (nth S i : Int)) := by
        rw [HJ.out.2.1.cell, urowX_get (by simp [HE.out.1]; omega), nth_mid HE.out.1 hS'i, hx]
      have fS : wr.frozen? ⟨g, j + i, none⟩ = false := HJ.out.2.1.frozen _
      have ds1 := HD.out.1 _ (nth_mem hSi)
      have HX := Lib.hid hS'i; clear hSi hS'i hx
      go_wp2_with fail
      refine bodyPost_end (results_none rfl _ _ _) rfl ?_
      rw [show (((nth S i : Int) + (cr : Int)) % 4294967296) = (((nth S i + cr) % 4294967296 : Nat) : Int) by simp]
      have hset := HJ.out.2.1.set_ (j + i) (.int .u32 (((nth S i + cr) % 4294967296 : Nat) : Int))
      rw [urowX_set _ _ _ _ (by have h1 := HE.out.1; have h2 := HX.out; simp; omega), set_mid HE.out.1 HX.out] at hset
      refine ⟨_, rfl, by rw [List.length_set]; exact HJ.out.1.1, mem_set HJ.out.1.2.1 (Nat.mod_lt _ (by omega)), hset, only_setCell HJ.out.2.2 (.inl rfl) _, ?_⟩
      rw [HE.out.2.1, HN.out]
      exact HJ.out.1.done (by rw [HE.out.2.1]; exact HN.out) HE.out.2.2

end Go.Proofs.Ytamcibmjpmibdaa
namespace Go.Proofs.Ytamcibmjpmibdaa
open Go.RowKit

theorem bitLen_spec : ∀ (k x : Nat), x < 2 ^ k → k ≤ 64 → x ≠ 0 → 1 ≤ Lib.bitLen x ∧ 2 ^ (Lib.bitLen x - 1) ≤ x ∧ x < 2 ^ Lib.bitLen x := by
  intro k
  induction k with
  | zero => intro x h _ h0; simp at h; omega
  | succ k ih =>
    intro x h hk h0
    have hx : x < 2 ^ 64 := Nat.lt_of_lt_of_le h (two_pow_le hk)
    rw [Lib.bitLen_half x h0 hx]
    by_cases h1 : x / 2 = 0
    · have : x = 1 := by omega
      subst this
      have e : Lib.bitLen (1 / 2) = 0 := by decide
      rw [e]; decide
    · obtain ⟨a1, a2, a3⟩ := ih (x / 2) (by rw [Nat.pow_succ] at h; omega) (by omega) h1
      generalize Lib.bitLen (x / 2) = t at *
      refine ⟨by omega, ?_, ?_⟩
      · rw [show 1 + t - 1 = (t - 1) + 1 by omega, Nat.pow_succ]; omega
      · rw [Nat.add_comm, Nat.pow_succ]; omega

theorem Es.of_mid {w : World} {g t j : Nat} {P S R : List Nat} {X : List Value} (h : Blk w g t (urowX (P ++ S ++ R) X)) (hj : P.length = j) (hl : S.length ≤ 9223372036854775807) (hb : ∀ e ∈ S, e < 4294967296) : Es w w.heap.size (some ⟨g, j, none⟩) S.length S :=
  ⟨⟨by simp [U32_length], fun _ => ⟨_, rfl, h.lt, fun i u hu => by
    have e : (Addr.add ⟨g, j, none⟩ i) = ⟨g, j + i, none⟩ := by unfold Addr.add; split <;> simp_all
    have hi : i < S.length := by have := (List.getElem?_eq_some_iff.1 hu).1; rwa [U32_length] at this
    rw [e, h.cell, urowX_get (by simp; omega), nth_mid hj hi, U32_get hu]⟩⟩, ⟨rfl, hl⟩, hb⟩
theorem urow_split (L : List Nat) (n : Nat) : urow L = urowX (L.take n) (U32 (L.drop n)) := by
  simp only [urow, urowX, U32, ← List.map_append, List.take_append_drop]

/-- One step of the long division, plainly. -/
structure DlInv (p : Nat) (la n : Nat) (u Q : List Nat) (V W j : Nat) : Prop where
  ul : u.length = la + 1
  ud : ∀ d ∈ u, d < p
  ql : Q.length = la - n + 1
  qd : ∀ d ∈ Q, d < p
  eq : valB p u + V * (p ^ j * valB p (Q.drop j)) = W
  lt : valB p (u.drop j) < V

theorem DlInv.seg {p la n V W j : Nat} {u Q : List Nat} (h : DlInv p la n u Q V W (j + 1)) (hj : j + n ≤ la) (hV : V ≤ p ^ n) :
    valB p ((u.drop j).take (n + 1)) < p * V ∧ valB p (u.drop (j + (n + 1))) = 0 ∧ ((u.drop j).take (n + 1)).length = n + 1 ∧ (u.take j).length = j ∧ u = u.take j ++ (u.drop j).take (n + 1) ++ u.drop (j + (n + 1)) := by
  have hl := h.ul
  have hju : j < u.length := by omega
  have e1 : u = u.take j ++ (u.drop j).take (n + 1) ++ u.drop (j + (n + 1)) := by
    rw [← List.drop_drop, List.append_assoc, List.take_append_drop, List.take_append_drop]
  have z : valB p (u.drop (j + (n + 1))) = 0 := by
    have h1 := valB_split p (u.drop (j + 1)) n (by rw [List.length_drop]; omega)
    rw [List.drop_drop, show j + 1 + n = j + (n + 1) by omega] at h1
    have h2 := h.lt
    rw [h1] at h2
    rcases Nat.eq_zero_or_pos (valB p (u.drop (j + (n + 1)))) with h0 | h0
    · exact h0
    · have : p ^ n * 1 ≤ p ^ n * valB p (u.drop (j + (n + 1))) := Nat.mul_le_mul_left _ h0
      omega
  have hU : valB p ((u.drop j).take (n + 1)) = valB p (u.drop j) := by
    have h1 := valB_split p (u.drop j) (n + 1) (by rw [List.length_drop]; omega)
    rw [List.drop_drop, z, Nat.mul_zero, Nat.add_zero] at h1
    exact h1.symm
  refine ⟨?_, z, by simp; omega, by simp; omega, e1⟩
  rw [hU, valB_drop hju]
  have d1 := h.ud _ (nth_mem hju)
  have h2 := h.lt
  have h3 : p * (valB p (u.drop (j + 1)) + 1) ≤ p * V := Nat.mul_le_mul_left p h2
  rw [Nat.mul_add] at h3
  omega
theorem DlInv.step {p la n V W j : Nat} {u Q S' : List Nat} (h : DlInv p la n u Q V W (j + 1)) (hj : j + n ≤ la) (hV : V ≤ p ^ n) (hV0 : 0 < V)
    (hS : S'.length = n + 1) (hSd : ∀ d ∈ S', d < p) (hv : valB p S' = valB p ((u.drop j).take (n + 1)) % V) :
    DlInv p la n (u.take j ++ S' ++ u.drop (j + (n + 1))) (Q.set j (valB p ((u.drop j).take (n + 1)) / V)) V W j := by
  obtain ⟨hU, z, l1, l2, e1⟩ := h.seg hj hV
  have hl := h.ul
  have hql := h.ql
  generalize hSg : (u.drop j).take (n + 1) = S at *
  refine ⟨by simp [hS]; omega, ?_, by rw [List.length_set]; exact hql, mem_set h.qd (Nat.div_lt_of_lt_mul (by rw [Nat.mul_comm]; exact hU)), ?_, ?_⟩
  · intro d hd
    simp only [List.mem_append] at hd
    rcases hd with (hd | hd) | hd
    · exact h.ud d (List.mem_of_mem_take hd)
    · exact hSd d hd
    · exact h.ud d (List.mem_of_mem_drop hd)
  · have q1 : valB p (u.take j ++ S' ++ u.drop (j + (n + 1))) = valB p (u.take j) + p ^ j * (valB p S % V) := by
      rw [valB_append, valB_append, z, l2, hv]; simp
    have q2 : valB p u = valB p (u.take j) + p ^ j * valB p S := by
      have e2 := congrArg (valB p) e1
      rw [valB_append, valB_append, z, l2] at e2
      simpa using e2
    have q3 : valB p ((Q.set j (valB p S / V)).drop j) = valB p S / V + p * valB p (Q.drop (j + 1)) := by
      rw [valB_drop (by rw [List.length_set]; omega), nth_set (by omega), if_pos rfl, List.drop_set, if_pos (by omega)]
    have q4 := h.eq
    rw [q2] at q4
    rw [q1, q3]
    have q5 : p ^ j * valB p S = p ^ j * (valB p S % V) + p ^ j * (V * (valB p S / V)) := by rw [← Nat.mul_add, Nat.mod_add_div]
    have q6 : V * (p ^ j * (valB p S / V + p * valB p (Q.drop (j + 1)))) = p ^ j * (V * (valB p S / V)) + V * (p ^ (j + 1) * valB p (Q.drop (j + 1))) := by
      rw [Nat.mul_add (p ^ j), Nat.mul_add V, Nat.mul_left_comm V, Nat.pow_succ, Nat.mul_assoc (p ^ j) p]
    rw [q6]
    omega
  · have : (u.take j ++ S' ++ u.drop (j + (n + 1))).drop j = S' ++ u.drop (j + (n + 1)) := by
      rw [List.append_assoc, List.drop_append_of_le_length (by omega), List.drop_of_length_le (by omega), List.nil_append]
    rw [this, valB_append, z, Nat.mul_zero, Nat.add_zero, hv]
    exact Nat.mod_lt _ hV0
/-- What the two ways of a step come to. -/
theorem step_val {g q U V a : Nat} (hq : q = U / V) (hV : 0 < V) (h1 : q ≤ g) (h2 : g ≤ q + 1) (hle : g * V ≤ U) (ha : a = U - g * V) : g = q ∧ a = U % V := by
  have : g ≤ q := by rw [hq, Nat.le_div_iff_mul_le hV]; exact hle
  have hg : g = q := by omega
  refine ⟨hg, ?_⟩
  have h3 := Nat.div_add_mod U V
  rw [ha, hg, hq, Nat.mul_comm]; omega
theorem step_back {M g q U V a b : Nat} (hq : q = U / V) (h2 : g ≤ q + 1) (hlt : U < g * V) (ha : a + g * V = U + M) (hb : b % M = (a + V) % M) (hbM : b < M) (hUM : U < M) : g = q + 1 ∧ b = U % V := by
  have hg : g = q + 1 := by
    rcases Nat.lt_or_ge g (q + 1) with h | h
    · have h4 : g * V ≤ q * V := Nat.mul_le_mul_right V (by omega)
      have h5 : q * V ≤ U := by rw [hq]; exact Nat.div_mul_le_self _ _
      omega
    · omega
  refine ⟨hg, ?_⟩
  have h3 := Nat.div_add_mod U V
  rw [hg, Nat.add_mul, Nat.one_mul, hq, Nat.mul_comm] at ha
  have e : a + V = M + U % V := by omega
  rw [e, Nat.add_mod_left, Nat.mod_eq_of_lt hbM, Nat.mod_eq_of_lt (Nat.lt_of_le_of_lt (Nat.mod_le _ _) hUM)] at hb
  exact hb
theorem dl_back {p g q V : Nat} {S S' S2 v : List Nat} (hq : q = valB p S / V) (h2 : g ≤ q + 1) (hlt : valB p S < g * V) (ha : valB p S' + g * V = valB p S + p ^ S.length) (hb : valB p S2 % p ^ S'.length = (valB p S' + valB p v) % p ^ S'.length) (hv : valB p v = V)
    (l1 : S'.length = S.length) (l2 : S2.length = S'.length) (d2 : ∀ d ∈ S2, d < p) (hSM : valB p S < p ^ S.length) : g = q + 1 ∧ valB p S2 = valB p S % V := by
  have h3 := valB_lt d2
  rw [l2, l1] at h3
  rw [l1, hv] at hb
  exact step_back hq h2 hlt ha hb h3 hSM
theorem dl_eq0 {p V W j : Nat} {u Q : List Nat} (h : valB p u = W) (hQ : Q.length ≤ j) : valB p u + V * (p ^ j * valB p (Q.drop j)) = W := by
  rw [h, List.drop_of_length_le hQ]; simp [valB]
theorem DlInv.done {p la n M s : Nat} {u Q : List Nat} {N : Nat} (h : DlInv p la n u Q (M * 2 ^ s) (N * 2 ^ s) 0) (hM : 0 < M) (hV : M * 2 ^ s ≤ p ^ n) (hn : n ≤ la) :
    valB p Q = N / M ∧ valB p (u.take n) / 2 ^ s = N % M := by
  have h1 := h.eq
  have h2 := h.lt
  have hs := pow2_pos s
  simp only [List.drop_zero, Nat.pow_zero, Nat.one_mul] at h1 h2
  have z : valB p (u.take n) = valB p u := by
    have h3 := valB_split p u n (by rw [h.ul]; omega)
    rcases Nat.eq_zero_or_pos (valB p (u.drop n)) with h0 | h0
    · rw [h0] at h3; omega
    · have : p ^ n * 1 ≤ p ^ n * valB p (u.drop n) := Nat.mul_le_mul_left _ h0
      omega
  have e1 : M * 2 ^ s * valB p Q = (M * valB p Q) * 2 ^ s := by rw [Nat.mul_right_comm]
  rw [e1] at h1
  have e2 : valB p u % 2 ^ s = 0 := by
    have : (valB p u + M * valB p Q * 2 ^ s) % 2 ^ s = 0 := by rw [h1]; exact Nat.mul_mod_left _ _
    rwa [Nat.add_mul_mod_self_right] at this
  obtain ⟨r, hr⟩ : ∃ r, valB p u = r * 2 ^ s := ⟨valB p u / 2 ^ s, by have := Nat.div_add_mod (valB p u) (2 ^ s); rw [e2, Nat.add_zero, Nat.mul_comm] at this; exact this.symm⟩
  rw [hr, ← Nat.add_mul] at h1
  have e3 : r + M * valB p Q = N := Nat.eq_of_mul_eq_mul_right hs h1
  have e4 : r < M := by rw [hr] at h2; exact Nat.lt_of_mul_lt_mul_right h2
  rw [z, hr, Nat.mul_div_cancel _ hs]
  constructor
  · rw [← e3, Nat.add_mul_div_left _ _ hM, Nat.div_eq_of_lt e4, Nat.zero_add]
  · rw [← e3, Nat.add_mul_mod_self_left, Nat.mod_eq_of_lt e4]

/-- divLong's answer. -/
def RetQR (w : World) (N M : Nat) (e : Ending) (w' : World) : Prop :=
  ∃ A k c l A' k' c' l', e = .returned (.tuple #[.slice A k c, .slice A' k' c']) ∧ (k ≤ c ∧ Es w' w'.heap.size A k l ∧ valB 4294967296 l = N / M) ∧ (k' ≤ c' ∧ Es w' w'.heap.size A' k' l' ∧ valB 4294967296 l' = N % M) ∧ Below w.heap.size w w'

/-- The shift that brings the top bit up. -/
theorem shift_ok {x : Nat} (h0 : x ≠ 0) (hx : x < 4294967296) : Lib.bitLen x ≤ 32 ∧ 1 ≤ Lib.bitLen x ∧ 2147483648 ≤ x * 2 ^ (32 - Lib.bitLen x) ∧ (x + 1) * 2 ^ (32 - Lib.bitLen x) ≤ 4294967296 := by
  obtain ⟨h1, h2, h3⟩ := bitLen_spec 32 x hx (by omega) h0
  have hb : Lib.bitLen x ≤ 32 := by
    rcases Nat.lt_or_ge 32 (Lib.bitLen x) with h | h
    · have := two_pow_le (n := 32) (m := Lib.bitLen x - 1) (by omega)
      omega
    · exact h
  generalize Lib.bitLen x = t at *
  refine ⟨hb, h1, ?_, ?_⟩
  · have := Nat.mul_le_mul_right (2 ^ (32 - t)) h2
    rw [← Nat.pow_add, show t - 1 + (32 - t) = 31 by omega] at this
    exact this
  · have := Nat.mul_le_mul_right (2 ^ (32 - t)) (show x + 1 ≤ 2 ^ t from h3)
    rw [← Nat.pow_add, show t + (32 - t) = 32 by omega] at this
    exact this

theorem dl_setup {p q hh : Nat} {f : List Nat} {n n1 M : Nat} (hM : Nrm p f M) (hfl : n = f.length) (hn1 : n = n1 + 1) (s3 : hh ≤ nth f n1 * q) (s4 : (nth f n1 + 1) * q ≤ p) (hq : 0 < q) (hp : 0 < p) :
    M * q < p ^ n ∧ p ^ n1 * q ≤ M * q ∧ p ^ n1 * hh ≤ M * q ∧ 0 < M := by
  have h1 := valB_take (b := p) (l := f) (k := n1) (by omega)
  rw [← hn1, List.take_of_length_le (by omega), hM.1] at h1
  have h2 : valB p (f.take n1) < p ^ n1 := by
    have := valB_lt (b := p) (l := f.take n1) (fun d h => hM.2.1 d (List.mem_of_mem_take h))
    rwa [List.length_take, Nat.min_eq_left (by omega)] at this
  have hpos : p ^ n1 ≤ M := by have := hM.pos (by omega); rwa [← hfl, hn1, Nat.add_sub_cancel] at this
  have hpp : 0 < p ^ n1 := Nat.pow_pos hp
  refine ⟨?_, Nat.mul_le_mul_right _ hpos, ?_, by omega⟩
  · have h3 : M < p ^ n1 * (nth f n1 + 1) := by rw [h1, Nat.mul_add]; omega
    have h4 : M * q < p ^ n1 * (nth f n1 + 1) * q := Nat.mul_lt_mul_of_pos_right h3 hq
    have h5 : p ^ n1 * (nth f n1 + 1) * q ≤ p ^ n1 * p := by rw [Nat.mul_assoc]; exact Nat.mul_le_mul_left _ s4
    rw [hn1, Nat.pow_succ]
    omega
  · have h3 : p ^ n1 * nth f n1 ≤ M := by omega
    have h4 := Nat.mul_le_mul_right q h3
    have h5 := Nat.mul_le_mul_left (p ^ n1) s3
    rw [← Nat.mul_assoc] at h5
    omega
theorem dl_v {p n V : Nat} {Lv : List Nat} (h : valB p Lv = V) (hl : Lv.length = n + 1) (hV : V < p ^ n) : valB p (Lv.take n) = V := by
  have h1 := valB_split p Lv n (by omega)
  rw [h] at h1
  rcases Nat.eq_zero_or_pos (valB p (Lv.drop n)) with h0 | h0
  · rw [h0] at h1; omega
  · have h3 : p ^ n * 1 ≤ p ^ n * valB p (Lv.drop n) := Nat.mul_le_mul_left _ h0
    omega
theorem dl_top {p hh n n1 V : Nat} {v : List Nat} (h : valB p v = V) (hl : v.length = n) (hn1 : n = n1 + 1) (hd : ∀ d ∈ v, d < p) (hV : p ^ n1 * hh ≤ V) : hh ≤ nth v n1 := by
  have h1 := valB_take (b := p) (l := v) (k := n1) (by omega)
  rw [← hn1, List.take_of_length_le (by omega), h] at h1
  have h2 : valB p (v.take n1) < p ^ n1 := by
    have := valB_lt (b := p) (l := v.take n1) (fun d h => hd d (List.mem_of_mem_take h))
    rwa [List.length_take, Nat.min_eq_left (by omega)] at this
  have h4 : p ^ n1 * hh < p ^ n1 * (nth v n1 + 1) := by rw [Nat.mul_add]; omega
  have := Nat.lt_of_mul_lt_mul_left h4
  omega
theorem dl_start {p q N M la dj n1 : Nat} {l Lu : List Nat} (hN : Nrm p l N) (hla : la = l.length) (h : valB p Lu = N * q) (hl : Lu.length = la + 1) (hdj : la = dj + 1 + n1) (hq : 0 < q) (hV : p ^ n1 * q ≤ M * q) : valB p (Lu.drop (dj + 1)) < M * q := by
  have h1 := valB_split p Lu (dj + 1) (by omega)
  rw [h] at h1
  have h2 : N < p ^ la := by have := hN.lt; rwa [← hla] at this
  have h3 : N * q < p ^ la * q := Nat.mul_lt_mul_of_pos_right h2 hq
  have h4 : p ^ la * q = p ^ (dj + 1) * (p ^ n1 * q) := by rw [← Nat.mul_assoc, ← Nat.pow_add, ← hdj]
  rw [h4] at h3
  have h5 : p ^ (dj + 1) * valB p (Lu.drop (dj + 1)) < p ^ (dj + 1) * (p ^ n1 * q) := by omega
  have h6 := Nat.lt_of_mul_lt_mul_left h5
  omega

set_option maxHeartbeats 8000000 in
theorem divLong_any (A B : Option Addr) (l f : List Nat) (la n ca cb N M : Nat) (w : World) (hr : Es w w.heap.size A la l) (hs : Es w w.heap.size B n f) (hN : Nrm 4294967296 l N) (hM : Nrm 4294967296 f M) (hn2 : 2 ≤ n) (hle : n ≤ la) (hla : la ≤ 1000000) :
    Calls Try.prog 99 #[.slice A la ca, .slice B n cb] w (RetQR w N M) := by
  obtain ⟨n1, hn1⟩ : ∃ n1, n = n1 + 1 := ⟨n - 1, by omega⟩
  obtain ⟨bd, rfl, hb1, cB⟩ := hs.at_ (show n1 < n by omega)
  have hfl := hs.len
  have ht : nth f n1 ≠ 0 := by
    rcases hM.2.2 with h | h
    · rw [h] at hfl; simp at hfl; omega
    · rwa [← hfl, hn1, Nat.add_sub_cancel] at h
  have htl := hs.lt (show n1 < n by omega)
  obtain ⟨s1, s2, s3, s4⟩ := shift_ok ht htl
  generalize hsd : 32 - Lib.bitLen (nth f n1) = s at *
  have hs32 : s < 32 := by omega
  have HSD := Lib.hid hsd; clear hsd
  have HV := Lib.hid (dl_setup hM hfl hn1 s3 s4 (pow2_pos s) (by omega)); clear s3 s4
  have HR := Lib.hid hr; clear hr
  have HS := Lib.hid hs; clear hs
  have HN := Lib.hid hN; clear hN
  have HM := Lib.hid hM; clear hM
  have HF := Lib.hid hfl; clear hfl
  have i0 : (n : Int) - 1 = (n1 : Int) := by omega
  have hn1n : n1 < n := by omega
  have HN1 := Lib.hid hn1; clear hn1
  go_enter Try.func99, Try.ntmps99
  go_wp2_with fail
  refine (Try.bits_LeadingZeros32 (nth f n1 : Int) _ (by omega) (by omega)).mono ?_
  rintro e w ⟨rfl, rfl⟩
  rw [show (32 : Int) - (Lib.bitLen ((nth f n1 : Nat) : Int).toNat : Int) = (s : Int) by rw [Int.toNat_natCast]; have := HSD.out; omega]
  clear ht s1 s2 cB
  go_wp2_with fail
  refine (shl_any _ f n cb s _ HS.out (by omega) hs32).mono ?_
  rintro e w1 ⟨Lv, rfl, hLv, dLv, vLv, bLv, hB1⟩
  rw [HM.out.1] at vLv
  have H1 := Lib.hid (And.intro hLv (And.intro dLv (And.intro vLv (And.intro bLv hB1)))); clear hLv dLv vLv bLv hB1
  go_wp2_with fail
  refine (shl_any _ l la ca s _ (HR.out.new H1.out.2.2.2.2) (by omega) hs32).mono ?_
  rintro e w2 ⟨Lu, rfl, hLu, dLu, vLu, bLu, hB2⟩
  rw [HN.out.1] at vLu
  have H2 := Lib.hid (And.intro hLu (And.intro dLu (And.intro vLu (And.intro bLu hB2)))); clear hLu dLu vLu bLu hB2
  have hz1 : w.heap.size < w1.heap.size := H1.out.2.2.2.1.lt
  have hz2 : w1.heap.size < w2.heap.size := H2.out.2.2.2.1.lt
  obtain ⟨dj, hdj⟩ : ∃ dj, la = dj + n := ⟨la - n, by omega⟩
  have HDJ := Lib.hid hdj
  have i1 : (la : Int) - (n : Int) = (dj : Int) := by omega
  have hmk := mk_nat (dj + 1) (by omega)
  simp only [Int.natCast_add, Int.natCast_one] at hmk
  have hdl : dj < la + 1 := by omega
  clear hdj
  go_wp2_with fail
  clear hmk
  -- the divisor's row: n digits and a zero
  have hV := Lib.hid (show Blk w1 w.heap.size 111 (urowX (Lv.take n) (U32 (Lv.drop n))) by rw [← urow_split]; exact H1.out.2.2.2.1)
  have hvv : valB 4294967296 (Lv.take n) = M * 2 ^ s := dl_v H1.out.2.2.1 H1.out.1 HV.out.1
  have hvl : (Lv.take n).length = n := by rw [List.length_take, H1.out.1]; omega
  have hvd : ∀ d ∈ Lv.take n, d < 4294967296 := fun d hd => H1.out.2.1 d (List.mem_of_mem_take hd)
  generalize Lv.take n = v at *
  generalize U32 (Lv.drop n) = Xv at *
  have hvtop : 4294967296 ≤ 2 * nth v n1 := by have := dl_top hvv hvl HN1.out hvd HV.out.2.2.1; omega
  have HW := Lib.hid (And.intro hvv (And.intro hvl (And.intro hvd hvtop))); clear hvv hvl hvd hvtop
  go_loopw [11, 12, 13] (fun jv _ _ wr => ∃ (j' : Nat) (u Q : List Nat), j' ≤ dj + 1 ∧ jv = .int .i64 ((j' : Int) - 1) ∧ Hid (DlInv 4294967296 la n u Q (M * 2 ^ s) (N * 2 ^ s) j' ∧ Blk wr w.heap.size 111 (urowX v Xv) ∧ Blk wr w1.heap.size 111 (urow u) ∧ Blk wr w2.heap.size 111 (urow Q) ∧ Below w.heap.size w wr)) (fun jv _ _ _ => (intOf jv + 1).toNat)
  case atStart =>
    refine ⟨dj + 1, Lu, zer (dj + 1), Nat.le_refl _, by go_num, Lib.hid ⟨⟨H2.out.1, H2.out.2.1, ?_, ?_, ?_, ?_⟩, ?_, ?_, ?_, ?_⟩⟩
    · rw [zer_length, HDJ.out]; omega
    · intro d hd
      have := List.eq_of_mem_replicate hd
      omega
    · exact dl_eq0 H2.out.2.2.1 (Nat.le_of_eq (zer_length _))
    · exact dl_start HN.out HR.out.len H2.out.2.2.1 H2.out.1 (by have := HDJ.out; have := HN1.out; omega) (pow2_pos s) HV.out.2.1
    · exact (hV.out.below H2.out.2.2.2.2 hV.out.lt).alloc _
    · exact H2.out.2.2.2.1.alloc _
    · exact Blk.new _ _ _
    · exact bthen (bthen H1.out.2.2.2.2 H2.out.2.2.2.2 H1.out.2.2.2.2.size) (al _ _) (by have := H1.out.2.2.2.2.size; omega)
  case round =>
    obtain ⟨j, u, Q, hj, rfl, HJ⟩ := hrel
    by_cases h0 : 0 < j
    · obtain ⟨j, rfl⟩ : ∃ m, j = m + 1 := ⟨j - 1, by omega⟩
      have i2 : ((j + 1 : Nat) : Int) - 1 = (j : Int) := by omega
      rw [i2]
      go_wp2_with fail
      have hjla : j + n ≤ la := by have := HDJ.out; omega
      obtain ⟨hU, z, l1, l2, e1⟩ := HJ.out.1.seg hjla (Nat.le_of_lt HV.out.1)
      have hbu : Blk wr w1.heap.size 111 (urowX (u.take j ++ (u.drop j).take (n + 1) ++ u.drop (j + (n + 1))) []) := by rw [← e1, ← urow_X]; exact HJ.out.2.2.1
      have dS : ∀ d ∈ (u.drop j).take (n + 1), d < 4294967296 := fun d hd => HJ.out.1.ud d (List.mem_of_mem_drop (List.mem_of_mem_take hd))
      have HST := Lib.hid (fun (S' : List Nat) (h1 : S'.length = n + 1) (h2 : ∀ d ∈ S', d < 4294967296) h3 => HJ.out.1.step (S' := S') hjla (Nat.le_of_lt HV.out.1) (Nat.mul_pos HV.out.2.2.2 (pow2_pos s)) h1 h2 h3)
      have HSM := Lib.hid (valB_lt dS)
      generalize (u.drop j).take (n + 1) = S at *
      generalize u.take j = P at *
      generalize u.drop (j + (n + 1)) = R at *
      have hV0 : 0 < M * 2 ^ s := Nat.mul_pos HV.out.2.2.2 (pow2_pos s)
      have hEs := Es.of_mid hbu l2 (by omega) dS
      rw [l1] at hEs
      have hEv := Es.of_blkX HJ.out.2.1 (by rw [HW.out.2.1]; omega) HW.out.2.2.1
      rw [HW.out.2.1] at hEv
      obtain ⟨n2, hn2'⟩ : ∃ n2, n1 = n2 + 1 := ⟨n1 - 1, by have := HN1.out; omega⟩
      have HN2 := Lib.hid hn2'; clear hn2'
      rw [show j + n + 1 - j = n + 1 by omega]
      refine (guess_any _ _ S v (n + 1) n n1 n2 _ _ wr hEs hEv rfl HN1.out HN2.out HW.out.2.2.2 (by rw [HW.out.1]; exact hU) (by omega)).mono ?_
      rw [HW.out.1]
      rintro e w3 ⟨g, rfl, hq1, hq2, hgl, hb3⟩
      have hbu3 := hbu.below hb3 hbu.lt
      have hbv3 := HJ.out.2.1.below hb3 HJ.out.2.1.lt
      have hbq3 := HJ.out.2.2.2.1.below hb3 HJ.out.2.2.2.1.lt
      have hB3 := bthen HJ.out.2.2.2.2 hb3 HJ.out.2.2.2.2.size
      obtain ⟨q, hq⟩ : ∃ q, q = valB 4294967296 S / (M * 2 ^ s) := ⟨_, rfl⟩
      rw [← hq] at hq1 hq2 HST
      have HQ := Lib.hid (And.intro hq (And.intro hq1 hq2)); clear hq hq1 hq2
      have H3 := Lib.hid (And.intro hbu3 (And.intro hbv3 (And.intro hbq3 hB3))); clear hbu3 hbv3 hbq3 hB3 hb3
      have HU := Lib.hid (And.intro hU (And.intro True.intro (And.intro l1 (And.intro l2 dS)))); clear hU l1 l2 dS
      have HV0 := Lib.hid hV0; clear hV0
      clear hEs hEv hbu e1 z
      go_wp2_with fail
      refine (subProduct_any w1.heap.size w.heap.size j (n + 1) n _ _ g P S R v [] Xv w3 H3.out.1 H3.out.2.1 (by omega) HU.out.2.2.2.1 rfl HU.out.2.2.1 HW.out.2.1 HU.out.2.2.2.2 HW.out.2.2.1 hgl (by omega)).mono ?_
      rintro e w4 ⟨S', neg, rfl, hl', hd', hbu4, hg4, hneg0, hneg1⟩
      rw [HW.out.1] at hneg0 hneg1
      have HNG := Lib.hid (And.intro hneg0 hneg1); clear hneg0 hneg1
      have hbv4 := H3.out.2.1.grown hg4 (by simp; omega)
      have hbq4 := H3.out.2.2.1.grown hg4 (by simp; omega)
      have hB4 := H3.out.2.2.2.grown hg4 (by have := H3.out.2.2.1.lt; omega) (fun k hk => by cases hk; omega)
      have H4 := Lib.hid (And.intro hbu4 (And.intro hbv4 (And.intro hbq4 (And.intro hB4 (And.intro hl' hd')))))
      clear hbu4 hbv4 hbq4 hB4 hl' hd' hg4
      have hQj : j < Q.length := by rw [HJ.out.1.ql]; have := HDJ.out; omega
      have HQJ := Lib.hid hQj; clear hQj
      cases neg with
      | true =>
        have hg0 : 1 ≤ g := by
          rcases Nat.eq_zero_or_pos g with h | h
          · have h1 := (HNG.out.2 rfl).1
            rw [h, Nat.zero_mul] at h1
            exact absurd h1 (Nat.not_lt_zero _)
          · exact h
        have HNH := Lib.hid (HNG.out.2 rfl); clear HNG
        go_wp2_with fail
        refine (addBack_any w1.heap.size w.heap.size j (n + 1) n _ _ P S' R v [] Xv w4 H4.out.1 H4.out.2.1 (by omega) HU.out.2.2.2.1 rfl (by rw [H4.out.2.2.2.2.1]; exact HU.out.2.2.1) HW.out.2.1 H4.out.2.2.2.2.2 HW.out.2.2.1 (by omega)).mono ?_
        rintro e w5 ⟨S2, rfl, hl2, hd2, hbu5, hg5, hval⟩
        have HVAL := Lib.hid hval; clear hval
        have hbv5 := H4.out.2.1.grown hg5 (by simp; omega)
        have hbq5 := H4.out.2.2.1.grown hg5 (by simp; omega)
        have hB5 := H4.out.2.2.2.1.grown hg5 (by have := H4.out.2.2.1.lt; omega) (fun k hk => by cases hk; omega)
        have cQ : w5.cell? ⟨w2.heap.size, j, none⟩ = some (.int .u32 (nth Q j : Int)) := by rw [hbq5.cell, urow_get HQJ.out]
        have fQ : w5.frozen? ⟨w2.heap.size, j, none⟩ = false := hbq5.frozen j
        have H5 := Lib.hid (And.intro hbu5 (And.intro hbv5 (And.intro hbq5 (And.intro hB5 (And.intro hl2 hd2)))))
        clear hbu5 hbv5 hbq5 hB5 hl2 hd2 hg5
        go_wp2_with fail
        obtain ⟨k1, k2⟩ := dl_back HQ.out.1 HQ.out.2.2 HNH.out.1 HNH.out.2 HVAL.out HW.out.1 H4.out.2.2.2.2.1 H5.out.2.2.2.2.1 H5.out.2.2.2.2.2 HSM.out
        have hnew := HST.out S2 (by rw [H5.out.2.2.2.2.1, H4.out.2.2.2.2.1, HU.out.2.2.1]) H5.out.2.2.2.2.2 k2
        have hset := H5.out.2.2.1.set_ j (.int .u32 (q : Int))
        rw [urow_set] at hset
        have e1 : (g : Int) - 1 = (q : Int) := by omega
        rw [e1]
        refine ⟨⟨j, _, _, by omega, rfl, Lib.hid ⟨hnew, H5.out.2.1.far (p := ⟨w2.heap.size, j, none⟩) (by show w.heap.size ≠ w2.heap.size; omega) _, ?_, hset, H5.out.2.2.2.1.setCell (p := ⟨w2.heap.size, j, none⟩) (by show w.heap.size ≤ w2.heap.size; omega) _⟩⟩, by simp [intOf]⟩
        rw [urow_X]
        exact H5.out.1.far (p := ⟨w2.heap.size, j, none⟩) (by show w1.heap.size ≠ w2.heap.size; omega) _
      | false =>
        have HNH := Lib.hid (HNG.out.1 rfl); clear HNG
        have cQ : w4.cell? ⟨w2.heap.size, j, none⟩ = some (.int .u32 (nth Q j : Int)) := by rw [H4.out.2.2.1.cell, urow_get HQJ.out]
        have fQ : w4.frozen? ⟨w2.heap.size, j, none⟩ = false := H4.out.2.2.1.frozen j
        go_wp2_with fail
        obtain ⟨k1, k2⟩ := step_val HQ.out.1 HV0.out HQ.out.2.1 HQ.out.2.2 HNH.out.1 HNH.out.2
        have hnew := HST.out S' (by rw [H4.out.2.2.2.2.1, HU.out.2.2.1]) H4.out.2.2.2.2.2 k2
        have hset := H4.out.2.2.1.set_ j (.int .u32 (g : Int))
        rw [urow_set] at hset
        rw [← k1] at hnew
        refine ⟨⟨j, _, _, by omega, rfl, Lib.hid ⟨hnew, H4.out.2.1.far (p := ⟨w2.heap.size, j, none⟩) (by show w.heap.size ≠ w2.heap.size; omega) _, ?_, hset, H4.out.2.2.2.1.setCell (p := ⟨w2.heap.size, j, none⟩) (by show w.heap.size ≤ w2.heap.size; omega) _⟩⟩, by simp [intOf]⟩
        rw [urow_X]
        exact H4.out.1.far (p := ⟨w2.heap.size, j, none⟩) (by show w1.heap.size ≠ w2.heap.size; omega) _
    · obtain rfl : j = 0 := by omega
      go_wp2_with fail
      have hul := HJ.out.1.ul
      have hE := (Es.of_blk HJ.out.2.2.1 (by omega) HJ.out.1.ud)
      rw [hul] at hE
      have hE2 := hE.take (show n ≤ la + 1 by omega)
      refine (shr_any _ (u.take n) n _ s _ hE2 (by omega) hs32).mono ?_
      rintro e w3 ⟨Lr, rfl, hLr, dLr, vLr, bLr, hB3⟩
      obtain ⟨k1, k2⟩ := HJ.out.1.done HV.out.2.2.2 (Nat.le_of_lt HV.out.1) (by omega)
      rw [k2] at vLr
      have hq3 := HJ.out.2.2.2.1.below hB3 HJ.out.2.2.2.1.lt
      have hEq := Es.of_blk hq3 (by rw [HJ.out.1.ql]; omega) HJ.out.1.qd
      have hEr := Es.of_blk bLr (by rw [hLr]; omega) dLr
      rw [HJ.out.1.ql, show la - n + 1 = dj + 1 by have := HDJ.out; omega] at hEq
      rw [hLr] at hEr
      have HF := Lib.hid (And.intro hEq (And.intro hEr (And.intro k1 (And.intro vLr (bthen HJ.out.2.2.2.2 hB3 HJ.out.2.2.2.2.size)))))
      clear hEq hEr k1 k2 vLr hB3 hq3 hE hE2 hul hLr dLr bLr
      go_wp2_with fail
      go_ret2
      exact ⟨_, _, _, Q, _, _, _, Lr, rfl, ⟨Nat.le_refl _, HF.out.1, HF.out.2.2.1⟩, ⟨Nat.le_refl _, HF.out.2.1, HF.out.2.2.2.1⟩, HF.out.2.2.2.2⟩

end Go.Proofs.Ytamcibmjpmibdaa
namespace Go.Proofs.Ytamcibmjpmibdaa
open Go.RowKit

/-- DivMod's answers. -/
def RetDM (w : World) (N M : Nat) (e : Ending) (w' : World) : Prop :=
  (M = 0 → e = .returned (.tuple #[.slice none 0 0, .slice none 0 0, .int .i64 18]) ∧ Below w.heap.size w w') ∧
  (M ≠ 0 → ∃ A k c l A' k' c' l', e = .returned (.tuple #[.slice A k c, .slice A' k' c', .int .i64 0]) ∧ (k ≤ c ∧ Es w' w'.heap.size A k l ∧ Nrm 4294967296 l (N / M)) ∧ (k' ≤ c' ∧ Es w' w'.heap.size A' k' l' ∧ Nrm 4294967296 l' (N % M)) ∧ Below w.heap.size w w')
theorem own_cap {w : World} {base : Nat} {e : TypeId} {n : Nat} {v : Value} {xs : List Value} (h : w.ownsRow base e 1 v n xs) : ∃ A c, v = .slice A n c ∧ n ≤ c := by
  rcases h.2 with ⟨rfl, hn⟩ | ⟨g, cap, cur, rfl, _, _, hc, _⟩
  · exact ⟨none, 0, by rw [hn], by omega⟩
  · exact ⟨_, _, rfl, hc⟩

set_option maxHeartbeats 8000000 in
theorem divMod_any (A : Option Addr) (ds : List Nat) (n c : Nat) (hc : n ≤ c) (B : Option Addr) (fs : List Nat) (m d : Nat) (hd : m ≤ d) (w : World) (hr : Es w w.heap.size A n ds) (hs : Es w w.heap.size B m fs) (hn : n ≤ 1000000) :
    Calls Try.prog 87 #[.slice A n c, .slice B m d] w (RetDM w (valB 4294967296 ds) (valB 4294967296 fs)) := by
  have HR := Lib.hid hr; clear hr
  have HS := Lib.hid hs; clear hs
  go_enter Try.func87, Try.ntmps87
  go_wp2_with fail
  refine (trim_any A ds n c hc _ HR.out).mono ?_
  rintro e w1 ⟨k, l, rfl, hk, hl, hN, rfl⟩
  have H1 := Lib.hid hl; clear hl
  have N1 := Lib.hid hN; clear hN
  go_wp2_with fail
  refine (trim_any B fs m d hd _ HS.out).mono ?_
  rintro e w2 ⟨j, f, rfl, hj, hf, hM, rfl⟩
  have H2 := Lib.hid hf; clear hf
  have N2 := Lib.hid hM; clear hM
  generalize valB 4294967296 ds = N at *
  generalize valB 4294967296 fs = M at *
  have hk2 := H1.out.le
  have hj2 := H2.out.le
  have HZ := Lib.hid (N2.out.zero_iff (by omega)); rw [← H2.out.len] at HZ
  by_cases hj0 : j = 0
  · have HM0 := Lib.hid (HZ.out.1 hj0)
    subst hj0
    clear HZ
    go_wp2_with fail
    go_ret3
    exact ⟨fun _ => ⟨rfl, Below.refl _ _⟩, fun h => absurd HM0.out h⟩
  have hM0 : M ≠ 0 := fun h => hj0 (HZ.out.2 h)
  have hjb : ((j : Int) == 0) = false := by simp; omega
  have HM0 := Lib.hid hM0; clear hM0
  go_wp2_with fail
  refine (ncmp_any A l k k (Nat.le_refl _) B f j j (Nat.le_refl _) _ H1.out H2.out).mono ?_
  rintro e w3 ⟨rfl, hb3⟩
  rw [N1.out.1, N2.out.1]
  have HB3 := Lib.hid hb3; clear hb3
  by_cases hlt : N < M
  · rw [show cmpN N M = -1 by simp [cmpN, hlt]]
    have HLT := Lib.hid hlt; clear hlt
    go_wp2_with fail
    refine (clone_any A l k k (by omega) _ (H1.out.new HB3.out)).mono ?_
    rintro e w4 ⟨v, rfl, hown, hb4⟩
    obtain ⟨A2, c2, rfl, hc2⟩ := own_cap hown
    obtain ⟨A3, c3, he, hE4⟩ := Es.of_own hown H1.out.2.2
    cases he
    have HF := Lib.hid (And.intro hE4 (bthen HB3.out hb4 HB3.out.size)); clear hE4 hb4 hown
    go_wp2_with fail
    go_ret3
    refine ⟨fun h => absurd h HM0.out, fun _ => ⟨none, 0, 0, [], _, k, c2, l, rfl, ⟨Nat.le_refl _, ⟨Reads.none_, ⟨rfl, by omega⟩, by simp⟩, ?_⟩, ⟨hc2, HF.out.1, ?_⟩, HF.out.2⟩⟩
    · rw [Nat.div_eq_of_lt HLT.out]; exact Nrm.nil _
    · rw [Nat.mod_eq_of_lt HLT.out]; exact N1.out
  · have hge : 0 ≤ cmpN N M := by simp only [cmpN, if_neg hlt]; split <;> omega
    generalize cmpN N M = cv at *
    have HLT := Lib.hid hlt; clear hlt
    have hjk : j ≤ k := by
      rcases Nat.lt_or_ge k j with h | h
      · have := N1.out.len_lt N2.out (by omega) (by rw [← H1.out.len, ← H2.out.len]; exact h)
        exact absurd this HLT.out
      · exact h
    by_cases hj1 : j = 1
    · subst hj1
      have H2c := Lib.hid (H2.out.below HB3.out)
      go_wp2_with fail
      refine (clone_any A l k k (by omega) _ (H1.out.new HB3.out)).mono ?_
      rintro e w4 ⟨v, rfl, hown, hb4⟩
      obtain ⟨g, c2, X, rfl, hg, hc2, hblk, hll⟩ := own_rowX hown (by omega)
      obtain ⟨bd, rfl, hbd, cB⟩ := ((H2.out.new HB3.out).new hb4).at_ (show 0 < 1 by omega)
      have cB0 : w4.cell? bd = some (.int .u32 (nth f 0 : Int)) := by simpa [Addr.add] using cB
      have hf0 := H2.out.lt (show 0 < 1 by omega)
      have hfM : M = nth f 0 := by
        have h1 := N2.out.1
        have h2 := H2.out.len
        obtain ⟨x, rfl⟩ : ∃ x, f = [x] := by
          match f, h2 with
          | [x], _ => exact ⟨x, rfl⟩
        rw [← h1]; simp [valB, nth, List.getD]
      have HF := Lib.hid (And.intro hblk (And.intro hll (And.intro (bthen HB3.out hb4 HB3.out.size) (And.intro hfM (And.intro hg hb4))))); clear hblk hll hfM hown hb4 cB
      go_wp2_with fail
      refine (divDigit_any g l X k c2 (nth f 0) w4 HF.out.2.1.symm HF.out.1 (by have h1 := HF.out.2.2.2.1; have h2 := HM0.out; omega) hf0 H1.out.2.2 (by omega)).mono ?_
      rintro e w5 ⟨rfl, L, hL1, hL2, hL3, hL4, hL5⟩
      rw [N1.out.1] at hL3 ⊢
      have hMf := HF.out.2.2.2.1
      rw [← hMf] at hL3 ⊢
      have HMf := Lib.hid hMf; clear hMf
      have hE5 := Es.of_blkX hL4 (by rw [hL1, HF.out.2.1]; omega) hL2
      rw [hL1, HF.out.2.1] at hE5
      have hB5 : Below w.heap.size w w5 := HF.out.2.2.1.grown hL5 HF.out.2.2.1.size (fun q hq => by cases hq; have := HF.out.2.2.2.2.1; have := HB3.out.size; omega)
      have H5 := Lib.hid (And.intro hE5 (And.intro hL3 hB5)); clear hE5 hL3 hB5 hL1 hL2 hL4 hL5
      go_wp2_with fail
      refine (trim_any _ L k c2 hc2 _ H5.out.1).mono ?_
      rintro e w6 ⟨k6, l6, rfl, hk6, hl6, hN6, rfl⟩
      rw [H5.out.2.1] at hN6
      have H6 := Lib.hid (And.intro hl6 hN6); clear hl6 hN6
      have hrl : N % M < 18446744073709551616 := by
        have := Nat.mod_lt N (show 0 < M by have := HM0.out; omega)
        have := HMf.out
        omega
      go_wp2_with fail
      refine (nof_any (N % M) hrl _).mono ?_
      rintro e w7 ⟨A7, k7, c7, l7, rfl, hk7, hE7, hN7, hb7⟩
      have H7 := Lib.hid (And.intro hE7 (And.intro hN7 hb7)); clear hE7 hN7 hb7
      go_wp2_with fail
      go_ret3
      exact ⟨fun h => absurd h HM0.out, fun _ => ⟨_, k6, k6, l6, A7, k7, c7, l7, rfl, ⟨Nat.le_refl _, H6.out.1.new H7.out.2.2, H6.out.2⟩, ⟨hk7, H7.out.1, H7.out.2.1⟩, bthen H5.out.2.2 H7.out.2.2 H5.out.2.2.size⟩⟩
    · have hj1b : ((j : Int) == 1) = false := by simp; omega
      go_wp2_with fail
      refine (divLong_any A B l f k j k j N M _ (H1.out.new HB3.out) (H2.out.new HB3.out) N1.out N2.out (by omega) hjk (by omega)).mono ?_
      rintro e w4 ⟨A4, k4, c4, l4, A5, k5, c5, l5, rfl, ⟨hk4, hE4, hv4⟩, ⟨hk5, hE5, hv5⟩, hb4⟩
      have HF := Lib.hid (And.intro hE4 (And.intro hv4 (And.intro hE5 (And.intro hv5 (bthen HB3.out hb4 HB3.out.size))))); clear hE4 hv4 hE5 hv5 hb4
      go_wp2_with fail
      refine (trim_any A4 l4 k4 c4 hk4 _ HF.out.1).mono ?_
      rintro e w6 ⟨k6, l6, rfl, hk6, hl6, hN6, rfl⟩
      rw [HF.out.2.1] at hN6
      have H6 := Lib.hid (And.intro hl6 hN6); clear hl6 hN6
      go_wp2_with fail
      refine (trim_any A5 l5 k5 c5 hk5 _ HF.out.2.2.1).mono ?_
      rintro e w7 ⟨k7, l7, rfl, hk7, hl7, hN7, rfl⟩
      rw [HF.out.2.2.2.1] at hN7
      have H7 := Lib.hid (And.intro hl7 hN7); clear hl7 hN7
      go_wp2_with fail
      go_ret3
      exact ⟨fun h => absurd h HM0.out, fun _ => ⟨_, k6, k6, l6, _, k7, k7, l7, rfl, ⟨Nat.le_refl _, H6.out⟩, ⟨Nat.le_refl _, H7.out⟩, HF.out.2.2.2.2⟩⟩

end Go.Proofs.Ytamcibmjpmibdaa
namespace Go.Proofs.Ytamcibmjpmibdaa
open Go.RowKit

/-- b is the number of binary digits of N. -/
def BitsIs (N b : Nat) : Prop := (N = 0 ∧ b = 0) ∨ (1 ≤ b ∧ 2 ^ (b - 1) ≤ N ∧ N < 2 ^ b)
theorem BitsIs.unique {N b c : Nat} (h : BitsIs N b) (k : BitsIs N c) : b = c := by
  rcases h with ⟨h1, h2⟩ | ⟨h1, h2, h3⟩ <;> rcases k with ⟨k1, k2⟩ | ⟨k1, k2, k3⟩
  · omega
  · have := pow2_pos (c - 1); omega
  · have := pow2_pos (b - 1); omega
  · rcases Nat.lt_trichotomy b c with h | h | h
    · have := two_pow_le (show b ≤ c - 1 by omega); omega
    · exact h
    · have := two_pow_le (show c ≤ b - 1 by omega); omega
theorem bits_val {p e : Nat} (hp : p = 2 ^ e) {l : List Nat} {N k t : Nat} (hN : Nrm p l N) (hl : l.length = k + 1) (h1 : 1 ≤ t) (h2 : 2 ^ (t - 1) ≤ nth l k) (h3 : nth l k < 2 ^ t) : BitsIs N (e * k + t) := by
  right
  have h4 := valB_take (b := p) (l := l) (k := k) (by omega)
  rw [List.take_of_length_le (by omega), hN.1] at h4
  have h5 : valB p (l.take k) < p ^ k := by
    have := valB_lt (b := p) (l := l.take k) (fun d h => hN.2.1 d (List.mem_of_mem_take h))
    rwa [List.length_take, Nat.min_eq_left (by omega)] at this
  have e1 : p ^ k = 2 ^ (e * k) := by rw [hp, Nat.pow_mul]
  refine ⟨by omega, ?_, ?_⟩
  · have := Nat.mul_le_mul_left (p ^ k) h2
    rw [e1, ← Nat.pow_add, show e * k + (t - 1) = e * k + t - 1 by omega] at this
    rw [e1] at h4
    omega
  · have := Nat.mul_le_mul_left (p ^ k) (show nth l k + 1 ≤ 2 ^ t from h3)
    rw [Nat.mul_add, Nat.mul_one] at this
    have e2 : p ^ k * 2 ^ t = 2 ^ (e * k + t) := by rw [e1, Nat.pow_add]
    rw [e2] at this
    omega

def RetBits (w : World) (N n : Nat) (e : Ending) (w' : World) : Prop := ∃ b : Nat, e = .returned (.int .i64 b) ∧ BitsIs N b ∧ b ≤ 32 * n ∧ w = w'

set_option maxHeartbeats 2000000 in
theorem bits_any (A : Option Addr) (ds : List Nat) (n c : Nat) (hc : n ≤ c) (w : World) (hr : Es w w.heap.size A n ds) (hn : n ≤ 1000000) :
    Calls Try.prog 66 #[.slice A n c] w (RetBits w (valB 4294967296 ds) n) := by
  have HR := Lib.hid hr; clear hr
  go_enter Try.func66, Try.ntmps66
  go_wp2_with fail
  refine (trim_any A ds n c hc _ HR.out).mono ?_
  rintro e w1 ⟨k, l, rfl, hk, hl, hN, rfl⟩
  have H1 := Lib.hid hl; clear hl
  have N1 := Lib.hid hN; clear hN
  by_cases hk0 : k = 0
  · have HZ := Lib.hid ((N1.out.zero_iff (by omega)).1 (by rw [← H1.out.len]; exact hk0))
    subst hk0
    go_wp2_with fail
    go_ret
    exact ⟨0, rfl, .inl ⟨HZ.out, rfl⟩, by omega, rfl⟩
  · have hkb : ((k : Int) == 0) = false := by simp; omega
    obtain ⟨k1, hk1⟩ : ∃ k1, k = k1 + 1 := ⟨k - 1, by omega⟩
    obtain ⟨ad, rfl, hb, cA⟩ := H1.out.at_ (show k1 < k by omega)
    have i0 : (k : Int) - 1 = (k1 : Int) := by omega
    have hx := H1.out.lt (show k1 < k by omega)
    have ht : nth l k1 ≠ 0 := by
      rcases N1.out.2.2 with h | h
      · have := H1.out.len; rw [h] at this; simp at this; omega
      · rwa [← H1.out.len, hk1, Nat.add_sub_cancel] at h
    obtain ⟨s1, s2, s3⟩ := bitLen_spec 32 (nth l k1) hx (by omega) ht
    have HK := Lib.hid hk1
    have hk1l : k1 < k := by omega
    clear hk1
    have hbl := (shift_ok ht hx).1
    have HS := Lib.hid (bits_val (p := 4294967296) (e := 32) rfl N1.out (by rw [← H1.out.len]; exact HK.out) s1 s2 s3)
    clear ht s1 s2 s3
    go_wp2_with fail
    refine (Try.bits_Len32 (nth l k1 : Int) _ (by omega) (by omega)).mono ?_
    rintro e w ⟨rfl, rfl⟩
    rw [Int.toNat_natCast]
    generalize Lib.bitLen (nth l k1) = t at *
    go_wp2_with fail
    go_ret
    exact ⟨32 * k1 + t, ret_int (by omega), HS.out, by omega, rfl⟩

def RetU64 (w : World) (N : Nat) (e : Ending) (w' : World) : Prop :=
  (N < 18446744073709551616 → e = .returned (.tuple #[.int .u64 N, .bool true])) ∧ (18446744073709551616 ≤ N → e = .returned (.tuple #[.int .u64 0, .bool false])) ∧ w = w'
theorem or_shift (a x i : Nat) (hi : i ≤ 1) (ha : a < 4294967296 ^ i) (hx : x < 4294967296) : bits .or .u64 (a : Int) (IntKind.u64.wrap ((x : Int) * 2 ^ (32 * i))) = ((a + 4294967296 ^ i * x : Nat) : Int) := by
  have : i = 0 ∨ i = 1 := by omega
  rcases this with rfl | rfl
  · simp only [Nat.pow_zero] at ha
    obtain rfl : a = 0 := by omega
    have e : IntKind.u64.wrap ((x : Int) * 2 ^ (32 * 0)) = ((x : Nat) : Int) := by
      simp only [IntKind.wrap, IntKind.bits, IntKind.signed]; simp; omega
    rw [e, u64_or_nat _ _ (by omega) (by omega)]
    simp
  · simp only [Nat.pow_one] at ha
    have e : IntKind.u64.wrap ((x : Int) * 2 ^ (32 * 1)) = ((x * 4294967296 : Nat) : Int) := by
      simp only [IntKind.wrap, IntKind.bits, IntKind.signed]; simp; omega
    rw [e, u64_or_nat _ _ (by omega) (by omega), Nat.or_comm, nat_join 32 _ _ (by omega) (by omega)]
    simp only [Nat.pow_one]
    congr 1
    omega

set_option maxHeartbeats 2000000 in
theorem uint64_any (A : Option Addr) (ds : List Nat) (n c : Nat) (hc : n ≤ c) (w : World) (hr : Es w w.heap.size A n ds) :
    Calls Try.prog 23 #[.slice A n c] w (RetU64 w (valB 4294967296 ds)) := by
  have HR := Lib.hid hr; clear hr
  go_enter Try.func23, Try.ntmps23
  go_wp2_with fail
  refine (trim_any A ds n c hc _ HR.out).mono ?_
  rintro e w1 ⟨k, l, rfl, hk, hl, hN, rfl⟩
  have H1 := Lib.hid hl; clear hl
  have N1 := Lib.hid hN; clear hN
  have hkl := H1.out.le
  by_cases hk2 : 2 < k
  · have hbig : 18446744073709551616 ≤ valB 4294967296 ds := by
      have h1 := N1.out.pos (by rw [← H1.out.len]; omega)
      rw [← H1.out.len] at h1
      have h2 : 4294967296 ^ 2 ≤ 4294967296 ^ (k - 1) := Nat.pow_le_pow_right (by omega) (by omega)
      simp only [show (4294967296 : Nat) ^ 2 = 18446744073709551616 from rfl] at h2
      exact Nat.le_trans h2 h1
    have HBIG := Lib.hid hbig; clear hbig
    go_wp2_with fail
    go_ret2
    exact ⟨fun h => by have := HBIG.out; omega, fun _ => rfl, rfl⟩
  · have hsmall : valB 4294967296 ds < 18446744073709551616 := by
      have h1 := N1.out.lt
      rw [← H1.out.len] at h1
      have h2 : 4294967296 ^ k ≤ 4294967296 ^ 2 := Nat.pow_le_pow_right (by omega) (by omega)
      simp only [show (4294967296 : Nat) ^ 2 = 18446744073709551616 from rfl] at h2
      exact Nat.lt_of_lt_of_le h1 h2
    have HSM := Lib.hid hsmall; clear hsmall
    go_wp2_with fail
    go_loop [4, 5, 13] (fun nv _ i => ∃ (i' a : Nat), i' ≤ k ∧ i = .int .i64 i' ∧ nv = .int .u64 a ∧ Hid (a = valB 4294967296 (l.take i'))) (fun _ _ i => k - (intOf i).toNat)
    case atStart => exact ⟨0, 0, Nat.zero_le _, rfl, rfl, Lib.hid rfl⟩
    case round =>
      obtain ⟨i, a, hi, rfl, rfl, HJ⟩ := hrel
      by_cases hlt : i < k
      · obtain ⟨ad, rfl, hb, cA⟩ := H1.out.at_ hlt
        have hx := H1.out.lt hlt
        have hli : i < l.length := by have := H1.out.len; omega
        have hst := Lib.hid (valB_take (b := 4294967296) hli)
        have ha : a < 4294967296 ^ i := by
          have h1 := valB_lt (b := 4294967296) (l := l.take i) (fun d h => H1.out.2.2 d (List.mem_of_mem_take h))
          rw [List.length_take, Nat.min_eq_left (Nat.le_of_lt hli), ← HJ.out] at h1
          exact h1
        have HO := Lib.hid (or_shift a (nth l i) i (by omega) ha hx)
        clear ha
        go_wp2_with fail
        rw [HO.out]
        exact ⟨⟨i + 1, _, by omega, by go_num, rfl, Lib.hid (by rw [hst.out, ← HJ.out])⟩, by simp [intOf]; omega⟩
      · go_wp2_with fail
        go_ret2
        refine ⟨fun _ => ?_, fun h => by have := HSM.out; omega, rfl⟩
        have h1 := HJ.out
        rw [List.take_of_length_le (by rw [← H1.out.len]; omega), N1.out.1] at h1
        subst h1
        rfl

end Go.Proofs.Ytamcibmjpmibdaa
namespace Go.Proofs.Ytamcibmjpmibdaa
open Go.RowKit

def U8 (es : List Nat) : List Value := es.map fun (e : Nat) => Value.int .u8 (e : Int)
theorem U8_length (es : List Nat) : (U8 es).length = es.length := by simp [U8]
theorem one_U8 (l : List Nat) : ∀ u ∈ U8 l, u.oneCell' = true := by
  intro v hv; simp only [U8, List.mem_map] at hv; obtain ⟨_, _, rfl⟩ := hv; rfl
def browX (L : List Nat) (X : List Value) : Array Value := (U8 L ++ X).toArray
theorem browX_get {L : List Nat} {X : List Value} {k : Nat} (h : k < L.length) : (browX L X)[k]? = some (.int .u8 (nth L k : Int)) := by
  simp only [browX, List.getElem?_toArray]
  rw [List.getElem?_append_left (by rw [U8_length]; exact h)]
  simp [U8, nth, List.getD, h]
theorem browX_set (L : List Nat) (X : List Value) (k x : Nat) (h : k < L.length) : (browX L X).setIfInBounds k (.int .u8 (x : Int)) = browX (L.set k x) X := by
  simp only [browX, List.setIfInBounds_toArray]
  rw [List.set_append_left _ _ (by rw [U8_length]; exact h)]
  simp [U8, List.map_set]
theorem own_browX {w : World} {base : Nat} {t : TypeId} {n : Nat} {v : Value} {L : List Nat} (h : w.ownsRow base t 1 v n (U8 L)) (hn : 0 < n) :
    ∃ g c X, v = .slice (some ⟨g, 0, none⟩) n c ∧ base ≤ g ∧ n ≤ c ∧ Blk w g t (browX L X) ∧ L.length = n := by
  have hl := h.1
  rw [U8_length] at hl
  rcases h.2 with ⟨_, h0⟩ | ⟨g, cap, cur, rfl, hb, hh, hc, _, _, htk⟩
  · omega
  · refine ⟨g, cap, cur.toList.drop n, rfl, hb, hc, ?_, by omega⟩
    rw [Nat.mul_one] at htk
    have : cur = browX L (cur.toList.drop n) := by
      simp only [browX]
      rw [← htk, List.take_append_drop]
    unfold Blk
    rw [hh]
    exact congrArg (fun z => some (Obj.cells z t (0, 0))) this
theorem info_u8 : (Try.prog.info? 5).map (fun i => (i.zero, i.size, i.bytes)) = some (some (.int .u8 0), 1, 1) := by kernel_rfl
section
variable {ops : Array Oper} {rest : List Oper} {o : Oper} {a : Act} {w : World} {Q : Exit → Act → World → Prop}
theorem app_u8 (hgd : o.guard = none) (s x : Operand) (ho : o.op = .call { callee := .builtin .append, args := #[s, x], argTypes := #[134, 134] })
    (base : Nat) (v : Value) (k : Nat) (L : List Nat) (hs : a.eval s = v) (hown : w.ownsRow base 5 1 v k (U8 L)) (g y : Nat) (hx : a.eval x = .slice (some ⟨g, 0, none⟩) 1 1) (hb : Blk w g 5 #[.int .u8 (y : Int)])
    (hk : k ≤ 100000000) (hbase : base ≤ w.heap.size)
    (h : ∀ v' w', w'.ownsRow base 5 1 v' (k + 1) (U8 (L ++ [y])) → w.grownBy w' v.ownBlock → (v'.ownBlock = v.ownBlock ∨ v'.ownBlock = some w.heap.size) → wpList Try.prog ops Q rest (a.put o.dst v') w') : wpList Try.prog ops Q (o :: rest) a w := by
  obtain ⟨i, hi, hz, hs1, hby⟩ := info_parts info_u8
  have hr : Reads w w.heap.size 1 (some ⟨g, 0, none⟩) 1 [.int .u8 (y : Int)] := ⟨rfl, fun _ => ⟨_, rfl, hb.lt, fun j u hu => by
    have e : (Addr.add ⟨g, 0, none⟩ j) = ⟨g, j, none⟩ := by unfold Addr.add; split <;> simp_all
    rw [e, hb.cell]; simpa using hu⟩⟩
  refine wpList_append_any w hgd s x 134 ho base 5 i _ 1 1 Try.underlying134 hi hz hs1 hby rfl (by omega) v k (U8 L) hs hown w.heap.size _ 1 1 _ hx hr (by simp; rfl) (by simp only [maxLen]; omega) (by omega) hbase ?_
  intro v' w' h1 h2 h3
  exact h v' w' (by simpa [U8] using h1) h2 h3
end

/-- Reverse so far: the outer i elements are exchanged. -/
def RvInv (L0 L : List Nat) (i : Nat) : Prop := L.length = L0.length ∧ ∀ t, t < L0.length → nth L t = if t < i ∨ L0.length - 1 - i < t then nth L0 (L0.length - 1 - t) else nth L0 t
theorem RvInv.step {L0 L : List Nat} {i : Nat} (h : RvInv L0 L i) (hi : i < L0.length - 1 - i) : RvInv L0 ((L.set i (nth L0 (L0.length - 1 - i))).set (L0.length - 1 - i) (nth L0 i)) (i + 1) := by
  obtain ⟨h1, h2⟩ := h
  refine ⟨by rw [List.length_set, List.length_set]; exact h1, fun t ht => ?_⟩
  rw [nth_set (by rw [List.length_set]; omega), nth_set (by omega)]
  by_cases a1 : t = L0.length - 1 - i
  · rw [if_pos a1, if_pos (by omega)]
    congr 1; omega
  · rw [if_neg a1]
    by_cases a2 : t = i
    · rw [if_pos a2, if_pos (by omega)]; subst a2; rfl
    · rw [if_neg a2, h2 t ht]
      by_cases a3 : t < i ∨ L0.length - 1 - i < t
      · rw [if_pos a3, if_pos (by omega)]
      · rw [if_neg a3, if_neg (by omega)]
theorem RvInv.done {L0 L : List Nat} {i : Nat} (h : RvInv L0 L i) (hi : L0.length - 1 - i ≤ i) : L = L0.reverse := by
  obtain ⟨h1, h2⟩ := h
  apply List.ext_getElem
  · simp [h1]
  · intro t ht1 ht2
    rw [← nth_eq ht1, h2 t (by omega), List.getElem_reverse]
    by_cases a : t < i ∨ L0.length - 1 - i < t
    · rw [if_pos a, nth_eq (by omega)]
    · rw [if_neg a, nth_eq (by omega)]
      congr 1; omega

def RetRv (w : World) (g : Nat) (t : TypeId) (L : List Nat) (X : List Value) (e : Ending) (w' : World) : Prop := e = .returned (.tuple #[]) ∧ Blk w' g t (browX L.reverse X) ∧ w.grownBy w' (some g)

set_option maxHeartbeats 4000000 in
theorem reverse_any (g : Nat) (L0 : List Nat) (X : List Value) (n c : Nat) (w : World) (hn : n = L0.length) (hb : Blk w g 5 (browX L0 X)) (hnn : n ≤ 100000000) (hn0 : 0 < n) :
    Calls Try.prog 91 #[.slice (some ⟨g, 0, none⟩) n c] w (RetRv w g 5 L0 X) := by
  have HN := Lib.hid hn; clear hn
  have HB := Lib.hid hb; clear hb
  go_enter Try.func91, Try.ntmps91
  go_wp2_with fail
  go_loopw [2, 3] (fun iv jv wr => ∃ (i : Nat) (L : List Nat), i ≤ n ∧ 2 * i ≤ n ∧ iv = .int .i64 i ∧ jv = .int .i64 ((n : Int) - 1 - i) ∧ Hid (RvInv L0 L i ∧ Blk wr g 5 (browX L X) ∧ w.grownBy wr (some g))) (fun iv _ _ => n - (intOf iv).toNat)
  case atStart =>
    refine ⟨0, L0, Nat.zero_le _, by omega, rfl, vint_eq (by omega), Lib.hid ⟨⟨rfl, fun t ht => ?_⟩, HB.out, World.grownBy.refl w _⟩⟩
    rw [if_neg (by omega)]
  case round =>
    obtain ⟨i, L, hi, hi2, rfl, rfl, HJ⟩ := hrel
    by_cases hlt : (i : Int) < (n : Int) - 1 - i
    · obtain ⟨j, hj⟩ : ∃ j : Nat, j = n - 1 - i := ⟨_, rfl⟩
      have e1 : (n : Int) - 1 - i = (j : Int) := by omega
      rw [e1] at hlt ⊢
      have hij : i < j := by omega
      have hjn : j < n := by omega
      have hLl : L.length = n := by rw [HJ.out.1.1, HN.out]
      have vi : nth L i = nth L0 i := by rw [HJ.out.1.2 i (by rw [← HN.out]; omega), if_neg (by rw [← HN.out]; omega)]
      have vj : nth L j = nth L0 j := by rw [HJ.out.1.2 j (by rw [← HN.out]; omega), if_neg (by rw [← HN.out]; omega)]
      have ci : wr.cell? ⟨g, i, none⟩ = some (.int .u8 (nth L0 i : Int)) := by rw [HJ.out.2.1.cell, browX_get (by omega), vi]
      have cj : wr.cell? ⟨g, j, none⟩ = some (.int .u8 (nth L0 j : Int)) := by rw [HJ.out.2.1.cell, browX_get (by omega), vj]
      have fi : wr.frozen? ⟨g, i, none⟩ = false := HJ.out.2.1.frozen i
      have fj : wr.frozen? ⟨g, j, none⟩ = false := HJ.out.2.1.frozen j
      have HJJ := Lib.hid hj; clear hj e1
      have HLL := Lib.hid hLl; clear hLl vi vj
      have i1 : (0 : Int) ≤ (i : Int) := by omega
      have i2 : (i : Int) < (n : Int) := by omega
      have i3 : (0 : Int) ≤ (j : Int) := by omega
      have i4 : (j : Int) < (n : Int) := by omega
      have hne : i ≠ j := by omega
      go_wp2_with fail
      go_region
      go_wp2_with fail
      have hst := HJ.out.1.step (i := i) (by rw [← HN.out]; have := HJJ.out; omega)
      rw [← HN.out, ← HJJ.out] at hst
      have hset := (HJ.out.2.1.set_ i (.int .u8 (nth L0 j : Int))).set_ j (.int .u8 (nth L0 i : Int))
      rw [browX_set _ _ _ _ (by rw [HLL.out]; omega), browX_set _ _ _ _ (by rw [List.length_set, HLL.out]; exact hjn)] at hset
      refine ⟨⟨i + 1, _, by omega, by have := HJJ.out; omega, by go_num, vint_eq (by have := HJJ.out; omega), Lib.hid ⟨hst, hset.drew, only_drew (only_setCell (only_setCell HJ.out.2.2 (.inl rfl) _) (.inl rfl) _)⟩⟩, by simp [intOf]; omega⟩
    · go_wp2_with fail
      refine bodyPost_end (results_none rfl _ _ _) rfl ⟨rfl, ?_, HJ.out.2.2⟩
      rw [← HJ.out.1.done (by rw [← HN.out]; omega)]
      exact HJ.out.2.1

/-- The decimal text of a number with the digits D. -/
def textOf (D : List Nat) : ByteArray := if D = [] then ⟨#[48]⟩ else ⟨(D.reverse.map fun d => UInt8.ofNat (d + 48)).toArray⟩

end Go.Proofs.Ytamcibmjpmibdaa
namespace Go.Proofs.Ytamcibmjpmibdaa
open Go.RowKit

/-- The digits so far (o), the group g with i digits of it done, the rest R. -/
def TxInv (p N : Nat) (o : List Nat) (g q R : Nat) : Prop := (∀ d ∈ o, d < p) ∧ g < q ∧ valB p o + p ^ o.length * (g + q * R) = N
theorem TxInv.step {p N g q R : Nat} {o : List Nat} (h : TxInv p N o g (p * q) R) (hp : 0 < p) : TxInv p N (o ++ [g % p]) (g / p) q R := by
  obtain ⟨h1, h2, h3⟩ := h
  refine ⟨?_, Nat.div_lt_of_lt_mul h2, ?_⟩
  · intro d hd
    simp only [List.mem_append, List.mem_singleton] at hd
    rcases hd with hd | rfl
    · exact h1 d hd
    · exact Nat.mod_lt _ hp
  · rw [valB_snoc, List.length_append, List.length_singleton, Nat.pow_succ, ← h3]
    have e : p ^ o.length * (g + p * q * R) = p ^ o.length * (g % p) + p ^ o.length * p * (g / p + q * R) := by
      rw [Nat.mul_assoc (p ^ o.length) p, ← Nat.mul_add, Nat.mul_add p, ← Nat.add_assoc, Nat.mod_add_div, Nat.mul_assoc p q]
    omega
/-- Is the last digit known to be right? -/
def TxEnd (o : List Nat) (g i R : Nat) : Prop := R = 0 → g = 0 → 0 < i ∧ (o ≠ [] ∧ nth o (o.length - 1) ≠ 0)
theorem TxEnd.step {o : List Nat} {g i R : Nat} (h : R = 0 → g ≠ 0) : TxEnd (o ++ [g % 10]) (g / 10) (i + 1) R := by
  intro hR hg
  have := h hR
  refine ⟨by omega, by simp, ?_⟩
  rw [nth_eq (by simp), List.getElem_append_right (by simp)]
  simp
  omega

theorem Es.inj {w : World} {B k n : Nat} {A : Option Addr} {l ds : List Nat} (h : Es w B A k l) (hd : Es w B A n ds) (hk : k ≤ n) : l = ds.take k := by
  have h1 := h.len
  have h2 := hd.len
  apply List.ext_getElem
  · simp; omega
  · intro i h3 h4
    obtain ⟨a, rfl, _, c1⟩ := h.at_ (show i < k by omega)
    obtain ⟨a', e, _, c2⟩ := hd.at_ (show i < n by omega)
    cases e
    rw [c1] at c2
    have e1 : nth l i = nth ds i := by
      injection c2 with c2
      injection c2 with _ c2
      omega
    rw [← nth_eq h3, e1, List.getElem_take, nth_eq (by omega)]
theorem Tx_len {N k : Nat} {o : List Nat} {g q R : Nat} (h : TxInv 10 N o g q R) (hN : N < 4294967296 ^ k) (hpos : 0 < g + q * R) : o.length ≤ 10 * k := by
  rcases Nat.lt_or_ge (10 * k) o.length with h1 | h1
  · have h2 : 10 ^ (10 * k) ≤ 10 ^ o.length := Nat.pow_le_pow_right (by omega) (by omega)
    have h3 : 4294967296 ^ k ≤ 10 ^ (10 * k) := by rw [Nat.pow_mul]; exact Nat.pow_le_pow_left (by decide) k
    have h4 := h.2.2
    have h5 : 10 ^ o.length * 1 ≤ 10 ^ o.length * (g + q * R) := Nat.mul_le_mul_left _ hpos
    have h6 : 10 ^ o.length ≤ N := by rw [Nat.mul_one] at h5; exact Nat.le_trans h5 (by rw [← h4]; exact Nat.le_add_left _ _)
    exact absurd (Nat.lt_of_lt_of_le hN (Nat.le_trans h3 (Nat.le_trans h2 h6))) (Nat.lt_irrefl _)
  · exact h1
theorem Tx_group {p N R d : Nat} {o : List Nat} (h : TxInv p N o 0 1 R) (hd : 0 < d) : TxInv p N o (R % d) d (R / d) := by
  refine ⟨h.1, Nat.mod_lt _ hd, ?_⟩
  have := h.2.2
  rw [Nat.zero_add, Nat.one_mul] at this
  rw [Nat.mod_add_div]; exact this

theorem casts_getD {L : List Nat} (i : Nat) (h : i < L.length) : (L.map (fun x : Nat => (x : Int))).getD i 0 = (nth L i : Int) := by
  rw [nth_eq h]
  simp [List.getD, List.getElem?_eq_getElem h]

def RetText (w : World) (N : Nat) (e : Ending) (w' : World) : Prop := ∃ D, Nrm 10 D N ∧ e = .returned (.string (textOf D)) ∧ Below w.heap.size w w'

set_option maxHeartbeats 8000000 in
theorem text_any (A : Option Addr) (ds : List Nat) (n c : Nat) (hc : n ≤ c) (w : World) (hr : Es w w.heap.size A n ds) (hn : n ≤ 100000) :
    Calls Try.prog 68 #[.slice A n c] w (RetText w (valB 4294967296 ds)) := by
  have HR := Lib.hid hr; clear hr
  go_enter Try.func68, Try.ntmps68
  go_wp2_with fail
  refine (norm_any A ds n c hc (by omega) _ HR.out).mono ?_
  generalize valB 4294967296 ds = N at *
  rintro e w1 ⟨k, l, ⟨v, rfl, hown, hb1⟩, hk, hkl, hN⟩
  have N1 := Lib.hid hN; clear hN
  have HZ := Lib.hid (N1.out.zero_iff (by omega)); rw [← hkl] at HZ
  have HKL := Lib.hid hkl; clear hkl
  have HO := Lib.hid hown; clear hown
  have HB1 := Lib.hid hb1; clear hb1
  by_cases hk0 : k = 0
  · have HN0 := Lib.hid (HZ.out.1 hk0)
    obtain ⟨A2, c2, rfl⟩ := own_form HO.out
    subst hk0
    clear HZ
    go_wp2_with fail
    go_ret
    exact ⟨[], by rw [HN0.out]; exact Nrm.nil _, by simp [textOf], HB1.out⟩
  obtain ⟨g0, c2, X, rfl, hg0, hc2, hblk, hll⟩ := own_rowX HO.out (by omega)
  have hkb : ((k : Int) == 0) = false := by simp; omega
  have HBK := Lib.hid hblk; clear hblk
  have HLL := Lib.hid hll; clear hll
  clear HO
  go_wp2_with fail
  have HNlt := Lib.hid (show N < 4294967296 ^ k by have := N1.out.lt; rwa [← HKL.out] at this)
  go_loopg [3, 4, 5, 6] N (fun R rv ov _ _ wr => ∃ (k' c' m : Nat), rv = .slice (some ⟨g0, 0, none⟩) k' c' ∧ k' ≤ k ∧ Hid (k' ≤ c' ∧ (∃ (l' : List Nat) (X' : List Value) (o : List Nat), Nrm 4294967296 l' R ∧ k' = l'.length ∧ Blk wr g0 111 (urowX l' X') ∧ wr.ownsRow w.heap.size 5 1 ov m (U8 (o.map (· + 48))) ∧ m = o.length ∧ TxInv 10 N o 0 1 R ∧ TxEnd o 0 1 R) ∧ m ≤ 1000010 ∧ Below w.heap.size w wr))
  case atStart =>
    refine ⟨k, c2, 0, rfl, Nat.le_refl _, Lib.hid ⟨hc2, ⟨l, X, [], N1.out, HKL.out, HBK.out, own_nil _ _ _, rfl, ⟨by simp, by omega, by simp [valB]⟩, fun h => ?_⟩, by omega, HB1.out⟩⟩
    exact absurd (HZ.out.2 h) hk0
  case round =>
    obtain ⟨k', c', m, rfl, hk', HJ⟩ := hrel
    obtain ⟨hkc, ⟨l', X', o, hN', hkl', hblk, hown, hm, hTx, hTe⟩, hm6, hB⟩ := HJ.out
    clear HJ
    by_cases hk0' : 0 < k'
    · have hR0 : gk ≠ 0 := fun h => by have := (hN'.zero_iff (by omega)).2 h; omega
      have HH := Lib.hid (And.intro hblk (And.intro hown (And.intro hm (And.intro hTx (And.intro hN' (And.intro hkl' hB))))))
      clear hblk hown hm hTx hTe hB hkl' hN'
      go_wp2_with fail
      refine (divDigit_any g0 l' X' k' c' 1000000000 wr HH.out.2.2.2.2.2.1 HH.out.1 (by omega) (by omega) HH.out.2.2.2.2.1.2.1 (by omega)).mono ?_
      rintro e w2 ⟨rfl, L, hL1, hL2, hL3, hL4, hL5⟩
      rw [HH.out.2.2.2.2.1.1] at hL3 ⊢
      have hown2 := own_grown_ne HH.out.2.1 HH.out.1 hL5 (by decide)
      have hB2 := HH.out.2.2.2.2.2.2.grown hL5 HH.out.2.2.2.2.2.2.size (fun q hq => by cases hq; exact hg0)
      have hE2 := Es.of_blkX hL4 (by rw [hL1, ← HH.out.2.2.2.2.2.1]; omega) hL2
      rw [hL1, ← HH.out.2.2.2.2.2.1] at hE2
      have H2 := Lib.hid (And.intro hL4 (And.intro hown2 (And.intro hB2 (And.intro hE2 (And.intro hL3 (hL1.trans HH.out.2.2.2.2.2.1.symm))))))
      clear hL1 hL2 hL3 hL4 hL5 hown2 hB2 hE2
      have hgl : gk % 1000000000 < 1000000000 := Nat.mod_lt _ (by omega)
      obtain ⟨gr, hgr⟩ : ∃ gr, gr = gk % 1000000000 := ⟨_, rfl⟩
      rw [← hgr] at hgl ⊢
      have HGR := Lib.hid hgr; clear hgr
      go_wp2_with fail
      refine (trim_any _ L k' c' hkc _ H2.out.2.2.2.1).mono ?_
      rintro e w3 ⟨k2, l2, rfl, hk2, hl2, hN2, rfl⟩
      rw [H2.out.2.2.2.2.1] at hN2
      have hinj := Es.inj hl2 H2.out.2.2.2.1 hk2
      have hTg := Tx_group HH.out.2.2.2.1 (d := 1000000000) (by omega)
      rw [← HGR.out] at hTg
      have hlt : gk / 1000000000 < gk := Nat.div_lt_self (by omega) (by omega)
      have hblk2 : Blk w2 g0 111 (urowX l2 (U32 (L.drop k2) ++ X')) := by
        have h1 := H2.out.1
        have e1 : urowX L X' = urowX l2 (U32 (L.drop k2) ++ X') := by
          simp only [urowX, hinj, ← List.append_assoc]
          congr 2
          simp only [U32, ← List.map_append, List.take_append_drop]
        rwa [e1] at h1
      have hk2l := hl2.len
      have HZ2 := Lib.hid (hN2.zero_iff (by omega))
      have H3 := Lib.hid (And.intro hblk2 (And.intro H2.out.2.1 (And.intro H2.out.2.2.1 (And.intro hN2 (And.intro hk2l (And.intro hTg (And.intro HH.out.2.2.1 hlt)))))))
      have hR0' : gk / 1000000000 = 0 → gr ≠ 0 := fun h1 h2 => hR0 (by have := HGR.out; omega)
      have HR0 := Lib.hid hR0'
      clear hblk2 hN2 hk2l hTg hinj hl2 HH H2 hlt hR0' hR0
      clear HGR
      generalize gk / 1000000000 = R2 at *
      obtain ⟨wo, rfl⟩ : ∃ wo : World, wo = w2 := ⟨_, rfl⟩
      go_wp2_with fail
      go_loopw [4, 5, 6, 19] (fun ov gv _ iv wr => ∃ (i g m : Nat), iv = .int .i64 i ∧ i ≤ 9 ∧ gv = .int .u32 g ∧ g < 1000000000 ∧ Hid (m ≤ 1000010 ∧ Blk wr g0 111 (urowX l2 (U32 (L.drop k2) ++ X')) ∧ Below w.heap.size w wr ∧ ∃ o, wr.ownsRow w.heap.size 5 1 ov m (U8 (o.map (· + 48))) ∧ m = o.length ∧ TxInv 10 N o g (10 ^ (9 - i)) R2 ∧ TxEnd o g i R2)) (fun _ _ _ iv _ => 9 - (intOf iv).toNat)
      case atStart =>
        refine ⟨0, gr, m, rfl, by omega, rfl, hgl, Lib.hid ⟨hm6, H3.out.1, H3.out.2.2.1, o, H3.out.2.1, H3.out.2.2.2.2.2.2.1, H3.out.2.2.2.2.2.1, fun h1 h2 => absurd h2 (HR0.out h1)⟩⟩
      case round =>
        obtain ⟨i, g, m', rfl, hi, rfl, hg9, HJ⟩ := hrel
        obtain ⟨hm6', hblk, hB, o', hown, hmo, hTx, hTe⟩ := HJ.out
        clear HJ
        by_cases hi9 : i < 9
        · by_cases hbrk : 0 < i ∧ g = 0 ∧ k2 = 0
          · obtain ⟨b1, b2, b3⟩ := hbrk
            have hz := hTx.2.2
            have HF := Lib.hid (And.intro hblk (And.intro hB (And.intro hown (And.intro hmo (And.intro hTx hTe))))); clear hblk hB hown hmo hTx hTe hz
            have t1 : decide ((0 : Int) < (i : Int)) = true := by simp; omega
            have t2 : ((g : Int) == 0) = true := by simp [b2]
            have t3 : ((k2 : Int) == 0) = true := by simp [b3]
            have HKZ := Lib.hid (show R2 = 0 from HZ2.out.1 (by rw [← H3.out.2.2.2.2.1, b3]))
            have HG0 := Lib.hid b2
            clear b2 b3
            go_wp2_with fail
            go_roundg R2
            case measure => exact H3.out.2.2.2.2.2.2.2
            case rel =>
              have hT := HF.out.2.2.2.2.1
              have hTe := HF.out.2.2.2.2.2
              refine ⟨k2, k2, m', rfl, by omega, Lib.hid ⟨Nat.le_refl _, ⟨l2, _, o', H3.out.2.2.2.1, H3.out.2.2.2.2.1, HF.out.1, HF.out.2.2.1, HF.out.2.2.2.1, ?_, fun h1 h2 => ⟨by omega, (hTe h1 HG0.out).2⟩⟩, hm6', HF.out.2.1⟩⟩
              rw [HG0.out, HKZ.out] at hT
              rw [HKZ.out]
              exact ⟨hT.1, by omega, by have := hT.2.2; simpa using this⟩
          · have hpos : R2 = 0 → g ≠ 0 := fun h1 h2 => by
              have h3 := hTe h1 h2
              exact hbrk ⟨h3.1, h2, by rw [H3.out.2.2.2.2.1]; exact HZ2.out.2 h1⟩
            have hlen : m' ≤ 1000000 := by
              rw [hmo]
              have h1 := Tx_len hTx HNlt.out (by
                rcases Nat.eq_zero_or_pos R2 with h | h
                · have := hpos h; omega
                · have h2 : 0 < 10 ^ (9 - i) * R2 := Nat.mul_pos (Nat.pow_pos (by omega)) h
                  omega)
              omega
            have hq : 10 ^ (9 - i) = 10 * 10 ^ (9 - (i + 1)) := by rw [show 9 - i = (9 - (i + 1)) + 1 by omega, Nat.pow_succ, Nat.mul_comm]
            rw [hq] at hTx
            have hst := hTx.step (by omega)
            have hse := TxEnd.step (o := o') (i := i) hpos
            have HF := Lib.hid (And.intro hblk (And.intro hB (And.intro hown (And.intro hmo (And.intro hst hse))))); clear hblk hB hown hmo hTx hTe hst hse hq hpos
            have h10 : g % 10 < 10 := Nat.mod_lt _ (by omega)
            have hcases : (¬ 0 < i) ∨ (0 < i ∧ ((g : Int) == 0) = false) ∨ (0 < i ∧ ((g : Int) == 0) = true ∧ ((k2 : Int) == 0) = false) := by
              by_cases c1 : 0 < i
              · by_cases c2 : g = 0
                · right; right; refine ⟨c1, by simp [c2], ?_⟩
                  have c3 : k2 ≠ 0 := fun h => hbrk ⟨c1, c2, h⟩
                  simp; omega
                · right; left; exact ⟨c1, by simp; omega⟩
              · left; exact c1
            clear hbrk
            have hmk8 : ((48 : Int) + (g : Int) % 10) = ((48 + g % 10 : Nat) : Int) := by omega
            have HK8 := Lib.hid hmk8; clear hmk8
            obtain ⟨Ao, co, rfl⟩ := own_form HF.out.2.2.1
            rcases hcases with t1 | ⟨t1, t2⟩ | ⟨t1, t2, t3⟩
            all_goals
              go_wp2_with (at_builtin; refine app_u8 rfl (.tmp 33) (.tmp 38) rfl w.heap.size _ m' (o'.map (· + 48)) rfl (HF.out.2.2.1.alloc _) wr.heap.size (48 + g % 10) rfl (by rw [← HK8.out]; exact Blk.new wr 5 _) (by omega) (by have := HF.out.2.1.size; simp; omega) ?_; intro v' w4 hown4 hg4 hat4; have H4 := Lib.hid (And.intro hown4 hg4); clear hown4 hg4 hat4)
              have hB4 := Below.appended (HF.out.2.1.alloc HF.out.2.1.size (.cells #[.int .u8 (48 + (g : Int) % 10)] 5)) (HF.out.2.2.1.alloc _) H4.out.2 (by have := HF.out.2.1.size; simp; omega) (Nat.le_refl _)
              have hb4 := (HF.out.1.alloc (.cells #[.int .u8 (48 + (g : Int) % 10)] 5)).appended (HF.out.2.2.1.alloc _) H4.out.2 (by decide)
              refine ⟨⟨i + 1, g / 10, m' + 1, by simp, by omega, by simp, by omega, Lib.hid ⟨by omega, hb4, hB4, o' ++ [g % 10], ?_, by rw [List.length_append, List.length_singleton, HF.out.2.2.2.1], HF.out.2.2.2.2.1, HF.out.2.2.2.2.2⟩⟩, by simp [intOf]; omega⟩
              have e := H4.out.1
              rw [List.map_append, List.map_cons, List.map_nil, Nat.add_comm (g % 10) 48]
              exact e
        · have hi9' : i = 9 := by omega
          subst hi9'
          have hg0' : g = 0 := by have := hTx.2.1; simp at this; exact this
          have HF := Lib.hid (And.intro hblk (And.intro hB (And.intro hown (And.intro hmo (And.intro hTx hTe))))); clear hblk hB hown hmo hTx hTe
          have HG0 := Lib.hid hg0'; clear hg0'
          go_wp2_with fail
          go_roundg R2
          case measure => exact H3.out.2.2.2.2.2.2.2
          case rel =>
            have hT := HF.out.2.2.2.2.1
            have hTe := HF.out.2.2.2.2.2
            refine ⟨k2, k2, m', rfl, by omega, Lib.hid ⟨Nat.le_refl _, ⟨l2, _, o', H3.out.2.2.2.1, H3.out.2.2.2.2.1, HF.out.1, HF.out.2.2.1, HF.out.2.2.2.1, ?_, fun h1 h2 => ⟨by omega, (hTe h1 HG0.out).2⟩⟩, hm6', HF.out.2.1⟩⟩
            rw [HG0.out] at hT
            exact hT
    · have hk00 : k' = 0 := by omega
      subst hk00
      have hR : gk = 0 := (hN'.zero_iff (by omega)).1 hkl'.symm
      have hend := (hTe hR rfl).2
      have hD : Nrm 10 o N := ⟨by have := hTx.2.2; rw [hR] at this; simpa using this, hTx.1, .inr hend.2⟩
      have hm0 : 0 < m := by rw [hm]; exact List.length_pos_iff.2 hend.1
      obtain ⟨g1, c1, X1, rfl, hg1, hc1, hblk1, hlm⟩ := own_browX hown hm0
      have HF := Lib.hid (And.intro hD (And.intro hblk1 (And.intro hlm (And.intro hB hend.1)))); clear hD hblk1 hlm hB hend hTx hTe hkl' hN' hown hblk hm
      clear hR
      go_wp2_with fail
      refine (reverse_any g1 (o.map (· + 48)) X1 m c1 wr HF.out.2.2.1.symm HF.out.2.1 (by omega) hm0).mono ?_
      rintro e w3 ⟨rfl, hblk3, hgr⟩
      have hxs : ((o.map (· + 48)).reverse.map (fun x : Nat => (x : Int))).length = m := by simpa using HF.out.2.2.1
      have hcv := run_convert_bytes_arg (P := Try.prog) w3 134 5 Try.underlying134 Try.underlying5 g1 0 m c1 ((o.map (· + 48)).reverse.map (fun x : Nat => (x : Int))) hxs (fun i hi => by
        rw [Nat.zero_add, hblk3.cell, browX_get (by simp at hxs ⊢; omega)]
        rw [casts_getD _ (by simp at hxs ⊢; omega)]) 9 Try.underlying9
      have hstr : strOfNums ((o.map (· + 48)).reverse.map (fun x : Nat => (x : Int))) = textOf o := by
        simp only [strOfNums, textOf, if_neg HF.out.2.2.2.2, List.map_reverse, List.map_map]
        rfl
      rw [hstr] at hcv
      have hB3 := HF.out.2.2.2.1.grown hgr HF.out.2.2.2.1.size (fun q hq => by cases hq; exact hg1)
      have H3 := Lib.hid (And.intro hB3 HF.out.1); clear hB3 hgr hblk3 hxs hstr
      clear HF
      go_wp2_with fail
      go_ret
      exact ⟨o, H3.out.2, rfl, H3.out.1⟩

end Go.Proofs.Ytamcibmjpmibdaa
namespace Go.Proofs.Ytamcibmjpmibdaa
open Go.RowKit

def PB (b : Nat) : Nat := 4294967296 ^ b
theorem pw_add {p a b : Nat} : p ^ a * p ^ b = p ^ (a + b) := (Nat.pow_add p a b).symm
theorem PB_mul {a b N M : Nat} (h : N < PB a) (k : M < PB b) : N * M < PB (a + b) := by
  have : N * M < PB a * PB b := Nat.mul_lt_mul_of_lt_of_lt h k
  rw [PB, PB, pw_add] at this; exact this
theorem pw_two {p a b : Nat} (hp : 2 ≤ p) (ha : 1 ≤ a) (hb : 1 ≤ b) : p ^ a + p ^ b ≤ p ^ (a + b) := by
  have h1 : p ^ (a + b) = p ^ a * p ^ b := Nat.pow_add ..
  have ea : 2 ≤ p ^ a := Nat.le_trans hp (Nat.le_self_pow (by omega) p)
  have eb : 2 ≤ p ^ b := Nat.le_trans hp (Nat.le_self_pow (by omega) p)
  rw [h1]
  have h2 : p ^ a * 2 ≤ p ^ a * p ^ b := Nat.mul_le_mul_left _ eb
  have h3 : 2 * p ^ b ≤ p ^ a * p ^ b := Nat.mul_le_mul_right _ ea
  omega
theorem PB_add {a b N M : Nat} (h : N < PB a) (k : M < PB b) (ha : 1 ≤ a) (hb : 1 ≤ b) : N + M < PB (a + b) := by
  have := pw_two (p := 4294967296) (by omega) ha hb
  change PB a + PB b ≤ PB (a + b) at this
  omega
theorem pw_len {p b : Nat} {l : List Nat} {V : Nat} (hp : 0 < p) (h : Nrm p l V) (hV : V < p ^ b) : l.length ≤ b := by
  rcases Nat.lt_or_ge b l.length with h1 | h1
  · have h2 := h.pos (by omega)
    have h3 : p ^ b ≤ p ^ (l.length - 1) := Nat.pow_le_pow_right hp (by omega)
    omega
  · exact h1
theorem PB_len {b : Nat} {l : List Nat} {V : Nat} (h : Nrm 4294967296 l V) (hV : V < PB b) : l.length ≤ b := pw_len (by omega) h hV
theorem PB_mono {a b : Nat} (h : a ≤ b) : PB a ≤ PB b := Nat.pow_le_pow_right (by omega) h

/-- The slice holds a number: its value, and a bound. -/
def Num (w : World) (A : Option Addr) (k c b N : Nat) : Prop := k ≤ c ∧ 1 ≤ b ∧ k ≤ 10000 ∧ N < PB b ∧ ∃ l, Es w w.heap.size A k l ∧ valB 4294967296 l = N
/-- .. and is normalized. -/
def Norm (w : World) (A : Option Addr) (k N : Nat) : Prop := ∃ l, Es w w.heap.size A k l ∧ Nrm 4294967296 l N
theorem Num.new {w w' : World} {A : Option Addr} {k c b N : Nat} (h : Num w A k c b N) (hb : Below w.heap.size w w') : Num w' A k c b N := by
  obtain ⟨h1, h2, h3, h4, l, h5, h6⟩ := h
  exact ⟨h1, h2, h3, h4, l, h5.new hb, h6⟩
theorem Norm.new {w w' : World} {A : Option Addr} {k N : Nat} (h : Norm w A k N) (hb : Below w.heap.size w w') : Norm w' A k N := by
  obtain ⟨l, h5, h6⟩ := h
  exact ⟨l, h5.new hb, h6⟩
theorem Num.of_es {w : World} {A : Option Addr} {k c b : Nat} {l : List Nat} (h : Es w w.heap.size A k l) (hc : k ≤ c) (hk : k ≤ b) (hb : 1 ≤ b) (hb2 : b ≤ 10000) : Num w A k c b (valB 4294967296 l) := by
  refine ⟨hc, hb, by omega, ?_, l, h, rfl⟩
  have h1 := valB_lt h.2.2
  have h2 := h.len
  exact Nat.lt_of_lt_of_le h1 (PB_mono (by omega))
theorem Num.of_nrm {w : World} {A : Option Addr} {k c b N : Nat} {l : List Nat} (h : Es w w.heap.size A k l) (hc : k ≤ c) (hN : Nrm 4294967296 l N) (hV : N < PB b) (hb : 1 ≤ b) (hb2 : b ≤ 10000) : Num w A k c b N ∧ Norm w A k N := by
  have h1 := PB_len hN hV
  have h2 := h.len
  exact ⟨⟨hc, hb, by omega, hV, l, h, hN.1⟩, l, h, hN⟩

def RetN (w : World) (b N : Nat) (e : Ending) (w' : World) : Prop := ∃ A k c, e = .returned (.slice A k c) ∧ Num w' A k c b N ∧ Norm w' A k N ∧ Below w.heap.size w w'
theorem RetN.of {w : World} {b N : Nat} {e : Ending} {w' : World} (h : RetNat w N e w') (hV : N < PB b) (hb : 1 ≤ b) (hb2 : b ≤ 10000) : RetN w b N e w' := by
  obtain ⟨A, k, c, l, h1, h2, h3, h4, h5⟩ := h
  obtain ⟨n1, n2⟩ := Num.of_nrm h3 h2 h4 hV hb hb2
  exact ⟨A, k, c, h1, n1, n2, h5⟩

theorem of_n (n : Nat) (hn : n < 18446744073709551616) (w : World) : Calls Try.prog 81 #[.int .u64 n] w (RetN w 2 n) :=
  (nof_any n hn w).mono fun _ _ h => RetN.of h (by rw [PB]; exact hn) (by omega) (by omega)
section
variable {w : World} {A B : Option Addr} {n c m d a b N M : Nat}
theorem add_n (ha : Num w A n c a N) (hb : Num w B m d b M) (hab : a + b ≤ 10000) : Calls Try.prog 94 #[.slice A n c, .slice B m d] w (RetN w (a + b) (N + M)) := by
  obtain ⟨a1, a2, a3, a4, l, a5, rfl⟩ := ha
  obtain ⟨b1, b2, b3, b4, f, b5, rfl⟩ := hb
  exact (add_any A l n c a1 B f m d b1 w a5 b5 (by omega) (by omega)).mono fun _ _ h => RetN.of h (PB_add a4 b4 a2 b2) (by omega) hab
theorem mul_n (ha : Num w A n c a N) (hb : Num w B m d b M) (hab : a + b ≤ 10000) : Calls Try.prog 50 #[.slice A n c, .slice B m d] w (RetN w (a + b) (N * M)) := by
  obtain ⟨a1, a2, a3, a4, l, a5, rfl⟩ := ha
  obtain ⟨b1, b2, b3, b4, f, b5, rfl⟩ := hb
  exact (mul_any A l n c a1 B f m d b1 w a5 b5 (by omega) (by omega)).mono fun _ _ h => RetN.of h (PB_mul a4 b4) (by omega) hab
theorem cmp_n (ha : Num w A n c a N) (hb : Num w B m d b M) : Calls Try.prog 49 #[.slice A n c, .slice B m d] w fun e w' => e = .returned (.int .i64 (cmpN N M)) ∧ Below w.heap.size w w' := by
  obtain ⟨a1, a2, a3, a4, l, a5, rfl⟩ := ha
  obtain ⟨b1, b2, b3, b4, f, b5, rfl⟩ := hb
  exact ncmp_any A l n c a1 B f m d b1 w a5 b5
def RetSubN (w : World) (b x y : Nat) (e : Ending) (w' : World) : Prop :=
  (x < y → e = .returned (.tuple #[.slice none 0 0, .int .i64 19]) ∧ Below w.heap.size w w') ∧
  (y ≤ x → ∃ A k c, e = .returned (.tuple #[.slice A k c, .int .i64 0]) ∧ Num w' A k c b (x - y) ∧ Norm w' A k (x - y) ∧ Below w.heap.size w w')
theorem sub_n (ha : Num w A n c a N) (hb : Num w B m d b M) (hab : a ≤ 10000) : Calls Try.prog 95 #[.slice A n c, .slice B m d] w (RetSubN w a N M) := by
  obtain ⟨a1, a2, a3, a4, l, a5, rfl⟩ := ha
  obtain ⟨b1, b2, b3, b4, f, b5, rfl⟩ := hb
  refine (sub_any A l n c a1 B f m d b1 w a5 b5 (by omega)).mono fun _ _ h => ⟨h.1, fun hle => ?_⟩
  obtain ⟨A', k', c', l', h1, h2, h3, h4, h5⟩ := h.2 hle
  obtain ⟨n1, n2⟩ := Num.of_nrm h3 h2 h4 (Nat.lt_of_le_of_lt (Nat.sub_le _ _) a4) a2 hab
  exact ⟨A', k', c', h1, n1, n2, h5⟩
def RetDMN (w : World) (b b' N M : Nat) (e : Ending) (w' : World) : Prop :=
  (M = 0 → e = .returned (.tuple #[.slice none 0 0, .slice none 0 0, .int .i64 18]) ∧ Below w.heap.size w w') ∧
  (M ≠ 0 → ∃ A k c A' k' c', e = .returned (.tuple #[.slice A k c, .slice A' k' c', .int .i64 0]) ∧ (Num w' A k c b (N / M) ∧ Norm w' A k (N / M)) ∧ (Num w' A' k' c' b' (N % M) ∧ Norm w' A' k' (N % M)) ∧ Below w.heap.size w w')
theorem dm_n (ha : Num w A n c a N) (hb : Num w B m d b M) (ha1 : a ≤ 10000) (hb1 : b ≤ 10000) : Calls Try.prog 87 #[.slice A n c, .slice B m d] w (RetDMN w a b N M) := by
  obtain ⟨a1, a2, a3, a4, l, a5, rfl⟩ := ha
  obtain ⟨b1, b2, b3, b4, f, b5, rfl⟩ := hb
  refine (divMod_any A l n c a1 B f m d b1 w a5 b5 (by omega)).mono fun _ _ h => ⟨h.1, fun hle => ?_⟩
  obtain ⟨A', k', c', l', A2, k2, c2, l2, h1, ⟨h2, h3, h4⟩, ⟨h5, h6, h7⟩, h8⟩ := h.2 hle
  have n1 := Num.of_nrm h3 h2 h4 (Nat.lt_of_le_of_lt (Nat.div_le_self _ _) a4) a2 ha1
  have n2 := Num.of_nrm h6 h5 h7 (Nat.lt_of_le_of_lt (Nat.le_of_lt (Nat.mod_lt _ (Nat.pos_of_ne_zero hle))) b4) b2 hb1
  exact ⟨A', k', c', A2, k2, c2, h1, n1, n2, h8⟩
theorem bits_n (ha : Num w A n c a N) : Calls Try.prog 66 #[.slice A n c] w fun e w' => ∃ b : Nat, e = .returned (.int .i64 b) ∧ BitsIs N b ∧ b ≤ 320000 ∧ w = w' := by
  obtain ⟨a1, a2, a3, a4, l, a5, rfl⟩ := ha
  refine (bits_any A l n c a1 w a5 (by omega)).mono fun _ _ h => ?_
  obtain ⟨b, h1, h2, h3, h4⟩ := h
  exact ⟨b, h1, h2, by omega, h4⟩
theorem u64_n (ha : Num w A n c a N) : Calls Try.prog 23 #[.slice A n c] w (RetU64 w N) := by
  obtain ⟨a1, a2, a3, a4, l, a5, rfl⟩ := ha
  exact uint64_any A l n c a1 w a5
theorem text_n (ha : Num w A n c a N) : Calls Try.prog 68 #[.slice A n c] w (RetText w N) := by
  obtain ⟨a1, a2, a3, a4, l, a5, rfl⟩ := ha
  exact text_any A l n c a1 w a5 (by omega)
theorem norm_n (ha : Num w A n c a N) (hab : a ≤ 10000) : Calls Try.prog 85 #[.slice A n c] w (RetN w a N) := by
  obtain ⟨a1, a2, a3, a4, l, a5, rfl⟩ := ha
  refine (norm_any A l n c a1 (by omega) w a5).mono fun _ w1 h => ?_
  obtain ⟨k, l', ⟨v, h1, h2, h3⟩, h4, h5, h6⟩ := h
  obtain ⟨A', c', rfl, hc'⟩ := own_cap h2
  obtain ⟨A2, c2, he, hE⟩ := Es.of_own h2 h6.2.1
  cases he
  obtain ⟨n1, n2⟩ := Num.of_nrm hE hc' h6 a4 a2 hab
  exact ⟨A', k, c', h1, n1, n2, h3⟩
end

theorem Norm.length {w : World} {A : Option Addr} {k N b : Nat} (h : Norm w A k N) (h1 : PB b ≤ N) (h2 : N < PB (b + 1)) : k = b + 1 := by
  obtain ⟨l, hE, hN⟩ := h
  have h3 := PB_len hN h2
  have h4 := hE.len
  have h5 := hN.lt
  rcases Nat.lt_or_ge b l.length with h6 | h6
  · omega
  · have : PB l.length ≤ PB b := PB_mono h6
    change N < PB l.length at h5
    omega
theorem Norm.zero {w : World} {A : Option Addr} {k N : Nat} (h : Norm w A k N) : k = 0 ↔ N = 0 := by
  obtain ⟨l, hE, hN⟩ := h
  rw [hE.len]; exact hN.zero_iff (by omega)

end Go.Proofs.Ytamcibmjpmibdaa
