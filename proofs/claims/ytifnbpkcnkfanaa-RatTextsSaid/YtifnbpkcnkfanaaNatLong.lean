/-
  Contract of nat.divLong.
-/
import Derived.Test.YtifnbpkcnkfanaaNatProd
import Derived.Test.YtifnbpkcnkfanaaShelf
namespace Go.Proofs.Ytifnbpkcnkfanaa
open Go.RowKit

theorem bitLen_spec : ∀ (k x : Nat), x < 2 ^ k → k ≤ 64 → x ≠ 0 → 1 ≤ Lib.bitLen x ∧ 2 ^ (Lib.bitLen x - 1) ≤ x ∧ x < 2 ^ Lib.bitLen x := by
  intro k
  induction k with
  | zero => intro x h _ h0; simp at h; omega
  | succ k ih =>
    intro x h hk h0
    have hx : x < 2 ^ 64 := Nat.lt_of_lt_of_le h (two_pow_le hk)
    rw [Lib.bitLen_half x h0 hx]
    by_cases h1 : x / 2 = 0
    · have : x = 1 := by omega
      subst this
      have e : Lib.bitLen (1 / 2) = 0 := by decide
      rw [e]; decide
    · obtain ⟨a1, a2, a3⟩ := ih (x / 2) (by rw [Nat.pow_succ] at h; omega) (by omega) h1
      generalize Lib.bitLen (x / 2) = t at *
      refine ⟨by omega, ?_, ?_⟩
      · rw [show 1 + t - 1 = (t - 1) + 1 by omega, Nat.pow_succ]; omega
      · rw [Nat.add_comm, Nat.pow_succ]; omega

theorem Es.of_mid {w : World} {g t j : Nat} {P S R : List Nat} {X : List Value} (h : Blk w g t (urowX (P ++ S ++ R) X)) (hj : P.length = j) (hl : S.length ≤ 9223372036854775807) (hb : ∀ e ∈ S, e < 4294967296) : Es w w.heap.size (some ⟨g, j, none⟩) S.length S :=
  ⟨⟨by simp [U32_length], fun _ => ⟨_, rfl, h.lt, fun i u hu => by
    have e : (Addr.add ⟨g, j, none⟩ i) = ⟨g, j + i, none⟩ := by unfold Addr.add; split <;> simp_all
    have hi : i < S.length := by have := (List.getElem?_eq_some_iff.1 hu).1; rwa [U32_length] at this
    rw [e, h.cell, urowX_get (by simp; omega), nth_mid hj hi, U32_get hu]⟩⟩, ⟨rfl, hl⟩, hb⟩
theorem urow_split (L : List Nat) (n : Nat) : urow L = urowX (L.take n) (U32 (L.drop n)) := by
  simp only [urow, urowX, U32, ← List.map_append, List.take_append_drop]

/-- One step of the long division, plainly. -/
structure DlInv (p : Nat) (la n : Nat) (u Q : List Nat) (V W j : Nat) : Prop where
  ul : u.length = la + 1
  ud : ∀ d ∈ u, d < p
  ql : Q.length = la - n + 1
  qd : ∀ d ∈ Q, d < p
  eq : valB p u + V * (p ^ j * valB p (Q.drop j)) = W
  lt : valB p (u.drop j) < V

theorem DlInv.seg {p la n V W j : Nat} {u Q : List Nat} (h : DlInv p la n u Q V W (j + 1)) (hj : j + n ≤ la) (hV : V ≤ p ^ n) :
    valB p ((u.drop j).take (n + 1)) < p * V ∧ valB p (u.drop (j + (n + 1))) = 0 ∧ ((u.drop j).take (n + 1)).length = n + 1 ∧ (u.take j).length = j ∧ u = u.take j ++ (u.drop j).take (n + 1) ++ u.drop (j + (n + 1)) := by
  have hl := h.ul
  have hju : j < u.length := by omega
  have e1 : u = u.take j ++ (u.drop j).take (n + 1) ++ u.drop (j + (n + 1)) := by
    rw [← List.drop_drop, List.append_assoc, List.take_append_drop, List.take_append_drop]
  have z : valB p (u.drop (j + (n + 1))) = 0 := by
    have h1 := valB_split p (u.drop (j + 1)) n (by rw [List.length_drop]; omega)
    rw [List.drop_drop, show j + 1 + n = j + (n + 1) by omega] at h1
    have h2 := h.lt
    rw [h1] at h2
    rcases Nat.eq_zero_or_pos (valB p (u.drop (j + (n + 1)))) with h0 | h0
    · exact h0
    · have : p ^ n * 1 ≤ p ^ n * valB p (u.drop (j + (n + 1))) := Nat.mul_le_mul_left _ h0
      omega
  have hU : valB p ((u.drop j).take (n + 1)) = valB p (u.drop j) := by
    have h1 := valB_split p (u.drop j) (n + 1) (by rw [List.length_drop]; omega)
    rw [List.drop_drop, z, Nat.mul_zero, Nat.add_zero] at h1
    exact h1.symm
  refine ⟨?_, z, by simp; omega, by simp; omega, e1⟩
  rw [hU, valB_drop hju]
  have d1 := h.ud _ (nth_mem hju)
  have h2 := h.lt
  have h3 : p * (valB p (u.drop (j + 1)) + 1) ≤ p * V := Nat.mul_le_mul_left p h2
  rw [Nat.mul_add] at h3
  omega
theorem DlInv.step {p la n V W j : Nat} {u Q S' : List Nat} (h : DlInv p la n u Q V W (j + 1)) (hj : j + n ≤ la) (hV : V ≤ p ^ n) (hV0 : 0 < V)
    (hS : S'.length = n + 1) (hSd : ∀ d ∈ S', d < p) (hv : valB p S' = valB p ((u.drop j).take (n + 1)) % V) :
    DlInv p la n (u.take j ++ S' ++ u.drop (j + (n + 1))) (Q.set j (valB p ((u.drop j).take (n + 1)) / V)) V W j := by
  obtain ⟨hU, z, l1, l2, e1⟩ := h.seg hj hV
  have hl := h.ul
  have hql := h.ql
  generalize hSg : (u.drop j).take (n + 1) = S at *
  refine ⟨by simp [hS]; omega, ?_, by rw [List.length_set]; exact hql, mem_set h.qd (Nat.div_lt_of_lt_mul (by rw [Nat.mul_comm]; exact hU)), ?_, ?_⟩
  · intro d hd
    simp only [List.mem_append] at hd
    rcases hd with (hd | hd) | hd
    · exact h.ud d (List.mem_of_mem_take hd)
    · exact hSd d hd
    · exact h.ud d (List.mem_of_mem_drop hd)
  · have q1 : valB p (u.take j ++ S' ++ u.drop (j + (n + 1))) = valB p (u.take j) + p ^ j * (valB p S % V) := by
      rw [valB_append, valB_append, z, l2, hv]; simp
    have q2 : valB p u = valB p (u.take j) + p ^ j * valB p S := by
      have e2 := congrArg (valB p) e1
      rw [valB_append, valB_append, z, l2] at e2
      simpa using e2
    have q3 : valB p ((Q.set j (valB p S / V)).drop j) = valB p S / V + p * valB p (Q.drop (j + 1)) := by
      rw [valB_drop (by rw [List.length_set]; omega), nth_set (by omega), if_pos rfl, List.drop_set, if_pos (by omega)]
    have q4 := h.eq
    rw [q2] at q4
    rw [q1, q3]
    have q5 : p ^ j * valB p S = p ^ j * (valB p S % V) + p ^ j * (V * (valB p S / V)) := by rw [← Nat.mul_add, Nat.mod_add_div]
    have q6 : V * (p ^ j * (valB p S / V + p * valB p (Q.drop (j + 1)))) = p ^ j * (V * (valB p S / V)) + V * (p ^ (j + 1) * valB p (Q.drop (j + 1))) := by
      rw [Nat.mul_add (p ^ j), Nat.mul_add V, Nat.mul_left_comm V, Nat.pow_succ, Nat.mul_assoc (p ^ j) p]
    rw [q6]
    omega
  · have : (u.take j ++ S' ++ u.drop (j + (n + 1))).drop j = S' ++ u.drop (j + (n + 1)) := by
      rw [List.append_assoc, List.drop_append_of_le_length (by omega), List.drop_of_length_le (by omega), List.nil_append]
    rw [this, valB_append, z, Nat.mul_zero, Nat.add_zero, hv]
    exact Nat.mod_lt _ hV0
/-- What the two ways of a step come to. -/
theorem step_val {g q U V a : Nat} (hq : q = U / V) (hV : 0 < V) (h1 : q ≤ g) (h2 : g ≤ q + 1) (hle : g * V ≤ U) (ha : a = U - g * V) : g = q ∧ a = U % V := by
  have : g ≤ q := by rw [hq, Nat.le_div_iff_mul_le hV]; exact hle
  have hg : g = q := by omega
  refine ⟨hg, ?_⟩
  have h3 := Nat.div_add_mod U V
  rw [ha, hg, hq, Nat.mul_comm]; omega
theorem step_back {M g q U V a b : Nat} (hq : q = U / V) (h2 : g ≤ q + 1) (hlt : U < g * V) (ha : a + g * V = U + M) (hb : b % M = (a + V) % M) (hbM : b < M) (hUM : U < M) : g = q + 1 ∧ b = U % V := by
  have hg : g = q + 1 := by
    rcases Nat.lt_or_ge g (q + 1) with h | h
    · have h4 : g * V ≤ q * V := Nat.mul_le_mul_right V (by omega)
      have h5 : q * V ≤ U := by rw [hq]; exact Nat.div_mul_le_self _ _
      omega
    · omega
  refine ⟨hg, ?_⟩
  have h3 := Nat.div_add_mod U V
  rw [hg, Nat.add_mul, Nat.one_mul, hq, Nat.mul_comm] at ha
  have e : a + V = M + U % V := by omega
  rw [e, Nat.add_mod_left, Nat.mod_eq_of_lt hbM, Nat.mod_eq_of_lt (Nat.lt_of_le_of_lt (Nat.mod_le _ _) hUM)] at hb
  exact hb
theorem dl_back {p g q V : Nat} {S S' S2 v : List Nat} (hq : q = valB p S / V) (h2 : g ≤ q + 1) (hlt : valB p S < g * V) (ha : valB p S' + g * V = valB p S + p ^ S.length) (hb : valB p S2 % p ^ S'.length = (valB p S' + valB p v) % p ^ S'.length) (hv : valB p v = V)
    (l1 : S'.length = S.length) (l2 : S2.length = S'.length) (d2 : ∀ d ∈ S2, d < p) (hSM : valB p S < p ^ S.length) : g = q + 1 ∧ valB p S2 = valB p S % V := by
  have h3 := valB_lt d2
  rw [l2, l1] at h3
  rw [l1, hv] at hb
  exact step_back hq h2 hlt ha hb h3 hSM
theorem dl_eq0 {p V W j : Nat} {u Q : List Nat} (h : valB p u = W) (hQ : Q.length ≤ j) : valB p u + V * (p ^ j * valB p (Q.drop j)) = W := by
  rw [h, List.drop_of_length_le hQ]; simp [valB]
theorem DlInv.done {p la n M s : Nat} {u Q : List Nat} {N : Nat} (h : DlInv p la n u Q (M * 2 ^ s) (N * 2 ^ s) 0) (hM : 0 < M) (hV : M * 2 ^ s ≤ p ^ n) (hn : n ≤ la) :
    valB p Q = N / M ∧ valB p (u.take n) / 2 ^ s = N % M := by
  have h1 := h.eq
  have h2 := h.lt
  have hs := pow2_pos s
  simp only [List.drop_zero, Nat.pow_zero, Nat.one_mul] at h1 h2
  have z : valB p (u.take n) = valB p u := by
    have h3 := valB_split p u n (by rw [h.ul]; omega)
    rcases Nat.eq_zero_or_pos (valB p (u.drop n)) with h0 | h0
    · rw [h0] at h3; omega
    · have : p ^ n * 1 ≤ p ^ n * valB p (u.drop n) := Nat.mul_le_mul_left _ h0
      omega
  have e1 : M * 2 ^ s * valB p Q = (M * valB p Q) * 2 ^ s := by rw [Nat.mul_right_comm]
  rw [e1] at h1
  have e2 : valB p u % 2 ^ s = 0 := by
    have : (valB p u + M * valB p Q * 2 ^ s) % 2 ^ s = 0 := by rw [h1]; exact Nat.mul_mod_left _ _
    rwa [Nat.add_mul_mod_self_right] at this
  obtain ⟨r, hr⟩ : ∃ r, valB p u = r * 2 ^ s := ⟨valB p u / 2 ^ s, by have := Nat.div_add_mod (valB p u) (2 ^ s); rw [e2, Nat.add_zero, Nat.mul_comm] at this; exact this.symm⟩
  rw [hr, ← Nat.add_mul] at h1
  have e3 : r + M * valB p Q = N := Nat.eq_of_mul_eq_mul_right hs h1
  have e4 : r < M := by rw [hr] at h2; exact Nat.lt_of_mul_lt_mul_right h2
  rw [z, hr, Nat.mul_div_cancel _ hs]
  constructor
  · rw [← e3, Nat.add_mul_div_left _ _ hM, Nat.div_eq_of_lt e4, Nat.zero_add]
  · rw [← e3, Nat.add_mul_mod_self_left, Nat.mod_eq_of_lt e4]

/-- divLong's answer. -/
def RetQR (w : World) (N M : Nat) (e : Ending) (w' : World) : Prop :=
  ∃ A k c l A' k' c' l', e = .returned (.tuple #[.slice A k c, .slice A' k' c']) ∧ (k ≤ c ∧ Es w' w'.heap.size A k l ∧ valB 4294967296 l = N / M) ∧ (k' ≤ c' ∧ Es w' w'.heap.size A' k' l' ∧ valB 4294967296 l' = N % M) ∧ Below w.heap.size w w'

/-- The shift that brings the top bit up. -/
theorem shift_ok {x : Nat} (h0 : x ≠ 0) (hx : x < 4294967296) : Lib.bitLen x ≤ 32 ∧ 1 ≤ Lib.bitLen x ∧ 2147483648 ≤ x * 2 ^ (32 - Lib.bitLen x) ∧ (x + 1) * 2 ^ (32 - Lib.bitLen x) ≤ 4294967296 := by
  obtain ⟨h1, h2, h3⟩ := bitLen_spec 32 x hx (by omega) h0
  have hb : Lib.bitLen x ≤ 32 := by
    rcases Nat.lt_or_ge 32 (Lib.bitLen x) with h | h
    · have := two_pow_le (n := 32) (m := Lib.bitLen x - 1) (by omega)
      omega
    · exact h
  generalize Lib.bitLen x = t at *
  refine ⟨hb, h1, ?_, ?_⟩
  · have := Nat.mul_le_mul_right (2 ^ (32 - t)) h2
    rw [← Nat.pow_add, show t - 1 + (32 - t) = 31 by omega] at this
    exact this
  · have := Nat.mul_le_mul_right (2 ^ (32 - t)) (show x + 1 ≤ 2 ^ t from h3)
    rw [← Nat.pow_add, show t + (32 - t) = 32 by omega] at this
    exact this

theorem dl_setup {p q hh : Nat} {f : List Nat} {n n1 M : Nat} (hM : Nrm p f M) (hfl : n = f.length) (hn1 : n = n1 + 1) (s3 : hh ≤ nth f n1 * q) (s4 : (nth f n1 + 1) * q ≤ p) (hq : 0 < q) (hp : 0 < p) :
    M * q < p ^ n ∧ p ^ n1 * q ≤ M * q ∧ p ^ n1 * hh ≤ M * q ∧ 0 < M := by
  have h1 := valB_take (b := p) (l := f) (k := n1) (by omega)
  rw [← hn1, List.take_of_length_le (by omega), hM.1] at h1
  have h2 : valB p (f.take n1) < p ^ n1 := by
    have := valB_lt (b := p) (l := f.take n1) (fun d h => hM.2.1 d (List.mem_of_mem_take h))
    rwa [List.length_take, Nat.min_eq_left (by omega)] at this
  have hpos : p ^ n1 ≤ M := by have := hM.pos (by omega); rwa [← hfl, hn1, Nat.add_sub_cancel] at this
  have hpp : 0 < p ^ n1 := Nat.pow_pos hp
  refine ⟨?_, Nat.mul_le_mul_right _ hpos, ?_, by omega⟩
  · have h3 : M < p ^ n1 * (nth f n1 + 1) := by rw [h1, Nat.mul_add]; omega
    have h4 : M * q < p ^ n1 * (nth f n1 + 1) * q := Nat.mul_lt_mul_of_pos_right h3 hq
    have h5 : p ^ n1 * (nth f n1 + 1) * q ≤ p ^ n1 * p := by rw [Nat.mul_assoc]; exact Nat.mul_le_mul_left _ s4
    rw [hn1, Nat.pow_succ]
    omega
  · have h3 : p ^ n1 * nth f n1 ≤ M := by omega
    have h4 := Nat.mul_le_mul_right q h3
    have h5 := Nat.mul_le_mul_left (p ^ n1) s3
    rw [← Nat.mul_assoc] at h5
    omega
theorem dl_v {p n V : Nat} {Lv : List Nat} (h : valB p Lv = V) (hl : Lv.length = n + 1) (hV : V < p ^ n) : valB p (Lv.take n) = V := by
  have h1 := valB_split p Lv n (by omega)
  rw [h] at h1
  rcases Nat.eq_zero_or_pos (valB p (Lv.drop n)) with h0 | h0
  · rw [h0] at h1; omega
  · have h3 : p ^ n * 1 ≤ p ^ n * valB p (Lv.drop n) := Nat.mul_le_mul_left _ h0
    omega
theorem dl_top {p hh n n1 V : Nat} {v : List Nat} (h : valB p v = V) (hl : v.length = n) (hn1 : n = n1 + 1) (hd : ∀ d ∈ v, d < p) (hV : p ^ n1 * hh ≤ V) : hh ≤ nth v n1 := by
  have h1 := valB_take (b := p) (l := v) (k := n1) (by omega)
  rw [← hn1, List.take_of_length_le (by omega), h] at h1
  have h2 : valB p (v.take n1) < p ^ n1 := by
    have := valB_lt (b := p) (l := v.take n1) (fun d h => hd d (List.mem_of_mem_take h))
    rwa [List.length_take, Nat.min_eq_left (by omega)] at this
  have h4 : p ^ n1 * hh < p ^ n1 * (nth v n1 + 1) := by rw [Nat.mul_add]; omega
  have := Nat.lt_of_mul_lt_mul_left h4
  omega
theorem dl_start {p q N M la dj n1 : Nat} {l Lu : List Nat} (hN : Nrm p l N) (hla : la = l.length) (h : valB p Lu = N * q) (hl : Lu.length = la + 1) (hdj : la = dj + 1 + n1) (hq : 0 < q) (hV : p ^ n1 * q ≤ M * q) : valB p (Lu.drop (dj + 1)) < M * q := by
  have h1 := valB_split p Lu (dj + 1) (by omega)
  rw [h] at h1
  have h2 : N < p ^ la := by have := hN.lt; rwa [← hla] at this
  have h3 : N * q < p ^ la * q := Nat.mul_lt_mul_of_pos_right h2 hq
  have h4 : p ^ la * q = p ^ (dj + 1) * (p ^ n1 * q) := by rw [← Nat.mul_assoc, ← Nat.pow_add, ← hdj]
  rw [h4] at h3
  have h5 : p ^ (dj + 1) * valB p (Lu.drop (dj + 1)) < p ^ (dj + 1) * (p ^ n1 * q) := by omega
  have h6 := Nat.lt_of_mul_lt_mul_left h5
  omega

set_option maxHeartbeats 8000000 in
theorem divLong_any (A B : Option Addr) (l f : List Nat) (la n ca cb N M : Nat) (w : World) (hr : Es w w.heap.size A la l) (hs : Es w w.heap.size B n f) (hN : Nrm 4294967296 l N) (hM : Nrm 4294967296 f M) (hn2 : 2 ≤ n) (hle : n ≤ la) (hla : la ≤ 1000000) :
    Calls Try.prog 65 #[.slice A la ca, .slice B n cb] w (RetQR w N M) := by
  obtain ⟨n1, hn1⟩ : ∃ n1, n = n1 + 1 := ⟨n - 1, by omega⟩
  obtain ⟨bd, rfl, hb1, cB⟩ := hs.at_ (show n1 < n by omega)
  have hfl := hs.len
  have ht : nth f n1 ≠ 0 := by
    rcases hM.2.2 with h | h
    · rw [h] at hfl; simp at hfl; omega
    · rwa [← hfl, hn1, Nat.add_sub_cancel] at h
  have htl := hs.lt (show n1 < n by omega)
  obtain ⟨s1, s2, s3, s4⟩ := shift_ok ht htl
  generalize hsd : 32 - Lib.bitLen (nth f n1) = s at *
  have hs32 : s < 32 := by omega
  have HSD := Lib.hid hsd; clear hsd
  have HV := Lib.hid (dl_setup hM hfl hn1 s3 s4 (pow2_pos s) (by omega)); clear s3 s4
  have HR := Lib.hid hr; clear hr
  have HS := Lib.hid hs; clear hs
  have HN := Lib.hid hN; clear hN
  have HM := Lib.hid hM; clear hM
  have HF := Lib.hid hfl; clear hfl
  have i0 : (n : Int) - 1 = (n1 : Int) := by omega
  have hn1n : n1 < n := by omega
  have HN1 := Lib.hid hn1; clear hn1
  go_enter Try.func65, Try.ntmps65
  go_wp2_with fail
  refine (Try.bits_LeadingZeros32 (nth f n1 : Int) _ (by omega) (by omega)).mono ?_
  rintro e w ⟨rfl, rfl⟩
  rw [show (32 : Int) - (Lib.bitLen ((nth f n1 : Nat) : Int).toNat : Int) = (s : Int) by rw [Int.toNat_natCast]; have := HSD.out; omega]
  clear ht s1 s2 cB
  go_wp2_with fail
  refine (shl_any _ f n cb s _ HS.out (by omega) hs32).mono ?_
  rintro e w1 ⟨Lv, rfl, hLv, dLv, vLv, bLv, hB1⟩
  rw [HM.out.1] at vLv
  have H1 := Lib.hid (And.intro hLv (And.intro dLv (And.intro vLv (And.intro bLv hB1)))); clear hLv dLv vLv bLv hB1
  go_wp2_with fail
  refine (shl_any _ l la ca s _ (HR.out.new H1.out.2.2.2.2) (by omega) hs32).mono ?_
  rintro e w2 ⟨Lu, rfl, hLu, dLu, vLu, bLu, hB2⟩
  rw [HN.out.1] at vLu
  have H2 := Lib.hid (And.intro hLu (And.intro dLu (And.intro vLu (And.intro bLu hB2)))); clear hLu dLu vLu bLu hB2
  have hz1 : w.heap.size < w1.heap.size := H1.out.2.2.2.1.lt
  have hz2 : w1.heap.size < w2.heap.size := H2.out.2.2.2.1.lt
  obtain ⟨dj, hdj⟩ : ∃ dj, la = dj + n := ⟨la - n, by omega⟩
  have HDJ := Lib.hid hdj
  have i1 : (la : Int) - (n : Int) = (dj : Int) := by omega
  have hmk := mk_nat (dj + 1) (by omega)
  simp only [Int.natCast_add, Int.natCast_one] at hmk
  have hdl : dj < la + 1 := by omega
  clear hdj
  go_wp2_with fail
  clear hmk
  -- the divisor's row: n digits and a zero
  have hV := Lib.hid (show Blk w1 w.heap.size 23 (urowX (Lv.take n) (U32 (Lv.drop n))) by rw [← urow_split]; exact H1.out.2.2.2.1)
  have hvv : valB 4294967296 (Lv.take n) = M * 2 ^ s := dl_v H1.out.2.2.1 H1.out.1 HV.out.1
  have hvl : (Lv.take n).length = n := by rw [List.length_take, H1.out.1]; omega
  have hvd : ∀ d ∈ Lv.take n, d < 4294967296 := fun d hd => H1.out.2.1 d (List.mem_of_mem_take hd)
  generalize Lv.take n = v at *
  generalize U32 (Lv.drop n) = Xv at *
  have hvtop : 4294967296 ≤ 2 * nth v n1 := by have := dl_top hvv hvl HN1.out hvd HV.out.2.2.1; omega
  have HW := Lib.hid (And.intro hvv (And.intro hvl (And.intro hvd hvtop))); clear hvv hvl hvd hvtop
  go_loopw [11, 12, 13] (fun jv _ _ wr => ∃ (j' : Nat) (u Q : List Nat), j' ≤ dj + 1 ∧ jv = .int .i64 ((j' : Int) - 1) ∧ Hid (DlInv 4294967296 la n u Q (M * 2 ^ s) (N * 2 ^ s) j' ∧ Blk wr w.heap.size 23 (urowX v Xv) ∧ Blk wr w1.heap.size 23 (urow u) ∧ Blk wr w2.heap.size 23 (urow Q) ∧ Below w.heap.size w wr)) (fun jv _ _ _ => (intOf jv + 1).toNat)
  case atStart =>
    refine ⟨dj + 1, Lu, zer (dj + 1), Nat.le_refl _, by go_num, Lib.hid ⟨⟨H2.out.1, H2.out.2.1, ?_, ?_, ?_, ?_⟩, ?_, ?_, ?_, ?_⟩⟩
    · rw [zer_length, HDJ.out]; omega
    · intro d hd
      have := List.eq_of_mem_replicate hd
      omega
    · exact dl_eq0 H2.out.2.2.1 (Nat.le_of_eq (zer_length _))
    · exact dl_start HN.out HR.out.len H2.out.2.2.1 H2.out.1 (by have := HDJ.out; have := HN1.out; omega) (pow2_pos s) HV.out.2.1
    · exact (hV.out.below H2.out.2.2.2.2 hV.out.lt).alloc _
    · exact H2.out.2.2.2.1.alloc _
    · exact Blk.new _ _ _
    · exact bthen (bthen H1.out.2.2.2.2 H2.out.2.2.2.2 H1.out.2.2.2.2.size) (al _ _) (by have := H1.out.2.2.2.2.size; omega)
  case round =>
    obtain ⟨j, u, Q, hj, rfl, HJ⟩ := hrel
    by_cases h0 : 0 < j
    · obtain ⟨j, rfl⟩ : ∃ m, j = m + 1 := ⟨j - 1, by omega⟩
      have i2 : ((j + 1 : Nat) : Int) - 1 = (j : Int) := by omega
      rw [i2]
      go_wp2_with fail
      have hjla : j + n ≤ la := by have := HDJ.out; omega
      obtain ⟨hU, z, l1, l2, e1⟩ := HJ.out.1.seg hjla (Nat.le_of_lt HV.out.1)
      have hbu : Blk wr w1.heap.size 23 (urowX (u.take j ++ (u.drop j).take (n + 1) ++ u.drop (j + (n + 1))) []) := by rw [← e1, ← urow_X]; exact HJ.out.2.2.1
      have dS : ∀ d ∈ (u.drop j).take (n + 1), d < 4294967296 := fun d hd => HJ.out.1.ud d (List.mem_of_mem_drop (List.mem_of_mem_take hd))
      have HST := Lib.hid (fun (S' : List Nat) (h1 : S'.length = n + 1) (h2 : ∀ d ∈ S', d < 4294967296) h3 => HJ.out.1.step (S' := S') hjla (Nat.le_of_lt HV.out.1) (Nat.mul_pos HV.out.2.2.2 (pow2_pos s)) h1 h2 h3)
      have HSM := Lib.hid (valB_lt dS)
      generalize (u.drop j).take (n + 1) = S at *
      generalize u.take j = P at *
      generalize u.drop (j + (n + 1)) = R at *
      have hV0 : 0 < M * 2 ^ s := Nat.mul_pos HV.out.2.2.2 (pow2_pos s)
      have hEs := Es.of_mid hbu l2 (by omega) dS
      rw [l1] at hEs
      have hEv := Es.of_blkX HJ.out.2.1 (by rw [HW.out.2.1]; omega) HW.out.2.2.1
      rw [HW.out.2.1] at hEv
      obtain ⟨n2, hn2'⟩ : ∃ n2, n1 = n2 + 1 := ⟨n1 - 1, by have := HN1.out; omega⟩
      have HN2 := Lib.hid hn2'; clear hn2'
      rw [show j + n + 1 - j = n + 1 by omega]
      refine (guess_any _ _ S v (n + 1) n n1 n2 _ _ wr hEs hEv rfl HN1.out HN2.out HW.out.2.2.2 (by rw [HW.out.1]; exact hU) (by omega)).mono ?_
      rw [HW.out.1]
      rintro e w3 ⟨g, rfl, hq1, hq2, hgl, hb3⟩
      have hbu3 := hbu.below hb3 hbu.lt
      have hbv3 := HJ.out.2.1.below hb3 HJ.out.2.1.lt
      have hbq3 := HJ.out.2.2.2.1.below hb3 HJ.out.2.2.2.1.lt
      have hB3 := bthen HJ.out.2.2.2.2 hb3 HJ.out.2.2.2.2.size
      obtain ⟨q, hq⟩ : ∃ q, q = valB 4294967296 S / (M * 2 ^ s) := ⟨_, rfl⟩
      rw [← hq] at hq1 hq2 HST
      have HQ := Lib.hid (And.intro hq (And.intro hq1 hq2)); clear hq hq1 hq2
      have H3 := Lib.hid (And.intro hbu3 (And.intro hbv3 (And.intro hbq3 hB3))); clear hbu3 hbv3 hbq3 hB3 hb3
      have HU := Lib.hid (And.intro hU (And.intro True.intro (And.intro l1 (And.intro l2 dS)))); clear hU l1 l2 dS
      have HV0 := Lib.hid hV0; clear hV0
      clear hEs hEv hbu e1 z
      go_wp2_with fail
      refine (subProduct_any w1.heap.size w.heap.size j (n + 1) n _ _ g P S R v [] Xv w3 H3.out.1 H3.out.2.1 (by omega) HU.out.2.2.2.1 rfl HU.out.2.2.1 HW.out.2.1 HU.out.2.2.2.2 HW.out.2.2.1 hgl (by omega)).mono ?_
      rintro e w4 ⟨S', neg, rfl, hl', hd', hbu4, hg4, hneg0, hneg1⟩
      rw [HW.out.1] at hneg0 hneg1
      have HNG := Lib.hid (And.intro hneg0 hneg1); clear hneg0 hneg1
      have hbv4 := H3.out.2.1.grown hg4 (by simp; omega)
      have hbq4 := H3.out.2.2.1.grown hg4 (by simp; omega)
      have hB4 := H3.out.2.2.2.grown hg4 (by have := H3.out.2.2.1.lt; omega) (fun k hk => by cases hk; omega)
      have H4 := Lib.hid (And.intro hbu4 (And.intro hbv4 (And.intro hbq4 (And.intro hB4 (And.intro hl' hd')))))
      clear hbu4 hbv4 hbq4 hB4 hl' hd' hg4
      have hQj : j < Q.length := by rw [HJ.out.1.ql]; have := HDJ.out; omega
      have HQJ := Lib.hid hQj; clear hQj
      cases neg with
      | true =>
        have hg0 : 1 ≤ g := by
          rcases Nat.eq_zero_or_pos g with h | h
          · have h1 := (HNG.out.2 rfl).1
            rw [h, Nat.zero_mul] at h1
            exact absurd h1 (Nat.not_lt_zero _)
          · exact h
        have HNH := Lib.hid (HNG.out.2 rfl); clear HNG
        go_wp2_with fail
        refine (addBack_any w1.heap.size w.heap.size j (n + 1) n _ _ P S' R v [] Xv w4 H4.out.1 H4.out.2.1 (by omega) HU.out.2.2.2.1 rfl (by rw [H4.out.2.2.2.2.1]; exact HU.out.2.2.1) HW.out.2.1 H4.out.2.2.2.2.2 HW.out.2.2.1 (by omega)).mono ?_
        rintro e w5 ⟨S2, rfl, hl2, hd2, hbu5, hg5, hval⟩
        have HVAL := Lib.hid hval; clear hval
        have hbv5 := H4.out.2.1.grown hg5 (by simp; omega)
        have hbq5 := H4.out.2.2.1.grown hg5 (by simp; omega)
        have hB5 := H4.out.2.2.2.1.grown hg5 (by have := H4.out.2.2.1.lt; omega) (fun k hk => by cases hk; omega)
        have cQ : w5.cell? ⟨w2.heap.size, j, none⟩ = some (.int .u32 (nth Q j : Int)) := by rw [hbq5.cell, urow_get HQJ.out]
        have fQ : w5.frozen? ⟨w2.heap.size, j, none⟩ = false := hbq5.frozen j
        have H5 := Lib.hid (And.intro hbu5 (And.intro hbv5 (And.intro hbq5 (And.intro hB5 (And.intro hl2 hd2)))))
        clear hbu5 hbv5 hbq5 hB5 hl2 hd2 hg5
        go_wp2_with fail
        obtain ⟨k1, k2⟩ := dl_back HQ.out.1 HQ.out.2.2 HNH.out.1 HNH.out.2 HVAL.out HW.out.1 H4.out.2.2.2.2.1 H5.out.2.2.2.2.1 H5.out.2.2.2.2.2 HSM.out
        have hnew := HST.out S2 (by rw [H5.out.2.2.2.2.1, H4.out.2.2.2.2.1, HU.out.2.2.1]) H5.out.2.2.2.2.2 k2
        have hset := H5.out.2.2.1.set_ j (.int .u32 (q : Int))
        rw [urow_set] at hset
        have e1 : (g : Int) - 1 = (q : Int) := by omega
        rw [e1]
        refine ⟨⟨j, _, _, by omega, rfl, Lib.hid ⟨hnew, H5.out.2.1.far (p := ⟨w2.heap.size, j, none⟩) (by show w.heap.size ≠ w2.heap.size; omega) _, ?_, hset, H5.out.2.2.2.1.setCell (p := ⟨w2.heap.size, j, none⟩) (by show w.heap.size ≤ w2.heap.size; omega) _⟩⟩, by simp [intOf]⟩
        rw [urow_X]
        exact H5.out.1.far (p := ⟨w2.heap.size, j, none⟩) (by show w1.heap.size ≠ w2.heap.size; omega) _
      | false =>
        have HNH := Lib.hid (HNG.out.1 rfl); clear HNG
        have cQ : w4.cell? ⟨w2.heap.size, j, none⟩ = some (.int .u32 (nth Q j : Int)) := by rw [H4.out.2.2.1.cell, urow_get HQJ.out]
        have fQ : w4.frozen? ⟨w2.heap.size, j, none⟩ = false := H4.out.2.2.1.frozen j
        go_wp2_with fail
        obtain ⟨k1, k2⟩ := step_val HQ.out.1 HV0.out HQ.out.2.1 HQ.out.2.2 HNH.out.1 HNH.out.2
        have hnew := HST.out S' (by rw [H4.out.2.2.2.2.1, HU.out.2.2.1]) H4.out.2.2.2.2.2 k2
        have hset := H4.out.2.2.1.set_ j (.int .u32 (g : Int))
        rw [urow_set] at hset
        rw [← k1] at hnew
        refine ⟨⟨j, _, _, by omega, rfl, Lib.hid ⟨hnew, H4.out.2.1.far (p := ⟨w2.heap.size, j, none⟩) (by show w.heap.size ≠ w2.heap.size; omega) _, ?_, hset, H4.out.2.2.2.1.setCell (p := ⟨w2.heap.size, j, none⟩) (by show w.heap.size ≤ w2.heap.size; omega) _⟩⟩, by simp [intOf]⟩
        rw [urow_X]
        exact H4.out.1.far (p := ⟨w2.heap.size, j, none⟩) (by show w1.heap.size ≠ w2.heap.size; omega) _
    · obtain rfl : j = 0 := by omega
      go_wp2_with fail
      have hul := HJ.out.1.ul
      have hE := (Es.of_blk HJ.out.2.2.1 (by omega) HJ.out.1.ud)
      rw [hul] at hE
      have hE2 := hE.take (show n ≤ la + 1 by omega)
      refine (shr_any _ (u.take n) n _ s _ hE2 (by omega) hs32).mono ?_
      rintro e w3 ⟨Lr, rfl, hLr, dLr, vLr, bLr, hB3⟩
      obtain ⟨k1, k2⟩ := HJ.out.1.done HV.out.2.2.2 (Nat.le_of_lt HV.out.1) (by omega)
      rw [k2] at vLr
      have hq3 := HJ.out.2.2.2.1.below hB3 HJ.out.2.2.2.1.lt
      have hEq := Es.of_blk hq3 (by rw [HJ.out.1.ql]; omega) HJ.out.1.qd
      have hEr := Es.of_blk bLr (by rw [hLr]; omega) dLr
      rw [HJ.out.1.ql, show la - n + 1 = dj + 1 by have := HDJ.out; omega] at hEq
      rw [hLr] at hEr
      have HF := Lib.hid (And.intro hEq (And.intro hEr (And.intro k1 (And.intro vLr (bthen HJ.out.2.2.2.2 hB3 HJ.out.2.2.2.2.size)))))
      clear hEq hEr k1 k2 vLr hB3 hq3 hE hE2 hul hLr dLr bLr
      go_wp2_with fail
      go_ret2
      exact ⟨_, _, _, Q, _, _, _, Lr, rfl, ⟨Nat.le_refl _, HF.out.1, HF.out.2.2.1⟩, ⟨Nat.le_refl _, HF.out.2.1, HF.out.2.2.2.1⟩, HF.out.2.2.2.2⟩

end Go.Proofs.Ytifnbpkcnkfanaa
