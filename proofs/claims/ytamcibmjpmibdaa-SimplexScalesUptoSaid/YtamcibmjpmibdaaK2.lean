/-
Contracts of package nat: trim, Of, cmp, Clone, Norm, Cmp.
Contracts of nat.Add, Sub.
Contracts of nat.divDigit, shiftLeft, shiftRight.
The division of long numbers, plainly: the guess of a digit, the subtraction of a product, the step.
Contract of nat.guessDigit.
Contract of nat.Sub.
Contract of nat.Mul.
-/
import Derived.Test.YtamcibmjpmibdaaK1
import Derived.IntWalk
namespace Go.Proofs.Ytamcibmjpmibdaa
open Go.RowKit

theorem Es.take {w : World} {B n k : Nat} {A : Option Addr} {es : List Nat} (h : Es w B A n es) (hk : k ≤ n) : Es w B A k (es.take k) := by
  have hl := h.2.1.1
  refine ⟨⟨by rw [U32_length]; simp; omega, fun hp => ?_⟩, ⟨by simp; omega, by have := h.2.1.2; omega⟩, fun e he => h.2.2 e (List.mem_of_mem_take he)⟩
  obtain ⟨ad, rfl, hb, hc⟩ := h.1.2 (by omega)
  refine ⟨ad, rfl, hb, fun j u hu => hc j u ?_⟩
  simp only [U32, List.map_take] at hu ⊢
  rw [List.getElem?_take] at hu
  split at hu
  · exact hu
  · cases hu

/-- What trim answers: a part of the very slice, normal, of the same value. -/
def RetTrim (A : Option Addr) (n N : Nat) (w : World) (e : Ending) (w' : World) : Prop := ∃ k l, e = .returned (.slice A k k) ∧ k ≤ n ∧ Es w w.heap.size A k l ∧ Nrm 4294967296 l N ∧ w = w'
/-- A slice that reads as the normal digits of N; nothing that stood has changed. -/
def RetNat (w : World) (N : Nat) (e : Ending) (w' : World) : Prop := ∃ A k c l, e = .returned (.slice A k c) ∧ k ≤ c ∧ Es w' w'.heap.size A k l ∧ Nrm 4294967296 l N ∧ Below w.heap.size w w'

set_option maxHeartbeats 1000000 in
theorem trim_any (A : Option Addr) (ds : List Nat) (n c : Nat) (hc : n ≤ c) (w : World) (hr : Es w w.heap.size A n ds) :
    Calls Try.prog 62 #[.slice A n c] w (RetTrim A n (valB 4294967296 ds) w) := by
  have hle := hr.le
  have HR := Lib.hid hr; clear hr
  go_enter Try.func62, Try.ntmps62
  go_wp2_with fail
  go_loop [3] (fun i => ∃ k : Nat, k ≤ n ∧ i = .int .i64 k ∧ Hid (∀ j, k ≤ j → j < n → nth ds j = 0)) (fun i => (intOf i).toNat)
  case atStart => exact ⟨n, Nat.le_refl _, rfl, Lib.hid (fun j h1 h2 => absurd h2 (by omega))⟩
  case round =>
    obtain ⟨k, hk, rfl, HJ⟩ := hrel
    by_cases hk0 : 0 < k
    · obtain ⟨k, rfl⟩ : ∃ m, k = m + 1 := ⟨k - 1, by omega⟩
      obtain ⟨ad, rfl, hb, hcell⟩ := HR.out.at_ (show k < n by omega)
      have i1 : ((k + 1 : Nat) : Int) - 1 = (k : Int) := by omega
      by_cases hz : nth ds k = 0
      · have ht : ((nth ds k : Int) == 0) = true := by simp [hz]
        have HZ := Lib.hid hz; clear hz
        go_wp2_with fail
        refine ⟨⟨k, by omega, rfl, Lib.hid (fun j h1 h2 => ?_)⟩, by simp [intOf]⟩
        by_cases hj : j = k
        · subst hj; exact HZ.out
        · exact HJ.out j (by omega) h2
      · have ht : ((nth ds k : Int) == 0) = false := by simp [hz]
        have HZ := Lib.hid hz; clear hz
        go_wp2_with fail
        go_ret
        exact ⟨k + 1, ds.take (k + 1), rfl, by omega, HR.out.take (by omega), Nrm.mk_trim HR.out.2.2 (by have := HR.out.len; omega) (by have := HR.out.len; rw [← this]; exact HJ.out) (.inr HZ.out), rfl⟩
    · obtain rfl : k = 0 := by omega
      have h0 : ((0 : Nat) : Int) = 0 := rfl
      go_wp2_with fail
      go_ret
      exact ⟨0, ds.take 0, rfl, by omega, HR.out.take (by omega), Nrm.mk_trim HR.out.2.2 (by omega) (by have := HR.out.len; rw [← this]; exact HJ.out) (.inl rfl), rfl⟩

theorem cell_split (n : Nat) : n < 18446744073709551616 → valB 4294967296 [n % 4294967296, n / 4294967296] = n := by
  intro h; simp only [valB]; omega

set_option maxHeartbeats 1000000 in
theorem nof_any (n : Nat) (hn : n < 18446744073709551616) (w : World) : Calls Try.prog 81 #[.int .u64 n] w (RetNat w n) := by
  go_enter Try.func81, Try.ntmps81
  go_wp2_with fail
  have hE : Es (w.alloc (Obj.cells #[Value.int IntKind.u32 ((n : Int) % 4294967296), Value.int IntKind.u32 ((n : Int) / 4294967296)] 111)) (w.alloc (Obj.cells #[Value.int IntKind.u32 ((n : Int) % 4294967296), Value.int IntKind.u32 ((n : Int) / 4294967296)] 111)).heap.size (some ⟨w.heap.size, 0, none⟩) 2 [n % 4294967296, n / 4294967296] := by
    refine Es.of_blk (l := [n % 4294967296, n / 4294967296]) (t := 111) ?_ (by simp) ?_
    · have := Blk.new w 111 (urow [n % 4294967296, n / 4294967296])
      simpa [urow, U32] using this
    · intro e he
      simp at he
      omega
  refine (trim_any _ _ 2 2 (Nat.le_refl _) _ hE).mono ?_
  rintro e w1 ⟨k, l, rfl, hk, hl, hN, rfl⟩
  rw [cell_split n hn] at hN
  have H1 := Lib.hid hl; clear hl hE
  have H2 := Lib.hid hN; clear hN
  go_wp2_with fail
  go_ret
  exact ⟨_, k, k, l, rfl, Nat.le_refl _, H1.out, H2.out, al _ _⟩

/-- -1, 0 or 1. -/
def cmpI (a b : Int) : Int := if a < b then -1 else if b < a then 1 else 0
def cmpN (a b : Nat) : Int := if a < b then -1 else if b < a then 1 else 0

set_option maxHeartbeats 1000000 in
theorem cmpInt_any (a b : Int) (w : World) : Calls Try.prog 48 #[.int .i64 a, .int .i64 b] w fun e w' => e = .returned (.int .i64 (cmpI a b)) ∧ w = w' := by
  by_cases h1 : a < b
  · rw [show cmpI a b = -1 by simp [cmpI, h1]]
    go_enter Try.func48, Try.ntmps48
    go_wp2
    go_ret
    exact ⟨rfl, rfl⟩
  · by_cases h2 : b < a
    · rw [show cmpI a b = 1 by simp [cmpI, h1, h2]]
      go_enter Try.func48, Try.ntmps48
      go_wp2
      go_ret
      exact ⟨rfl, rfl⟩
    · rw [show cmpI a b = 0 by simp [cmpI, h1, h2]]
      go_enter Try.func48, Try.ntmps48
      go_wp2
      go_ret
      exact ⟨rfl, rfl⟩

set_option maxHeartbeats 1000000 in
theorem cmpU32_any (a b : Nat) (w : World) : Calls Try.prog 80 #[.int .u32 a, .int .u32 b] w fun e w' => e = .returned (.int .i64 (cmpN a b)) ∧ w = w' := by
  by_cases h1 : a < b
  · rw [show cmpN a b = -1 by simp [cmpN, h1]]
    go_enter Try.func80, Try.ntmps80
    go_wp2
    go_ret
    exact ⟨rfl, rfl⟩
  · by_cases h2 : b < a
    · rw [show cmpN a b = 1 by simp [cmpN, h1, h2]]
      go_enter Try.func80, Try.ntmps80
      go_wp2
      go_ret
      exact ⟨rfl, rfl⟩
    · rw [show cmpN a b = 0 by simp [cmpN, h1, h2]]
      go_enter Try.func80, Try.ntmps80
      go_wp2
      go_ret
      exact ⟨rfl, rfl⟩

theorem info_u32 : (Try.prog.info? 111).map (fun i => (i.zero, i.size, i.bytes)) = some (some (.int .u32 0), 1, 4) := by kernel_rfl
/-- A row of the call's own that reads ds. -/
def RetOwn (w : World) (n : Nat) (ds : List Nat) (e : Ending) (w' : World) : Prop := ∃ v, e = .returned v ∧ w'.ownsRow w.heap.size 111 1 v n (U32 ds) ∧ Below w.heap.size w w'

set_option maxHeartbeats 1000000 in
theorem clone_any (A : Option Addr) (ds : List Nat) (n c : Nat) (hn : n ≤ 1000000) (w : World) (hr : Es w w.heap.size A n ds) :
    Calls Try.prog 97 #[.slice A n c] w (RetOwn w n ds) := by
  have HR := Lib.hid hr; clear hr
  cases A with
  | none =>
    have h0 : n = 0 := by
      rcases Nat.eq_zero_or_pos n with h | h
      · exact h
      · obtain ⟨_, h1, _⟩ := HR.out.1.2 h; cases h1
    subst h0
    have hd : ds = [] := List.eq_nil_of_length_eq_zero HR.out.len.symm
    subst hd
    have hq := fun W => Lib.run_eql_slice_nil (P := Try.prog) W 39 111 none 0 c 0 0 Try.underlying39
    go_enter Try.func97, Try.ntmps97
    go_wp2_with fail
    go_ret
    exact ⟨_, rfl, own_nil _ _ _, Below.refl _ _⟩
  | some ad =>
    have hq := fun W => Lib.run_eql_slice_nil (P := Try.prog) W 39 111 (some ad) n c 0 0 Try.underlying39
    obtain ⟨i, hi, hz, hs1, hby⟩ := info_parts info_u32
    go_enter Try.func97, Try.ntmps97
    go_wp2_with (at_builtin; refine wpList_append_any _ rfl (.tmp 5) (.tmp 6) 39 rfl w.heap.size 111 i _ 1 4 Try.underlying39 hi hz hs1 hby rfl (by omega) _ 0 [] rfl (own_empty w _) w.heap.size (some ad) n c (U32 ds) rfl (HR.out.1.alloc (Nat.le_refl _) _) (one_U32 ds) (by simp only [maxLen]; omega) (by omega) (by simp) ?_; intro v1 w1 hown1 hg1 hat1; have H1 := Lib.hid hown1; have H2 := Lib.hid hg1; clear hown1 hg1 hat1)
    go_ret
    refine ⟨v1, rfl, ?_, ?_⟩
    · have := H1.out
      simpa using this
    · exact (al w _).grown H2.out (by simp) (fun k hk => by cases hk; exact Nat.le_refl _)

set_option maxHeartbeats 1000000 in
theorem norm_any (A : Option Addr) (ds : List Nat) (n c : Nat) (hc : n ≤ c) (hn : n ≤ 1000000) (w : World) (hr : Es w w.heap.size A n ds) :
    Calls Try.prog 85 #[.slice A n c] w fun e w' => ∃ k l, RetOwn w k l e w' ∧ k ≤ n ∧ k = l.length ∧ Nrm 4294967296 l (valB 4294967296 ds) := by
  have HR := Lib.hid hr; clear hr
  have key : Calls Try.prog 85 #[.slice A n c] w fun e w' => Hid (∃ k l, RetOwn w k l e w' ∧ k ≤ n ∧ k = l.length ∧ Nrm 4294967296 l (valB 4294967296 ds)) := by
    go_enter Try.func85, Try.ntmps85
    go_wp2_with fail
    refine (trim_any A ds n c hc _ HR.out).mono ?_
    rintro e w1 ⟨k, l, rfl, hk, hl, hN, rfl⟩
    have H1 := Lib.hid hl; clear hl
    have H2 := Lib.hid hN; clear hN
    go_wp2_with fail
    refine (clone_any A l k k (by omega) _ H1.out).mono ?_
    rintro e w2 ⟨v, rfl, hown, hb⟩
    have H3 := Lib.hid hown; clear hown
    have H4 := Lib.hid hb; clear hb
    go_wp2_with fail
    go_ret
    exact Lib.hid ⟨k, l, ⟨v, rfl, H3.out, H4.out⟩, hk, H1.out.len, H2.out⟩
  exact key

set_option maxHeartbeats 2000000 in
theorem ncmp_any (A : Option Addr) (ds : List Nat) (n c : Nat) (hc : n ≤ c) (B : Option Addr) (fs : List Nat) (m d : Nat) (hd : m ≤ d) (w : World) (hr : Es w w.heap.size A n ds) (hs : Es w w.heap.size B m fs) :
    Calls Try.prog 49 #[.slice A n c, .slice B m d] w fun e w' => e = .returned (.int .i64 (cmpN (valB 4294967296 ds) (valB 4294967296 fs))) ∧ Below w.heap.size w w' := by
  have HR := Lib.hid hr; clear hr
  have HS := Lib.hid hs; clear hs
  go_enter Try.func49, Try.ntmps49
  go_wp2_with fail
  refine (trim_any A ds n c hc _ HR.out).mono ?_
  rintro e w1 ⟨k, l, rfl, hk, hl, hN, rfl⟩
  have H1 := Lib.hid hl; clear hl
  have N1 := Lib.hid hN; clear hN
  go_wp2_with fail
  refine (trim_any B fs m d hd _ HS.out).mono ?_
  rintro e w2 ⟨j, f, rfl, hj, hf, hM, rfl⟩
  have H2 := Lib.hid hf; clear hf
  have N2 := Lib.hid hM; clear hM
  have hk2 := H1.out.le
  have hj2 := H2.out.le
  by_cases hkj : k = j
  · have hb : ((k : Int) != (j : Int)) = false := by simp [hkj]
    obtain rfl : k = j := hkj
    go_wp2_with fail
    go_loopw [5] (fun i wr => ∃ a : Int, -1 ≤ a ∧ a < k ∧ i = .int .i64 a ∧ Hid (l.drop (a + 1).toNat = f.drop (a + 1).toNat ∧ Below w.heap.size w wr)) (fun i _ => (intOf i + 1).toNat)
    case atStart =>
      refine ⟨(k : Int) - 1, by omega, by omega, rfl, Lib.hid ⟨?_, Below.refl _ _⟩⟩
      have h1 := H1.out.len
      have h2 := H2.out.len
      rw [show ((k : Int) - 1 + 1).toNat = k by omega, List.drop_of_length_le (by omega), List.drop_of_length_le (by omega)]
    case round =>
      obtain ⟨a, ha, ha2, rfl, HJ⟩ := hrel
      by_cases ha3 : 0 ≤ a
      · obtain ⟨a, rfl⟩ := Int.eq_ofNat_of_zero_le ha3
        obtain ⟨ad, rfl, hb1, hcell⟩ := (H1.out.below HJ.out.2).at_ (show a < k by omega)
        obtain ⟨ad2, rfl, hb2, hcell2⟩ := (H2.out.below HJ.out.2).at_ (show a < k by omega)
        by_cases hne : nth l a = nth f a
        · have hq : ((nth l a : Int) != (nth f a : Int)) = false := by simp [hne]
          have HNE := Lib.hid hne; clear hne
          go_wp2_with fail
          go_quiet (fail)
          go_wp2_with fail
          refine ⟨⟨(a : Int) - 1, by omega, by omega, by go_num, Lib.hid ⟨?_, below_drewN HJ.out.2 _⟩⟩, by simp [intOf]⟩
          have h0 := HJ.out.1
          have h1 : a < l.length := by have := H1.out.len; omega
          have h2 : a < f.length := by have := H2.out.len; omega
          rw [show ((a : Int) + 1).toNat = a + 1 by omega] at h0
          rw [show ((a : Int) - 1 + 1).toNat = a by omega, List.drop_eq_getElem_cons h1, List.drop_eq_getElem_cons h2, h0, ← nth_eq h1, ← nth_eq h2, HNE.out]
        · have hq : ((nth l a : Int) != (nth f a : Int)) = true := by simp; omega
          have HNE := Lib.hid hne; clear hne
          go_wp2_with fail
          go_quiet (fail)
          go_wp2_with fail
          go_quiet ((go_at_call 80; exact quiet_add_left (cmpU32_any _ _ _)))
          go_wp2_with fail
          go_ret
          refine ⟨ret_int ?_, below_drewN (below_drewN HJ.out.2 _) _⟩
          have h0 := HJ.out.1
          rw [show ((a : Int) + 1).toNat = a + 1 by omega] at h0
          have h1 := H1.out.len
          have h2 := H2.out.len
          rw [← N1.out.1, ← N2.out.1]
          have hne := HNE.out
          rcases Nat.lt_or_gt_of_ne hne with h | h
          · have := val_cmp (b := 4294967296) N1.out.2.1 (by omega) (by omega) h0 h
            simp [cmpN, h, this]
          · have := val_cmp (b := 4294967296) N2.out.2.1 (by omega) (by omega) h0.symm h
            simp [cmpN, h, this, Nat.not_lt_of_gt h, Nat.not_lt_of_gt this]
      · have ha4 : a = -1 := by omega
        subst ha4
        go_wp2_with fail
        go_ret
        refine ⟨ret_int ?_, HJ.out.2⟩
        have h0 := HJ.out.1
        simp only [show ((-1 : Int) + 1).toNat = 0 from rfl, List.drop_zero] at h0
        have h1 := N1.out.1
        have h2 := N2.out.1
        rw [h0] at h1
        simp [cmpN, ← h1, ← h2]
  · have hb : ((k : Int) != (j : Int)) = true := by simp; omega
    go_wp2_with fail
    refine (cmpInt_any _ _ _).mono ?_
    rintro e w3 ⟨rfl, rfl⟩
    have HKJ := Lib.hid hkj; clear hkj
    go_wp2_with fail
    go_ret
    refine ⟨ret_int ?_, Below.refl _ _⟩
    have h1 := H1.out.len
    have h2 := H2.out.len
    rcases Nat.lt_or_gt_of_ne HKJ.out with h | h
    · have := N1.out.len_lt N2.out (by omega) (by omega)
      simp [cmpN, cmpI, h, this]
    · have := N2.out.len_lt N1.out (by omega) (by omega)
      simp [cmpN, cmpI, h, this, Nat.not_lt_of_gt h, Nat.not_lt_of_gt this]

end Go.Proofs.Ytamcibmjpmibdaa
namespace Go.Proofs.Ytamcibmjpmibdaa
open Go.RowKit

theorem mk_nat (n : Nat) (hn : n ≤ 60000000000000) (W : World) : (Instr.makeSlice 39 (.int .i64 (n : Int)) (.int .i64 (n : Int))).run Try.prog W = .ok (.slice (some ⟨W.heap.size, 0, none⟩) n n) (W.alloc (.cells (urow (zer n)) 111)) := by
  obtain ⟨i, hi, hz, hs, hb⟩ := info_parts info_u32
  have h := run_make_rowN (P := Try.prog) 39 111 i (.int .u32 0) Try.underlying39 hi hz .i64 .i64 n n (Nat.le_refl _) (by rw [hb]; omega) (by omega) W
  rw [hs, Nat.mul_one] at h
  rw [h, zer, ← urow_make]; rfl

/-- The sum so far. -/
def AddInv (l f L : List Nat) (i c : Nat) : Prop := L.length = l.length + 1 ∧ (∀ d ∈ L, d < 4294967296) ∧ valB 4294967296 (L.take i) + 4294967296 ^ i * c = valB 4294967296 (l.take i) + valB 4294967296 (f.take i) ∧ c ≤ 1
theorem take_set_lt {L : List Nat} {i x : Nat} (h : i < L.length) : (L.set i x).take (i + 1) = L.take i ++ [x] := by
  rw [List.take_succ_eq_append_getElem (by simp; exact h)]
  simp only [List.getElem_set_self, List.take_set]
  rw [List.set_eq_of_length_le (by simp; omega)]
theorem mem_set {L : List Nat} {i x b : Nat} (h : ∀ d ∈ L, d < b) (hx : x < b) : ∀ d ∈ L.set i x, d < b := by
  intro d hd
  rcases List.mem_or_eq_of_mem_set hd with h1 | h1
  · exact h d h1
  · omega
theorem valB_snoc (b : Nat) (l : List Nat) (x : Nat) : valB b (l ++ [x]) = valB b l + b ^ l.length * x := by rw [valB_append, valB_single]
theorem AddInv.step {l f L : List Nat} {i c s : Nat} (h : AddInv l f L i c) (hi : i < l.length) (hl : ∀ d ∈ l, d < 4294967296) (hf : ∀ d ∈ f, d < 4294967296)
    (hs : s = c + nth l i + (if i < f.length then nth f i else 0)) : AddInv l f (L.set i (s % 4294967296)) (i + 1) (s / 4294967296) ∧ s < 8589934592 := by
  obtain ⟨h1, h2, h3, h4⟩ := h
  have d1 := hl _ (nth_mem hi)
  have d2 : (if i < f.length then nth f i else 0) < 4294967296 := by
    split
    · rename_i hlt; exact hf _ (nth_mem hlt)
    · omega
  have e1 := valB_take (b := 4294967296) hi
  have e2 : valB 4294967296 (f.take (i + 1)) = valB 4294967296 (f.take i) + 4294967296 ^ i * (if i < f.length then nth f i else 0) := by
    split
    · rename_i hlt; exact valB_take hlt
    · rw [List.take_of_length_le (by omega), List.take_of_length_le (by omega)]; simp
  have e3 : valB 4294967296 ((L.set i (s % 4294967296)).take (i + 1)) = valB 4294967296 (L.take i) + 4294967296 ^ i * (s % 4294967296) := by
    rw [take_set_lt (by omega), valB_snoc, List.length_take, Nat.min_eq_left (by omega)]
  refine ⟨⟨by rw [List.length_set]; exact h1, mem_set h2 (Nat.mod_lt _ (by omega)), ?_, by omega⟩, by omega⟩
  rw [e1, e2, e3, Nat.pow_succ]
  generalize hx : (if i < f.length then nth f i else 0) = x at *
  have hsx : 4294967296 ^ i * (s % 4294967296) + 4294967296 ^ i * 4294967296 * (s / 4294967296) = 4294967296 ^ i * s := by
    rw [Nat.mul_assoc, ← Nat.mul_add, Nat.mod_add_div]
  rw [Nat.add_assoc, hsx, hs, Nat.mul_add, Nat.mul_add]
  omega

set_option maxHeartbeats 4000000 in
theorem add_any (A : Option Addr) (ds : List Nat) (n c : Nat) (hc : n ≤ c) (B : Option Addr) (fs : List Nat) (m d : Nat) (hd : m ≤ d) (w : World) (hr : Es w w.heap.size A n ds) (hs : Es w w.heap.size B m fs) (hn : n ≤ 40000000000000) (hm : m ≤ 40000000000000) :
    Calls Try.prog 94 #[.slice A n c, .slice B m d] w (RetNat w (valB 4294967296 ds + valB 4294967296 fs)) := by
  have HR := Lib.hid hr; clear hr
  have HS := Lib.hid hs; clear hs
  go_enter Try.func94, Try.ntmps94
  go_wp2_with fail
  refine (trim_any A ds n c hc _ HR.out).mono ?_
  rintro e w1 ⟨k, l, rfl, hk, hl, hN, rfl⟩
  have H1 := Lib.hid hl; clear hl
  have N1 := Lib.hid hN; clear hN
  go_wp2_with fail
  refine (trim_any B fs m d hd _ HS.out).mono ?_
  rintro e w2 ⟨j, f, rfl, hj, hf, hM, rfl⟩
  have H2 := Lib.hid hf; clear hf
  have N2 := Lib.hid hM; clear hM
  go_upto_if 16 with (fail)
  go_cut [0, 1] (fun s0 s1 wx => ∃ (A' B' : Option Addr) (k' j' : Nat) (l' f' : List Nat), s0 = .slice A' k' k' ∧ s1 = .slice B' j' j' ∧ (j' ≤ k' ∧ k' ≤ 40000000000000) ∧ Hid (Es w w.heap.size A' k' l' ∧ Es w w.heap.size B' j' f' ∧ valB 4294967296 l' + valB 4294967296 f' = valB 4294967296 ds + valB 4294967296 fs) ∧ wx = w)
  case first =>
    by_cases hlt : k < j
    · go_wp2_with fail
      go_meet
      exact ⟨B, A, j, k, f, l, rfl, rfl, by omega, Lib.hid ⟨H2.out, H1.out, by rw [N1.out.1, N2.out.1, Nat.add_comm]⟩, rfl⟩
    · go_wp2_with fail
      go_meet
      exact ⟨A, B, k, j, l, f, rfl, rfl, by omega, Lib.hid ⟨H1.out, H2.out, by rw [N1.out.1, N2.out.1]⟩, rfl⟩
  case rest =>
    obtain ⟨A', B', k', j', l', f', rfl, rfl, ⟨hjk, hk6⟩, HI, rfl⟩ := hcut
    clear H1 N1 H2 N2 hk hj k j l f HR HS
    have hmk := mk_nat (k' + 1) (by omega)
    simp only [Int.natCast_add, Int.natCast_one] at hmk
    go_wp2_with fail
    clear hmk
    go_loopw [6, 7, 25] (fun cv _ i wr => ∃ (i' cr : Nat) (L : List Nat), i' ≤ k' ∧ cr ≤ 1 ∧ i = .int .i64 i' ∧ cv = .int .u64 cr ∧ Hid (AddInv l' f' L i' cr ∧ Blk wr wc.heap.size 111 (urow L) ∧ Below wc.heap.size wc wr)) (fun _ _ i _ => k' - (intOf i).toNat)
    case atStart =>
      refine ⟨0, 0, zer (k' + 1), Nat.zero_le _, by omega, rfl, rfl, Lib.hid ⟨⟨?_, ?_, ?_, by omega⟩, Blk.new _ _ _, al _ _⟩⟩
      · rw [zer_length, HI.out.1.len]
      · intro d hd
        have := List.eq_of_mem_replicate hd
        omega
      · simp [valB]
    case round =>
      obtain ⟨i, cr, L, hi, hcr, rfl, rfl, HJ⟩ := hrel
      by_cases hlt : i < k'
      · obtain ⟨ad, rfl, hb1, hcell⟩ := (HI.out.1.below HJ.out.2.2).at_ hlt
        have hli : i < l'.length := by have := HI.out.1.len; omega
        have hd1 := HI.out.1.lt hlt
        have hL : i < L.length := by rw [HJ.out.1.1]; omega
        have cR : wr.cell? ⟨wc.heap.size, i, none⟩ = some (.int .u32 (nth L i : Int)) := by rw [HJ.out.2.1.cell, urow_get hL]
        have fR : wr.frozen? ⟨wc.heap.size, i, none⟩ = false := HJ.out.2.1.frozen i
        clear hL
        by_cases hf : i < j'
        · obtain ⟨ad2, rfl, hb2, hcell2⟩ := (HI.out.2.1.below HJ.out.2.2).at_ hf
          have hfi : i < f'.length := by have := HI.out.2.1.len; omega
          have hd2 := HI.out.2.1.lt hf
          have hst := Lib.hid (HJ.out.1.step hli HI.out.1.2.2 HI.out.2.1.2.2 (s := cr + nth l' i + nth f' i) (by rw [if_pos hfi]))
          go_wp2_with fail
          refine ⟨⟨i + 1, (cr + nth l' i + nth f' i) / 4294967296, L.set i ((cr + nth l' i + nth f' i) % 4294967296), by omega, hst.out.1.2.2.2, by go_num, by simp, Lib.hid ⟨hst.out.1, ?_, HJ.out.2.2.setCell (Nat.le_refl _) _⟩⟩, by simp [intOf]; omega⟩
          have := HJ.out.2.1.set_ i (.int .u32 (((cr + nth l' i + nth f' i) % 4294967296 : Nat) : Int))
          rw [urow_set] at this
          simpa using this
        · have hfi : ¬ i < f'.length := by have := HI.out.2.1.len; omega
          have hst := Lib.hid (HJ.out.1.step hli HI.out.1.2.2 HI.out.2.1.2.2 (s := cr + nth l' i) (by rw [if_neg hfi]; omega))
          go_wp2_with fail
          refine ⟨⟨i + 1, (cr + nth l' i) / 4294967296, L.set i ((cr + nth l' i) % 4294967296), by omega, hst.out.1.2.2.2, by go_num, by simp, Lib.hid ⟨hst.out.1, ?_, HJ.out.2.2.setCell (Nat.le_refl _) _⟩⟩, by simp [intOf]; omega⟩
          have := HJ.out.2.1.set_ i (.int .u32 (((cr + nth l' i) % 4294967296 : Nat) : Int))
          rw [urow_set] at this
          simpa using this
      · obtain rfl : i = k' := by omega
        have hL : i < L.length := by rw [HJ.out.1.1, HI.out.1.len]; omega
        have cR : wr.cell? ⟨wc.heap.size, i, none⟩ = some (.int .u32 (nth L i : Int)) := by rw [HJ.out.2.1.cell, urow_get hL]
        have fR : wr.frozen? ⟨wc.heap.size, i, none⟩ = false := HJ.out.2.1.frozen i
        have HL := Lib.hid hL; clear hL
        go_wp2_with fail
        have hset := HJ.out.2.1.set_ i (.int .u32 ((cr : Nat) : Int))
        rw [urow_set] at hset
        have hlen : (L.set i cr).length = i + 1 := by rw [List.length_set, HJ.out.1.1, HI.out.1.len]
        have hE := Es.of_blk hset (by omega) (mem_set HJ.out.1.2.1 (by omega))
        rw [hlen] at hE
        have hv : valB 4294967296 (L.set i cr) = valB 4294967296 ds + valB 4294967296 fs := by
          have h1 : (L.set i cr).take (i + 1) = L.set i cr := List.take_of_length_le (by omega)
          rw [← h1, take_set_lt HL.out, valB_snoc, List.length_take, Nat.min_eq_left (by have := HL.out; omega), HJ.out.1.2.2.1, ← HI.out.2.2, List.take_of_length_le (by rw [HI.out.1.len]; omega), List.take_of_length_le (by have := HI.out.2.1.len; omega)]
        have hB := HJ.out.2.2.setCell (p := ⟨wc.heap.size, i, none⟩) (Nat.le_refl _) (.int .u32 (cr : Int))
        refine (trim_any _ _ (i + 1) (i + 1) (Nat.le_refl _) _ hE).mono ?_
        rintro e w3 ⟨k2, l2, rfl, hk2, hl2, hN2, rfl⟩
        rw [hv] at hN2
        have HE := Lib.hid hl2
        have HN := Lib.hid hN2
        have HBB := Lib.hid hB
        clear hl2 hN2 hB hE hset hv hlen
        go_wp2_with fail
        go_ret
        exact ⟨_, k2, k2, l2, rfl, Nat.le_refl _, HE.out, HN.out, HBB.out⟩

end Go.Proofs.Ytamcibmjpmibdaa
namespace Go.Proofs.Ytamcibmjpmibdaa
open Go.RowKit

/-- A row with spare cells behind it. -/
def urowX (L : List Nat) (X : List Value) : Array Value := (U32 L ++ X).toArray
theorem urowX_get {L : List Nat} {X : List Value} {k : Nat} (h : k < L.length) : (urowX L X)[k]? = some (.int .u32 (nth L k : Int)) := by
  simp only [urowX, List.getElem?_toArray]
  rw [List.getElem?_append_left (by rw [U32_length]; exact h)]
  simp [U32, nth, List.getD, h]
theorem urowX_set (L : List Nat) (X : List Value) (k x : Nat) (h : k < L.length) : (urowX L X).setIfInBounds k (.int .u32 (x : Int)) = urowX (L.set k x) X := by
  simp only [urowX, List.setIfInBounds_toArray]
  rw [List.set_append_left _ _ (by rw [U32_length]; exact h)]
  simp [U32, List.map_set]
theorem urow_X (L : List Nat) : urow L = urowX L [] := by simp [urow, urowX]
theorem Es.of_blkX {w : World} {g t : Nat} {l : List Nat} {X : List Value} (h : Blk w g t (urowX l X)) (hl : l.length ≤ 9223372036854775807) (hb : ∀ e ∈ l, e < 4294967296) : Es w w.heap.size (some ⟨g, 0, none⟩) l.length l :=
  ⟨⟨by simp [U32_length], fun _ => ⟨_, rfl, h.lt, fun j u hu => by
    have e : (Addr.add ⟨g, 0, none⟩ j) = ⟨g, j, none⟩ := by unfold Addr.add; split <;> simp_all
    rw [e, h.cell]
    simp only [urowX, List.getElem?_toArray]
    rw [List.getElem?_append_left ((List.getElem?_eq_some_iff.1 hu).1)]
    exact hu⟩⟩, ⟨rfl, hl⟩, hb⟩
theorem own_rowX {w : World} {base : Nat} {t : TypeId} {n : Nat} {v : Value} {L : List Nat} (h : w.ownsRow base t 1 v n (U32 L)) (hn : 0 < n) :
    ∃ g c X, v = .slice (some ⟨g, 0, none⟩) n c ∧ base ≤ g ∧ n ≤ c ∧ Blk w g t (urowX L X) ∧ L.length = n := by
  have hl := h.1
  rw [U32_length] at hl
  rcases h.2 with ⟨_, h0⟩ | ⟨g, cap, cur, rfl, hb, hh, hc, _, _, htk⟩
  · omega
  · refine ⟨g, cap, cur.toList.drop n, rfl, hb, hc, ?_, by omega⟩
    rw [Nat.mul_one] at htk
    have : cur = urowX L (cur.toList.drop n) := by
      simp only [urowX]
      rw [← htk, List.take_append_drop]
    unfold Blk
    rw [hh]
    exact congrArg (fun z => some (Obj.cells z t (0, 0))) this

/-- r * 2^32 + x as Go writes it. -/
theorem join32 (r x : Nat) (hr : r < 4294967296) (hx : x < 4294967296) : bits .or .u64 ((r : Int) * 4294967296) (x : Int) = ((r * 4294967296 + x : Nat) : Int) := by
  have h1 : ((r : Int) * 4294967296) = ((r * 4294967296 : Nat) : Int) := by simp
  rw [h1, u64_or_nat _ _ (by omega) (by omega), nat_join 32 _ _ (by omega) (by omega)]

/-- The quotient so far, from the top down to digit i. -/
def DivInv (p : Nat) (L0 L : List Nat) (d i r : Nat) : Prop := L.length = L0.length ∧ (∀ x ∈ L, x < p) ∧ r < d ∧ L.take i = L0.take i ∧ valB p (L.drop i) * d + r = valB p (L0.drop i)
theorem nth_of_take {L M : List Nat} {i k : Nat} (h : L.take i = M.take i) (hk : k < i) : nth L k = nth M k := by
  rw [← nth_take (l := L) hk, h, nth_take hk]
theorem DivInv.step {p : Nat} {L0 L : List Nat} {d i r s : Nat} (h : DivInv p L0 L d (i + 1) r) (hi : i < L0.length) (hp : ∀ x ∈ L0, x < p) (hs : s = r * p + nth L0 i) :
    DivInv p L0 (L.set i (s / d)) d i (s % d) ∧ s / d < p ∧ s < d * p := by
  obtain ⟨h1, h2, h3, h4, h5⟩ := h
  have d1 := hp _ (nth_mem hi)
  have hsd : s < d * p := by
    have : (r + 1) * p ≤ d * p := Nat.mul_le_mul_right p h3
    rw [Nat.add_mul] at this
    omega
  have hq : s / d < p := Nat.div_lt_of_lt_mul hsd
  refine ⟨⟨by rw [List.length_set]; exact h1, mem_set h2 hq, Nat.mod_lt _ (by omega), ?_, ?_⟩, hq, hsd⟩
  · rw [List.take_set, List.set_eq_of_length_le (by simp; omega)]
    have := congrArg (List.take i) h4
    rw [List.take_take, List.take_take, Nat.min_eq_left (by omega)] at this
    exact this
  · rw [valB_drop (by rw [List.length_set]; omega), valB_drop hi, nth_set (by omega), if_pos rfl]
    have e1 : (L.set i (s / d)).drop (i + 1) = L.drop (i + 1) := by
      rw [List.drop_set, if_pos (by omega)]
    rw [e1, ← h5]
    have e2 := Nat.div_add_mod s d
    have e3 : (s / d + p * valB p (L.drop (i + 1))) * d + s % d = d * (s / d) + s % d + p * (valB p (L.drop (i + 1)) * d) := by
      rw [Nat.add_mul, Nat.mul_comm (s / d) d, Nat.mul_assoc]; omega
    rw [e3, e2, hs, Nat.mul_add, Nat.mul_comm r p]
    omega

theorem quo_nat (s d : Nat) (h : s / d < 4294967296) : IntKind.u64.wrap ((s : Int).tdiv (d : Int)) % 4294967296 = ((s / d : Nat) : Int) := by
  have h1 : (s : Int).tdiv (d : Int) = ((s / d : Nat) : Int) := rfl
  rw [h1]
  simp only [IntKind.wrap, IntKind.bits, IntKind.signed]
  generalize s / d = q at *
  simp
  omega
theorem rem_nat (s d : Nat) : (s : Int).tmod (d : Int) = ((s % d : Nat) : Int) := by
  rw [Int.tmod_eq_emod_of_nonneg (by omega)]; simp

/-- divDigit's answer: the remainder; the row holds the quotient. -/
def RetDig (w : World) (g : Nat) (t : TypeId) (L0 : List Nat) (X : List Value) (d : Nat) (e : Ending) (w' : World) : Prop :=
  e = .returned (.int .u32 ((valB 4294967296 L0 % d : Nat) : Int)) ∧ ∃ L, L.length = L0.length ∧ (∀ x ∈ L, x < 4294967296) ∧ valB 4294967296 L = valB 4294967296 L0 / d ∧ Blk w' g t (urowX L X) ∧ w.grownBy w' (some g)

set_option maxHeartbeats 4000000 in
theorem divDigit_any (g : Nat) (L0 : List Nat) (X : List Value) (n c d : Nat) (w : World) (hn : n = L0.length) (hb : Blk w g 111 (urowX L0 X)) (hd0 : 0 < d) (hd : d < 4294967296) (hL : ∀ x ∈ L0, x < 4294967296) (hnn : n ≤ 1000000) :
    Calls Try.prog 90 #[.slice (some ⟨g, 0, none⟩) n c, .int .u32 d] w (RetDig w g 111 L0 X d) := by
  have HN := Lib.hid hn; clear hn
  have HL := Lib.hid hL; clear hL
  have HB := Lib.hid hb; clear hb
  go_enter Try.func90, Try.ntmps90
  go_wp2_with fail
  go_loopw [5, 6] (fun rv i wr => ∃ (i' r : Nat) (L : List Nat), i' ≤ n ∧ r < d ∧ i = .int .i64 ((i' : Int) - 1) ∧ rv = .int .u64 r ∧ Hid (DivInv 4294967296 L0 L d i' r ∧ Blk wr g 111 (urowX L X) ∧ w.grownBy wr (some g))) (fun _ i _ => (intOf i + 1).toNat)
  case atStart =>
    refine ⟨n, 0, L0, Nat.le_refl _, hd0, rfl, rfl, Lib.hid ⟨⟨rfl, HL.out, hd0, rfl, ?_⟩, HB.out, World.grownBy.refl w _⟩⟩
    rw [HN.out, List.drop_length]; simp [valB]
  case round =>
    obtain ⟨i, r, L, hi, hr, rfl, rfl, HJ⟩ := hrel
    by_cases h0 : 0 < i
    · obtain ⟨i, rfl⟩ : ∃ m, i = m + 1 := ⟨i - 1, by omega⟩
      have i0 : ((i + 1 : Nat) : Int) - 1 = (i : Int) := by omega
      rw [i0]
      have hli : i < L0.length := by have := HN.out; omega
      have hLl : i < L.length := by rw [HJ.out.1.1]; exact hli
      have hx : nth L i = nth L0 i := nth_of_take HJ.out.1.2.2.2.1 (by omega)
      have cR : wr.cell? ⟨g, i, none⟩ = some (.int .u32 (nth L0 i : Int)) := by rw [HJ.out.2.1.cell, urowX_get hLl, hx]
      have fR : wr.frozen? ⟨g, i, none⟩ = false := HJ.out.2.1.frozen i
      have hd1 := HL.out _ (nth_mem hli)
      have hst := Lib.hid (HJ.out.1.step hli HL.out rfl)
      have HLl := Lib.hid hLl
      clear hx hli hLl
      have hj := Lib.hid (join32 r (nth L0 i) (by omega) hd1)
      go_wp2_with fail
      rw [hj.out, quo_nat _ _ hst.out.2.1, rem_nat]
      refine ⟨⟨i, _, _, by omega, hst.out.1.2.2.1, rfl, rfl, Lib.hid ⟨hst.out.1, ?_, only_setCell HJ.out.2.2 (.inl rfl) _⟩⟩, by simp [intOf]⟩
      have := HJ.out.2.1.set_ i (.int .u32 (((r * 4294967296 + nth L0 i) / d : Nat) : Int))
      rwa [urowX_set _ _ _ _ HLl.out] at this
    · obtain rfl : i = 0 := by omega
      go_wp2_with fail
      go_ret
      have h1 := HJ.out.1
      obtain ⟨h1, h2, h3, h4, h5⟩ := HJ.out.1
      simp only [List.drop_zero] at h5
      have e1 : valB 4294967296 L = valB 4294967296 L0 / d := by
        rw [← h5, Nat.add_comm, Nat.add_mul_div_right _ _ hd0, Nat.div_eq_of_lt h3, Nat.zero_add]
      have e2 : r = valB 4294967296 L0 % d := by
        rw [← h5, Nat.add_comm, Nat.add_mul_mod_self_right, Nat.mod_eq_of_lt h3]
      refine ⟨ret_int ?_, L, h1, h2, e1, HJ.out.2.1, HJ.out.2.2⟩
      rw [e2]

/-- shiftLeft: one digit more. -/
def ShlInv (p q : Nat) (l L : List Nat) (i cr : Nat) : Prop := L.length = l.length + 1 ∧ (∀ d ∈ L, d < p) ∧ cr < q ∧ valB p (L.take i) + p ^ i * cr = valB p (l.take i) * q
theorem ShlInv.step {p q : Nat} {l L : List Nat} {i cr s : Nat} (h : ShlInv p q l L i cr) (hi : i < l.length) (hl : ∀ d ∈ l, d < p) (hs : s = cr + nth l i * q) : ShlInv p q l (L.set i (s % p)) (i + 1) (s / p) := by
  obtain ⟨h1, h2, h3, h4⟩ := h
  have d1 := hl _ (nth_mem hi)
  have hp : 0 < p := by omega
  have hsq : s < p * q := by
    have : (nth l i + 1) * q ≤ p * q := Nat.mul_le_mul_right q d1
    rw [Nat.add_mul] at this
    omega
  refine ⟨by rw [List.length_set]; exact h1, mem_set h2 (Nat.mod_lt _ hp), Nat.div_lt_of_lt_mul hsq, ?_⟩
  rw [take_set_lt (by omega), valB_snoc, List.length_take, Nat.min_eq_left (by omega), valB_take hi, Nat.add_mul, ← h4, Nat.pow_succ]
  have e1 : p ^ i * (s % p) + p ^ i * p * (s / p) = p ^ i * s := by rw [Nat.mul_assoc, ← Nat.mul_add, Nat.mod_add_div]
  rw [Nat.add_assoc, e1, hs, Nat.mul_add, Nat.mul_assoc]
  omega
theorem ShlInv.done {p q : Nat} {l L : List Nat} {cr : Nat} (h : ShlInv p q l L l.length cr) : valB p (L.set l.length cr) = valB p l * q := by
  obtain ⟨h1, h2, h3, h4⟩ := h
  have e : (L.set l.length cr).take (l.length + 1) = L.set l.length cr := List.take_of_length_le (by rw [List.length_set]; omega)
  rw [← e, take_set_lt (by omega), valB_snoc, List.length_take, Nat.min_eq_left (by omega), h4, List.take_length]

/-- The carry and the next digit shifted do not overlap. -/
theorem shl_join (cr x s : Nat) (hs : s < 32) (hc : cr < 2 ^ s) (hx : x < 4294967296) : bits .or .u64 (cr : Int) (IntKind.u64.wrap ((x : Int) * 2 ^ s)) = ((cr + x * 2 ^ s : Nat) : Int) := by
  have h2 : 2 ^ s ≤ 2 ^ 31 := two_pow_le (by omega)
  have h3 : x * 2 ^ s ≤ 4294967295 * 2147483648 := Nat.mul_le_mul (by omega) h2
  have e1 : IntKind.u64.wrap ((x : Int) * 2 ^ s) = ((x * 2 ^ s : Nat) : Int) := by
    rw [← cast_pow2, ← Int.natCast_mul]
    simp only [IntKind.wrap, IntKind.bits, IntKind.signed]
    generalize x * 2 ^ s = y at *
    simp
    omega
  rw [e1, u64_or_nat _ _ (by omega) (by omega), Nat.or_comm, nat_join s _ _ (Nat.mul_mod_left _ _) hc, Nat.add_comm]

/-- A new row, whole. -/
def RetRow (w : World) (t : TypeId) (n N : Nat) (e : Ending) (w' : World) : Prop :=
  ∃ L, e = .returned (.slice (some ⟨w.heap.size, 0, none⟩) n n) ∧ L.length = n ∧ (∀ d ∈ L, d < 4294967296) ∧ valB 4294967296 L = N ∧ Blk w' w.heap.size t (urow L) ∧ Below w.heap.size w w'

set_option maxHeartbeats 4000000 in
theorem shl_any (A : Option Addr) (l : List Nat) (n c s : Nat) (w : World) (hr : Es w w.heap.size A n l) (hn : n ≤ 1000000) (hs : s < 32) :
    Calls Try.prog 104 #[.slice A n c, .int .u64 s] w (RetRow w 111 (n + 1) (valB 4294967296 l * 2 ^ s)) := by
  have HR := Lib.hid hr; clear hr
  have hmk := mk_nat (n + 1) (by omega)
  simp only [Int.natCast_add, Int.natCast_one] at hmk
  have hq31 : 2 ^ s ≤ 2147483648 := two_pow_le (m := 31) (by omega)
  have hq0 := pow2_pos s
  go_enter Try.func104, Try.ntmps104
  go_wp2_with fail
  clear hmk
  go_loopw [6, 7, 14] (fun cv _ i wr => ∃ (i' cr : Nat) (L : List Nat), i' ≤ n ∧ cr < 4294967296 ∧ i = .int .i64 i' ∧ cv = .int .u64 cr ∧ Hid (ShlInv 4294967296 (2 ^ s) l L i' cr ∧ Blk wr w.heap.size 111 (urow L) ∧ Below w.heap.size w wr)) (fun _ _ i _ => n - (intOf i).toNat)
  case atStart =>
    refine ⟨0, 0, zer (n + 1), Nat.zero_le _, by omega, rfl, rfl, Lib.hid ⟨⟨?_, ?_, hq0, ?_⟩, Blk.new _ _ _, al _ _⟩⟩
    · rw [zer_length, HR.out.len]
    · intro d hd
      have := List.eq_of_mem_replicate hd
      omega
    · simp [valB]
  case round =>
    obtain ⟨i, cr, L, hi, hcr, rfl, rfl, HJ⟩ := hrel
    by_cases hlt : i < n
    · obtain ⟨ad, rfl, hb1, hcell⟩ := (HR.out.below HJ.out.2.2).at_ hlt
      have hli : i < l.length := by have := HR.out.len; omega
      have hd1 := HR.out.lt hlt
      have hL : i < L.length := by rw [HJ.out.1.1]; omega
      have cR : wr.cell? ⟨w.heap.size, i, none⟩ = some (.int .u32 (nth L i : Int)) := by rw [HJ.out.2.1.cell, urow_get hL]
      have fR : wr.frozen? ⟨w.heap.size, i, none⟩ = false := HJ.out.2.1.frozen i
      clear hL
      have hst := Lib.hid (HJ.out.1.step hli HR.out.2.2 rfl)
      have hj := Lib.hid (shl_join cr (nth l i) s hs HJ.out.1.2.2.1 hd1)
      go_wp2_with fail
      rw [hj.out]
      generalize cr + nth l i * 2 ^ s = sm at *
      have hset := HJ.out.2.1.set_ i (.int .u32 ((sm % 4294967296 : Nat) : Int))
      rw [urow_set] at hset
      refine ⟨⟨i + 1, sm / 4294967296, _, by omega, by have := hst.out.2.2.1; omega, by go_num, by simp, Lib.hid ⟨hst.out, ?_, HJ.out.2.2.setCell (Nat.le_refl _) _⟩⟩, by simp [intOf]; omega⟩
      simpa using hset
    · obtain rfl : i = n := by omega
      have hL : i < L.length := by rw [HJ.out.1.1, HR.out.len]; omega
      have cR : wr.cell? ⟨w.heap.size, i, none⟩ = some (.int .u32 (nth L i : Int)) := by rw [HJ.out.2.1.cell, urow_get hL]
      have fR : wr.frozen? ⟨w.heap.size, i, none⟩ = false := HJ.out.2.1.frozen i
      clear hL
      go_wp2_with fail
      go_ret
      have hset := HJ.out.2.1.set_ i (.int .u32 (cr : Int))
      rw [urow_set] at hset
      have h1 := HJ.out.1
      have hv : valB 4294967296 (L.set i cr) = valB 4294967296 l * 2 ^ s := by
        rw [HR.out.len] at h1 ⊢
        exact h1.done
      exact ⟨L.set i cr, rfl, by rw [List.length_set, HJ.out.1.1, HR.out.len], mem_set HJ.out.1.2.1 hcr, hv, hset, HJ.out.2.2.setCell (Nat.le_refl _) _⟩

/-- shiftRight, from the top down. -/
def ShrInv (p q : Nat) (l L : List Nat) (i : Nat) : Prop := L.length = l.length ∧ (∀ d ∈ L, d < p) ∧ valB p (L.drop i) = valB p (l.drop i) / q
theorem shr_digit {p q x y V : Nat} (hq : 0 < q) (hx : x < p) (hpq : p % q = 0) (hy : V % p = y) : (x + p * V) / q = (y * p + x) / q % p + p * (V / q) := by
  have hp : 0 < p := by omega
  obtain ⟨m, hm⟩ : ∃ m, p = q * m := ⟨p / q, by rw [Nat.mul_comm, Nat.div_mul_cancel (Nat.dvd_of_mod_eq_zero hpq)]⟩
  have hVR : V % q = y % q := by rw [← hy, hm, Nat.mod_mul_right_mod]
  have e1 : x + p * V = (x + p * (V % q)) + p * (V / q) * q := by
    have h : V = q * (V / q) + V % q := (Nat.div_add_mod V q).symm
    have h1 : p * V = p * (q * (V / q)) + p * (V % q) := by rw [← Nat.mul_add]; exact congrArg (p * ·) h
    rw [h1, Nat.mul_comm q, ← Nat.mul_assoc]
    omega
  have e2 : y * p + x = (x + p * (y % q)) + p * (y / q) * q := by
    have h : y = q * (y / q) + y % q := (Nat.div_add_mod y q).symm
    have h1 : p * y = p * (q * (y / q)) + p * (y % q) := by rw [← Nat.mul_add]; exact congrArg (p * ·) h
    rw [Nat.mul_comm y p, h1, Nat.mul_comm q, ← Nat.mul_assoc]
    omega
  have hlt : (x + p * (y % q)) / q < p := by
    apply Nat.div_lt_of_lt_mul
    have : y % q < q := Nat.mod_lt _ hq
    have h3 : p * (y % q + 1) ≤ p * q := Nat.mul_le_mul_left p this
    rw [Nat.mul_add] at h3
    rw [Nat.mul_comm q p]
    omega
  rw [e1, Nat.add_mul_div_right _ _ hq, hVR, e2, Nat.add_mul_div_right _ _ hq, Nat.add_mul_mod_self_left, Nat.mod_eq_of_lt hlt]
theorem valB_drop_mod {p : Nat} {l : List Nat} {i : Nat} (hl : ∀ d ∈ l, d < p) : valB p (l.drop i) % p = nth l i := by
  rcases Nat.lt_or_ge i l.length with h | h
  · rw [valB_drop h, Nat.add_mul_mod_self_left, Nat.mod_eq_of_lt (hl _ (nth_mem h))]
  · rw [List.drop_of_length_le h]
    simp [valB, nth, List.getD, List.getElem?_eq_none h]
theorem ShrInv.step {p q : Nat} {l L : List Nat} {i : Nat} (h : ShrInv p q l L (i + 1)) (hi : i < l.length) (hl : ∀ d ∈ l, d < p) (hq : 0 < q) (hpq : p % q = 0) :
    ShrInv p q l (L.set i ((nth l (i + 1) * p + nth l i) / q % p)) i := by
  obtain ⟨h1, h2, h3⟩ := h
  have d1 := hl _ (nth_mem hi)
  refine ⟨by rw [List.length_set]; exact h1, mem_set h2 (Nat.mod_lt _ (by omega)), ?_⟩
  rw [valB_drop (by rw [List.length_set]; omega), valB_drop hi, nth_set (by omega), if_pos rfl]
  have e1 : (L.set i ((nth l (i + 1) * p + nth l i) / q % p)).drop (i + 1) = L.drop (i + 1) := by
    rw [List.drop_set, if_pos (by omega)]
  rw [e1, h3, shr_digit hq d1 hpq (valB_drop_mod hl)]
theorem shr_val (h x : Nat) (hx : x < 4294967296) : bits .or .u64 (IntKind.u64.wrap ((h : Int) * 4294967296)) (x : Int) = ((h % 4294967296 * 4294967296 + x : Nat) : Int) := by
  have e1 : IntKind.u64.wrap ((h : Int) * 4294967296) = ((h % 4294967296 * 4294967296 : Nat) : Int) := by
    simp only [IntKind.wrap, IntKind.bits, IntKind.signed]
    simp
    omega
  rw [e1, u64_or_nat _ _ (by omega) (by omega), nat_join 32 _ _ (by omega) (by omega)]

set_option maxHeartbeats 4000000 in
theorem shr_any (A : Option Addr) (l : List Nat) (n c s : Nat) (w : World) (hr : Es w w.heap.size A n l) (hn : n ≤ 1000000) (hs : s < 32) :
    Calls Try.prog 108 #[.slice A n c, .int .u64 s] w (RetRow w 111 n (valB 4294967296 l / 2 ^ s)) := by
  have HR := Lib.hid hr; clear hr
  have hmk := mk_nat n (by omega)
  go_enter Try.func108, Try.ntmps108
  go_wp2_with fail
  clear hmk
  go_loopw [6, 7] (fun hv i wr => ∃ (i' h : Nat) (L : List Nat), i' ≤ n ∧ h < 18446744073709551616 ∧ i = .int .i64 ((i' : Int) - 1) ∧ hv = .int .u64 h ∧ Hid (h % 4294967296 = nth l i' ∧ ShrInv 4294967296 (2 ^ s) l L i' ∧ Blk wr w.heap.size 111 (urow L) ∧ Below w.heap.size w wr)) (fun _ i _ => (intOf i + 1).toNat)
  case atStart =>
    refine ⟨n, 0, zer n, Nat.le_refl _, by omega, rfl, rfl, Lib.hid ⟨?_, ⟨?_, ?_, ?_⟩, Blk.new _ _ _, al _ _⟩⟩
    · rw [HR.out.len]; simp [nth, List.getD]
    · rw [zer_length, HR.out.len]
    · intro d hd
      have := List.eq_of_mem_replicate hd
      omega
    · rw [List.drop_of_length_le (by rw [zer_length]; exact Nat.le_refl _), List.drop_of_length_le (by rw [HR.out.len]; exact Nat.le_refl _)]
      simp [valB]
  case round =>
    obtain ⟨i, h, L, hi, hh, rfl, rfl, HJ⟩ := hrel
    by_cases h0 : 0 < i
    · obtain ⟨i, rfl⟩ : ∃ m, i = m + 1 := ⟨i - 1, by omega⟩
      have i0 : ((i + 1 : Nat) : Int) - 1 = (i : Int) := by omega
      rw [i0]
      obtain ⟨ad, rfl, hb1, hcell⟩ := (HR.out.below HJ.out.2.2.2).at_ (show i < n by omega)
      have hli : i < l.length := by have := HR.out.len; omega
      have hd1 := HR.out.lt (show i < n by omega)
      have hL : i < L.length := by rw [HJ.out.2.1.1]; omega
      have cR : wr.cell? ⟨w.heap.size, i, none⟩ = some (.int .u32 (nth L i : Int)) := by rw [HJ.out.2.2.1.cell, urow_get hL]
      have fR : wr.frozen? ⟨w.heap.size, i, none⟩ = false := HJ.out.2.2.1.frozen i
      clear hL
      have hst := Lib.hid (HJ.out.2.1.step hli HR.out.2.2 (pow2_pos s) (Nat.mod_eq_zero_of_dvd (Nat.pow_dvd_pow 2 (show s ≤ 32 by omega))))
      have hj := Lib.hid (shr_val h (nth l i) hd1)
      go_wp2_with fail
      rw [hj.out, HJ.out.1]
      have hy : nth l (i + 1) < 4294967296 := by rw [← HJ.out.1]; exact Nat.mod_lt _ (by omega)
      have hset := HJ.out.2.2.1.set_ i (.int .u32 (((nth l (i + 1) * 4294967296 + nth l i) / 2 ^ s % 4294967296 : Nat) : Int))
      rw [urow_set] at hset
      have hst2 := hst.out
      obtain ⟨sm, hsm⟩ : ∃ sm, sm = nth l (i + 1) * 4294967296 + nth l i := ⟨_, rfl⟩
      rw [← hsm] at hset hst2 ⊢
      refine ⟨⟨i, sm, _, by omega, by omega, rfl, rfl, Lib.hid ⟨by omega, hst2, ?_, HJ.out.2.2.2.setCell (Nat.le_refl _) _⟩⟩, by simp [intOf]⟩
      have e : ((sm / 2 ^ s % 4294967296 : Nat) : Int) = (sm : Int) / 2 ^ s % 4294967296 := by simp
      rw [← e]
      exact hset
    · obtain rfl : i = 0 := by omega
      go_wp2_with fail
      go_ret
      obtain ⟨h1, h2, h3⟩ := HJ.out.2.1
      exact ⟨L, rfl, by rw [h1, HR.out.len], h2, by simpa using h3, HJ.out.2.2.1, HJ.out.2.2.2⟩

end Go.Proofs.Ytamcibmjpmibdaa
namespace Go.Proofs.Ytamcibmjpmibdaa

theorem nth_mid {P S T : List Nat} {j i : Nat} (hj : P.length = j) (hi : i < S.length) : nth (P ++ S ++ T) (j + i) = nth S i := by
  subst hj
  rw [nth_eq (by simp; omega), nth_eq hi, List.getElem_append_left (by simp; omega), List.getElem_append_right (by omega)]
  congr 1
  omega
theorem set_mid {P S T : List Nat} {j i x : Nat} (hj : P.length = j) (hi : i < S.length) : (P ++ S ++ T).set (j + i) x = P ++ S.set i x ++ T := by
  subst hj
  rw [List.set_append_left _ _ (by simp; omega), List.set_append_right _ _ (by omega)]
  congr 3
  omega

/-- The two top digits of a number of n digits (n at least 2). -/
theorem top2 {p : Nat} {l : List Nat} {n : Nat} (hn : 2 ≤ n) (hl : l.length = n) (hd : ∀ d ∈ l, d < p) :
    ∃ r, r < p ^ (n - 2) ∧ valB p l = (nth l (n - 1) * p + nth l (n - 2)) * p ^ (n - 2) + r := by
  refine ⟨valB p (l.take (n - 2)), ?_, ?_⟩
  · have := valB_lt (b := p) (l := l.take (n - 2)) (fun d h => hd d (List.mem_of_mem_take h))
    rwa [List.length_take, Nat.min_eq_left (by omega)] at this
  · have h1 := valB_take (b := p) (l := l) (k := n - 1) (by omega)
    have h2 := valB_take (b := p) (l := l) (k := n - 2) (by omega)
    rw [show n - 1 + 1 = n by omega, List.take_of_length_le (by omega)] at h1
    rw [show n - 2 + 1 = n - 1 by omega] at h2
    rw [h1, h2, show n - 1 = (n - 2) + 1 by omega, Nat.pow_succ, Nat.add_mul, Nat.mul_comm (nth l (n - 2 + 1)) p, Nat.mul_comm (p ^ (n - 2)) p]
    rw [Nat.mul_assoc p, Nat.mul_assoc p, Nat.mul_comm (p ^ (n - 2)) (nth l (n - 2 + 1)), Nat.mul_comm (nth l (n - 2)) (p ^ (n - 2))]
    omega
theorem top3 {p : Nat} {l : List Nat} {n : Nat} (hn : 2 ≤ n) (hl : l.length = n + 1) (hd : ∀ d ∈ l, d < p) :
    ∃ r, r < p ^ (n - 2) ∧ valB p l = ((nth l n * p + nth l (n - 1)) * p + nth l (n - 2)) * p ^ (n - 2) + r := by
  obtain ⟨r, hr, h1⟩ := top2 (p := p) (l := l.take n) hn (by simp; omega) (fun d h => hd d (List.mem_of_mem_take h))
  refine ⟨r, hr, ?_⟩
  have h2 := valB_take (b := p) (l := l) (k := n) (by omega)
  rw [List.take_of_length_le (by omega), h1, nth_take (by omega), nth_take (by omega)] at h2
  rw [h2]
  have e : p ^ n = p * p * p ^ (n - 2) := by
    rw [show n = (n - 2) + 1 + 1 by omega, Nat.pow_succ, Nat.pow_succ, show n - 2 + 1 + 1 - 2 = n - 2 by omega, Nat.mul_comm (p ^ (n - 2)) p, Nat.mul_assoc p, Nat.mul_comm (p ^ (n - 2)) p, Nat.mul_assoc]
  rw [e]
  have e2 : ((nth l n * p + nth l (n - 1)) * p + nth l (n - 2)) * p ^ (n - 2) = (nth l (n - 1) * p + nth l (n - 2)) * p ^ (n - 2) + p * p * p ^ (n - 2) * nth l n := by
    rw [Nat.add_mul, Nat.add_mul, Nat.add_mul, Nat.add_mul, Nat.mul_comm (p * p * p ^ (n - 2)) (nth l n), Nat.mul_assoc (nth l n) p p, Nat.mul_assoc (nth l n) (p * p)]
    omega
  omega

/-- What is known of the guess g with rest r, while q is the true digit. -/
structure Guess (p U V v1 v2 top u2 P q g r : Nat) : Prop where
  eq : g * v1 + r = top
  ge : q ≤ g
/-- The frame of one guess: U is (top, u2, ..), V is (v1, v2, ..), P the weight of the digits left out. -/
structure Knuth (p U V v1 v2 top u2 P q : Nat) : Prop where
  hu : top * p * P + u2 * P ≤ U ∧ U < (top * p + u2 + 1) * P
  hv : (v1 * p + v2) * P ≤ V ∧ V < (v1 * p + v2 + 1) * P
  hq : q * V ≤ U ∧ U < (q + 1) * V
  hqp : q < p
  hP : 0 < P
  hv2 : v2 < p
  hu2 : u2 < p
  hv1 : v1 < p ∧ p ≤ 2 * v1
  hp : 1 < p

theorem Knuth.ge0 {p U V v1 v2 top u2 P q : Nat} (k : Knuth p U V v1 v2 top u2 P q) : q ≤ top / v1 := by
  have h0 : 0 < v1 := by have := k.hv1; have := k.hp; omega
  rw [Nat.le_div_iff_mul_le h0]
  -- q * v1 * (p * P) ≤ q * V ≤ U < (top + 1) * (p * P)
  have hpP : 0 < p * P := Nat.mul_pos (by have := k.hp; omega) k.hP
  have h1 : q * ((v1 * p + v2) * P) ≤ q * V := Nat.mul_le_mul_left q k.hv.1
  have h2 : q * v1 * (p * P) ≤ q * ((v1 * p + v2) * P) := by
    rw [Nat.mul_assoc q v1]; apply Nat.mul_le_mul_left; rw [← Nat.mul_assoc]; apply Nat.mul_le_mul_right; omega
  have h3 : (top * p + u2 + 1) * P ≤ (top + 1) * (p * P) := by
    rw [← Nat.mul_assoc]; apply Nat.mul_le_mul_right; rw [Nat.add_mul]; have := k.hu2; omega
  have h4 : q * v1 * (p * P) < (top + 1) * (p * P) := by have := k.hq.1; have := k.hu.2; omega
  have h5 : q * v1 < top + 1 := Nat.lt_of_mul_lt_mul_right h4
  omega
theorem Knuth.g0 {p U V v1 v2 top u2 P q : Nat} (k : Knuth p U V v1 v2 top u2 P q) : top / v1 ≤ p + 1 := by
  have h0 : 0 < v1 := by have := k.hv1; have := k.hp; omega
  have hP := k.hP
  -- top * p * P ≤ U < (q + 1) * V ≤ p * V < p * (v1 * p + v2 + 1) * P, so top < v1 * p + v2 + 1 <= (v1 + 1) * p
  have h1 : (q + 1) * V ≤ p * V := Nat.mul_le_mul_right V k.hqp
  have h2 : p * V ≤ p * ((v1 * p + v2 + 1) * P) := Nat.mul_le_mul_left p (Nat.le_of_lt k.hv.2)
  have h3 : top * p * P < p * ((v1 * p + v2 + 1) * P) := by have := k.hu.1; have := k.hq.2; omega
  have h4 : top * (p * P) < (v1 * p + v2 + 1) * (p * P) := by
    rw [← Nat.mul_assoc, ← Nat.mul_assoc, Nat.mul_comm (v1 * p + v2 + 1) p, Nat.mul_assoc p]; exact h3
  have h5 : top < v1 * p + v2 + 1 := Nat.lt_of_mul_lt_mul_right h4
  have h6 : top < (p + 2) * v1 := by
    have := k.hv2
    have := k.hv1
    rw [Nat.add_mul, Nat.mul_comm p v1]
    omega
  have := (Nat.div_lt_iff_lt_mul h0).2 h6
  omega
/-- A guess that is too great: the digit is below it. -/
theorem Knuth.down {p U V v1 v2 top u2 P q g r : Nat} (k : Knuth p U V v1 v2 top u2 P q) (h : g * v1 + r = top) (hb : r * p + u2 < g * v2) : q < g := by
  rcases Nat.lt_or_ge q g with h1 | h1
  · exact h1
  exfalso
  have e1 : g * ((v1 * p + v2) * P) ≤ q * V := Nat.le_trans (Nat.mul_le_mul_left g k.hv.1) (Nat.mul_le_mul_right V h1)
  have e2 : (top * p + u2 + 1) * P ≤ g * ((v1 * p + v2) * P) := by
    rw [← Nat.mul_assoc]
    apply Nat.mul_le_mul_right
    rw [Nat.mul_add, ← Nat.mul_assoc, ← h, Nat.add_mul]
    omega
  have := k.hq.1
  have := k.hu.2
  omega
/-- The end by the second digit: at most one too great. -/
theorem Knuth.end1 {p U V v1 v2 top u2 P q g r : Nat} (k : Knuth p U V v1 v2 top u2 P q) (h : g * v1 + r = top) (hb : g * v2 ≤ r * p + u2) (hg : g < p) : g ≤ q + 1 := by
  rcases Nat.lt_or_ge (q + 1) g with h1 | h1
  · exfalso
    have hv1 : 0 < v1 := by have := k.hv1; have := k.hp; omega
    -- g * V < g * (v1 p + v2) P + g P <= U + p P <= U + V
    have e1 : g * V ≤ g * ((v1 * p + v2 + 1) * P) := Nat.mul_le_mul_left g (Nat.le_of_lt k.hv.2)
    have e2 : g * ((v1 * p + v2 + 1) * P) = g * (v1 * p + v2) * P + g * P := by
      rw [← Nat.mul_assoc, Nat.mul_add g, Nat.mul_one, Nat.add_mul]
    have e3 : g * (v1 * p + v2) * P ≤ U := by
      refine Nat.le_trans ?_ k.hu.1
      rw [← Nat.add_mul]
      apply Nat.mul_le_mul_right
      rw [Nat.mul_add, ← Nat.mul_assoc, ← h, Nat.add_mul]
      omega
    have e4 : g * P < p * P := Nat.mul_lt_mul_of_pos_right hg k.hP
    have e5 : p * P ≤ V := by
      refine Nat.le_trans ?_ k.hv.1
      apply Nat.mul_le_mul_right
      have : 1 * p ≤ v1 * p := Nat.mul_le_mul_right p hv1
      omega
    have e6 : (q + 2) * V ≤ g * V := Nat.mul_le_mul_right V h1
    have e7 : (q + 2) * V = (q + 1) * V + V := by rw [Nat.add_mul, Nat.add_mul]; omega
    have := k.hq.2
    omega
  · exact h1
/-- The end by the rest: the guess is the digit. -/
theorem Knuth.end2 {p U V v1 v2 top u2 P q g r : Nat} (k : Knuth p U V v1 v2 top u2 P q) (h : g * v1 + r = top) (hr : p ≤ r) (hg : g ≤ p) : g ≤ q := by
  rcases Nat.lt_or_ge q g with h1 | h1
  · exfalso
    -- g V < g (v1 + 1) p P <= (top - p + g) p P <= top p P <= U
    have e1 : g * V ≤ g * ((v1 * p + v2 + 1) * P) := Nat.mul_le_mul_left g (Nat.le_of_lt k.hv.2)
    have e2 : g * ((v1 * p + v2 + 1) * P) ≤ g * (v1 + 1) * (p * P) := by
      rw [← Nat.mul_assoc, ← Nat.mul_assoc]
      apply Nat.mul_le_mul_right
      rw [Nat.mul_assoc g (v1 + 1)]
      apply Nat.mul_le_mul_left
      rw [Nat.add_mul]
      have := k.hv2
      omega
    have e3 : g * (v1 + 1) * (p * P) ≤ top * (p * P) := by
      apply Nat.mul_le_mul_right
      rw [Nat.mul_add]
      omega
    have e4 : top * (p * P) = top * p * P := by rw [Nat.mul_assoc]
    have e5 : (q + 1) * V ≤ g * V := Nat.mul_le_mul_right V h1
    have := k.hq.2
    have := k.hu.1
    omega
  · exact h1

end Go.Proofs.Ytamcibmjpmibdaa
namespace Go.Proofs.Ytamcibmjpmibdaa
open Go.RowKit

theorem knuth_of {S v : List Nat} {m : Nat} (hS : S.length = m + 3) (hv : v.length = m + 2) (dS : ∀ d ∈ S, d < 4294967296) (dv : ∀ d ∈ v, d < 4294967296) (hv1 : 4294967296 ≤ 2 * nth v (m + 1)) (hU : valB 4294967296 S < 4294967296 * valB 4294967296 v) :
    Knuth 4294967296 (valB 4294967296 S) (valB 4294967296 v) (nth v (m + 1)) (nth v m) (nth S (m + 2) * 4294967296 + nth S (m + 1)) (nth S m) (4294967296 ^ m) (valB 4294967296 S / valB 4294967296 v) := by
  obtain ⟨r1, hr1, e1⟩ := top3 (p := 4294967296) (l := S) (n := m + 2) (by omega) hS dS
  obtain ⟨r2, hr2, e2⟩ := top2 (p := 4294967296) (l := v) (n := m + 2) (by omega) hv dv
  simp only [show m + 2 - 1 = m + 1 by omega, show m + 2 - 2 = m by omega] at e1 e2 hr1 hr2
  have hP : 0 < 4294967296 ^ m := Nat.pow_pos (by omega)
  generalize 4294967296 ^ m = P at *
  have a1 := dv _ (nth_mem (show m + 1 < v.length by omega))
  have a2 := dv _ (nth_mem (show m < v.length by omega))
  have a3 := dS _ (nth_mem (show m < S.length by omega))
  have hV : 0 < valB 4294967296 v := by
    rcases Nat.eq_zero_or_pos (valB 4294967296 v) with h | h
    · rw [h] at hU; omega
    · exact h
  refine ⟨⟨?_, ?_⟩, ⟨?_, ?_⟩, ⟨?_, ?_⟩, ?_, hP, a2, a3, ⟨a1, hv1⟩, by omega⟩
  · rw [e1, Nat.add_mul (_ * _) _ P]; omega
  · rw [e1, Nat.add_mul (_ + _) 1 P]; omega
  · rw [e2]; omega
  · rw [e2, Nat.add_mul (_ + _) 1 P]; omega
  · exact Nat.div_mul_le_self _ _
  · rw [Nat.add_mul, Nat.one_mul, Nat.mul_comm]; exact Nat.lt_mul_div_succ _ hV
  · exact Nat.div_lt_of_lt_mul (by rw [Nat.mul_comm]; exact hU)

theorem wrap_div (a b : Nat) (h : a < 18446744073709551616) : IntKind.u64.wrap ((a : Int) / (b : Int)) = ((a / b : Nat) : Int) := by
  have h1 : a / b ≤ a := Nat.div_le_self a b
  rw [show (a : Int) / (b : Int) = ((a / b : Nat) : Int) by simp]
  generalize a / b = y at *
  simp only [IntKind.wrap, IntKind.bits, IntKind.signed]
  simp
  omega
theorem vint_eq {k : IntKind} {a b : Int} (h : a = b) : Value.int k a = Value.int k b := by rw [h]
/-- The guess is the digit or one more. -/
def RetGuess (w : World) (q : Nat) (e : Ending) (w' : World) : Prop := ∃ g : Nat, e = .returned (.int .u64 g) ∧ q ≤ g ∧ g ≤ q + 1 ∧ g < 4294967296 ∧ Below w.heap.size w w'

set_option maxHeartbeats 4000000 in
theorem guess_any (A B : Option Addr) (S v : List Nat) (N n a b c d : Nat) (w : World) (hr : Es w w.heap.size A N S) (hs : Es w w.heap.size B n v) (hN : N = n + 1) (hn : n = a + 1) (ha : a = b + 1) (hv1 : 4294967296 ≤ 2 * nth v a) (hU : valB 4294967296 S < 4294967296 * valB 4294967296 v) (hm : n ≤ 1000000) :
    Calls Try.prog 105 #[.slice A N c, .slice B n d] w (RetGuess w (valB 4294967296 S / valB 4294967296 v)) := by
  have HK := Lib.hid (show Knuth 4294967296 (valB 4294967296 S) (valB 4294967296 v) (nth v a) (nth v b) (nth S n * 4294967296 + nth S a) (nth S b) (4294967296 ^ b) (valB 4294967296 S / valB 4294967296 v) by
    subst ha hn hN
    exact knuth_of hr.len.symm hs.len.symm hr.2.2 hs.2.2 hv1 hU)
  clear hU
  obtain ⟨ad, rfl, hb0, c0⟩ := hr.at_ (show n < N by omega)
  obtain ⟨ad', e, _, c1⟩ := hr.at_ (show a < N by omega)
  cases e
  obtain ⟨ad', e, _, c2⟩ := hr.at_ (show b < N by omega)
  cases e
  obtain ⟨bd, rfl, hb1, c3⟩ := hs.at_ (show a < n by omega)
  obtain ⟨bd', e, _, c4⟩ := hs.at_ (show b < n by omega)
  cases e
  have l0 := hr.lt (show n < N by omega)
  have l1 := hr.lt (show a < N by omega)
  have l2 := hr.lt (show b < N by omega)
  have l3 := hs.lt (show a < n by omega)
  have l4 := hs.lt (show b < n by omega)
  clear hr hs
  generalize nth S n = u0 at *
  generalize nth S a = u1 at *
  generalize nth S b = u2 at *
  generalize nth v a = v1 at *
  generalize nth v b = v2 at *
  generalize valB 4294967296 S / valB 4294967296 v = q at *
  generalize valB 4294967296 S = U at *
  generalize valB 4294967296 v = V at *
  have i0 : IntKind.i64.wrap ((n : Int) - 1) = (a : Int) := by rw [IntWalk.i64_in _ (by omega)]; omega
  have i1 : IntKind.i64.wrap ((n : Int) - 2) = (b : Int) := by rw [IntWalk.i64_in _ (by omega)]; omega
  have i2 : (n : Int) - 1 = (a : Int) := by omega
  have i3 : (n : Int) - 2 = (b : Int) := by omega
  have n1 : n < N := by omega
  have n2 : a < n := by omega
  have n3 : b < a := by omega
  have n4 : (n : Int) < (N : Int) := by omega
  have n5 : (a : Int) < (N : Int) := by omega
  have n6 : (a : Int) < (n : Int) := by omega
  have n7 : (b : Int) < (n : Int) := by omega
  have n8 : (b : Int) < (N : Int) := by omega
  clear hN hn ha
  have hj := Lib.hid (join32 u0 u1 l0 l1)
  go_enter Try.func105, Try.ntmps105
  go_wp2_with fail
  go_quiet (fail)
  rw [hj.out]
  obtain ⟨top, htop⟩ : ∃ top, top = u0 * 4294967296 + u1 := ⟨_, rfl⟩
  rw [← htop]
  have HK := Lib.hid (show Knuth 4294967296 U V v1 v2 top u2 (4294967296 ^ b) q by rw [htop]; exact HK.out)
  have htl : top < 18446744073709551616 := by omega
  have HT := Lib.hid htop; clear htop hj
  have hv1p : 0 < v1 := by omega
  obtain ⟨w0, hw0⟩ : ∃ w0 : World, w0 = w.drewN nq := ⟨_, rfl⟩
  rw [← hw0]
  have e0 : ∀ p : Addr, w0.cell? p = w.cell? p := by rw [hw0]; intro p; rfl
  have HBw := Lib.hid (show Below w.heap.size w w0 by rw [hw0]; exact below_drewN (Below.refl _ _) _)
  rw [← e0] at c0 c1 c2 c3 c4
  clear e0 hw0 c0 c1
  go_wp2_with fail
  have HC := Lib.hid (And.intro c2 (And.intro c3 c4)); clear c2 c3 c4
  go_loopw [7, 8] (fun gv rv wr => ∃ g r : Nat, gv = .int .u64 g ∧ rv = .int .u64 r ∧ g ≤ 4294967297 ∧ r < 4294967296 ∧ Hid (g * v1 + r = top ∧ q ≤ g ∧ (∀ p : Addr, wr.cell? p = w0.cell? p) ∧ Below w.heap.size w wr)) (fun gv _ _ => (intOf gv).toNat)
  case atStart =>
    refine ⟨top / v1, top % v1, by rw [wrap_div _ _ htl], by simp, HK.out.g0, ?_, Lib.hid ⟨?_, HK.out.ge0, fun _ => rfl, HBw.out⟩⟩
    · have := Nat.mod_lt top hv1p; omega
    · rw [Nat.mul_comm]; exact Nat.div_add_mod _ _
  case round =>
    obtain ⟨g, r, rfl, rfl, hg, hr, HJ⟩ := hrel
    have d2 : wr.cell? (ad.add b) = some (.int .u32 u2) := by rw [HJ.out.2.2.1]; exact HC.out.1
    have d3 : wr.cell? (bd.add a) = some (.int .u32 v1) := by rw [HJ.out.2.2.1]; exact HC.out.2.1
    have d4 : wr.cell? (bd.add b) = some (.int .u32 v2) := by rw [HJ.out.2.2.1]; exact HC.out.2.2
    have hj := Lib.hid (join32 r u2 hr l2)
    by_cases hbig : 4294967295 < g
    · have hgd : decide ((4294967295 : Int) < (g : Int)) = true := by simp; omega
      have hq : q < g := by have := HK.out.hqp; omega
      have hg1 : 1 ≤ g := by omega
      have HQ := Lib.hid hq; clear hq
      by_cases hrr : 4294967295 < r + v1
      · go_wp2_with fail
        go_quiet (fail)
        go_wp2_with fail
        go_ret
        have hnew : (g - 1) * v1 + (r + v1) = top := by
          have h1 := HJ.out.1
          obtain ⟨g', rfl⟩ : ∃ g', g = g' + 1 := ⟨g - 1, by omega⟩
          rw [Nat.add_mul, Nat.one_mul] at h1
          rw [Nat.add_sub_cancel]; omega
        have hle := HK.out.end2 hnew (by omega) (by omega)
        have hqp := HK.out.hqp
        have hq := HQ.out
        exact ⟨g - 1, ret_int (by omega), by omega, by omega, by omega, below_drewN HJ.out.2.2.2 _⟩
      · go_wp2_with fail
        go_quiet (fail)
        go_wp2_with fail
        have hnew : (g - 1) * v1 + (r + v1) = top := by
          have h1 := HJ.out.1
          obtain ⟨g', rfl⟩ : ∃ g', g = g' + 1 := ⟨g - 1, by omega⟩
          rw [Nat.add_mul, Nat.one_mul] at h1
          rw [Nat.add_sub_cancel]; omega
        refine ⟨⟨g - 1, r + v1, vint_eq (by omega), vint_eq (by omega), by omega, by omega, Lib.hid ⟨hnew, by have := HQ.out; omega, HJ.out.2.2.1, below_drewN HJ.out.2.2.2 _⟩⟩, by simp [intOf]; omega⟩
    · have hgd : decide ((4294967295 : Int) < (g : Int)) = false := by simp; omega
      have hprod : g * v2 < 18446744073709551616 := by
        have : g * v2 ≤ 4294967295 * 4294967295 := Nat.mul_le_mul (by omega) (by omega)
        omega
      by_cases htest : r * 4294967296 + u2 < g * v2
      · have hq : q < g := HK.out.down HJ.out.1 htest
        have hg1 : 1 ≤ g := by omega
        have HQ := Lib.hid hq; clear hq
        by_cases hrr : 4294967295 < r + v1
        · go_wp2_with fail
          go_quiet (fail)
          rw [hj.out]
          go_wp2_with fail
          go_ret
          have hnew : (g - 1) * v1 + (r + v1) = top := by
            have h1 := HJ.out.1
            obtain ⟨g', rfl⟩ : ∃ g', g = g' + 1 := ⟨g - 1, by omega⟩
            rw [Nat.add_mul, Nat.one_mul] at h1
            rw [Nat.add_sub_cancel]; omega
          have hle := HK.out.end2 hnew (by omega) (by omega)
          have hqp := HK.out.hqp
          have hq := HQ.out
          exact ⟨g - 1, ret_int (by omega), by omega, by omega, by omega, below_drewN HJ.out.2.2.2 _⟩
        · go_wp2_with fail
          go_quiet (fail)
          rw [hj.out]
          go_wp2_with fail
          have hnew : (g - 1) * v1 + (r + v1) = top := by
            have h1 := HJ.out.1
            obtain ⟨g', rfl⟩ : ∃ g', g = g' + 1 := ⟨g - 1, by omega⟩
            rw [Nat.add_mul, Nat.one_mul] at h1
            rw [Nat.add_sub_cancel]; omega
          refine ⟨⟨g - 1, r + v1, vint_eq (by omega), vint_eq (by omega), by omega, by omega, Lib.hid ⟨hnew, by have := HQ.out; omega, HJ.out.2.2.1, below_drewN HJ.out.2.2.2 _⟩⟩, by simp [intOf]; omega⟩
      · have HTEST := Lib.hid htest
        go_wp2_with fail
        go_quiet (fail)
        rw [hj.out]
        go_wp2_with fail
        go_ret
        exact ⟨g, rfl, HJ.out.2.1, HK.out.end1 HJ.out.1 (by have := HTEST.out; omega) (by omega), by omega, below_drewN HJ.out.2.2.2 _⟩

end Go.Proofs.Ytamcibmjpmibdaa
namespace Go.Proofs.Ytamcibmjpmibdaa
open Go.RowKit

def SubInv (l f L : List Nat) (i b : Nat) : Prop := L.length = l.length ∧ (∀ d ∈ L, d < 4294967296) ∧ valB 4294967296 (L.take i) + valB 4294967296 (f.take i) = valB 4294967296 (l.take i) + 4294967296 ^ i * b ∧ b ≤ 1
theorem SubInv.step {l f L : List Nat} {i b y : Nat} (h : SubInv l f L i b) (hi : i < l.length) (hl : ∀ d ∈ l, d < 4294967296) (hy : y = if i < f.length then nth f i else 0) (hy2 : y < 4294967296) :
    SubInv l f (L.set i ((nth l i + 4294967296 - b - y) % 4294967296)) (i + 1) (if nth l i < b + y then 1 else 0) := by
  obtain ⟨h1, h2, h3, h4⟩ := h
  have d1 := hl _ (nth_mem hi)
  have e1 := valB_take (b := 4294967296) hi
  have e2 : valB 4294967296 (f.take (i + 1)) = valB 4294967296 (f.take i) + 4294967296 ^ i * y := by
    subst hy
    split
    · rename_i hlt; exact valB_take hlt
    · rw [List.take_of_length_le (by omega), List.take_of_length_le (by omega)]; simp
  have e3 : valB 4294967296 ((L.set i ((nth l i + 4294967296 - b - y) % 4294967296)).take (i + 1)) = valB 4294967296 (L.take i) + 4294967296 ^ i * ((nth l i + 4294967296 - b - y) % 4294967296) := by
    rw [take_set_lt (by omega), valB_snoc, List.length_take, Nat.min_eq_left (by omega)]
  refine ⟨by rw [List.length_set]; exact h1, mem_set h2 (Nat.mod_lt _ (by omega)), ?_, by split <;> omega⟩
  rw [e1, e2, e3, Nat.pow_succ]
  by_cases hb : nth l i < b + y
  · rw [if_pos hb]
    have hd : (nth l i + 4294967296 - b - y) % 4294967296 + y + b = nth l i + 4294967296 := by omega
    have hm : 4294967296 ^ i * ((nth l i + 4294967296 - b - y) % 4294967296) + 4294967296 ^ i * y + 4294967296 ^ i * b = 4294967296 ^ i * nth l i + 4294967296 ^ i * 4294967296 := by
      rw [← Nat.mul_add, ← Nat.mul_add, hd, Nat.mul_add]
    rw [Nat.mul_one]
    omega
  · rw [if_neg hb]
    have hd : (nth l i + 4294967296 - b - y) % 4294967296 + y + b = nth l i := by omega
    have hm : 4294967296 ^ i * ((nth l i + 4294967296 - b - y) % 4294967296) + 4294967296 ^ i * y + 4294967296 ^ i * b = 4294967296 ^ i * nth l i := by
      rw [← Nat.mul_add, ← Nat.mul_add, hd]
    rw [Nat.mul_zero]
    omega

theorem u64_wrap (x : Int) : IntKind.u64.wrap x = x % 18446744073709551616 := by simp [IntKind.wrap, IntKind.bits, IntKind.signed]
theorem sub_lo (a b y : Nat) (ha : a < 4294967296) (hb : b ≤ 1) (hy : y < 4294967296) : IntKind.u64.wrap (IntKind.u64.wrap ((a : Int) - b) - y) % 4294967296 = (((a + 4294967296 - b - y) % 4294967296 : Nat) : Int) := by
  rw [u64_wrap, u64_wrap]; omega
theorem sub_hi (a b y : Nat) (ha : a < 4294967296) (hb : b ≤ 1) (hy : y < 4294967296) : IntKind.u64.wrap (IntKind.u64.wrap ((a : Int) - b) - y) / 9223372036854775808 = ((if a < b + y then 1 else 0 : Nat) : Int) := by
  rw [u64_wrap, u64_wrap]
  split <;> omega
theorem sub_lo0 (a b : Nat) (ha : a < 4294967296) (hb : b ≤ 1) : IntKind.u64.wrap ((a : Int) - b) % 4294967296 = (((a + 4294967296 - b - 0) % 4294967296 : Nat) : Int) := by
  rw [u64_wrap]; omega
theorem sub_hi0 (a b : Nat) (ha : a < 4294967296) (hb : b ≤ 1) : IntKind.u64.wrap ((a : Int) - b) / 9223372036854775808 = ((if a < b + 0 then 1 else 0 : Nat) : Int) := by
  rw [u64_wrap]
  split <;> omega
theorem SubInv.done {l f L : List Nat} {b N M : Nat} (h : SubInv l f L l.length b) (hN : Nrm 4294967296 l N) (hM : Nrm 4294967296 f M) (hle : M ≤ N) : valB 4294967296 L = N - M := by
  obtain ⟨h1, h2, h3, h4⟩ := h
  have hf : f.length ≤ l.length := by
    rcases Nat.lt_or_ge l.length f.length with h | h
    · have := hN.len_lt hM (by omega) h; omega
    · exact h
  rw [List.take_of_length_le (by omega), List.take_of_length_le hf, List.take_of_length_le (Nat.le_refl _), hN.1, hM.1] at h3
  have h5 := valB_lt h2
  rw [h1] at h5
  have : b = 0 ∨ b = 1 := by omega
  rcases this with rfl | rfl
  · omega
  · omega

/-- Sub's answers. -/
def RetSub (w : World) (x y : Nat) (e : Ending) (w' : World) : Prop :=
  (x < y → e = .returned (.tuple #[.slice none 0 0, .int .i64 19]) ∧ Below w.heap.size w w') ∧
  (y ≤ x → ∃ A k c l, e = .returned (.tuple #[.slice A k c, .int .i64 0]) ∧ k ≤ c ∧ Es w' w'.heap.size A k l ∧ Nrm 4294967296 l (x - y) ∧ Below w.heap.size w w')

set_option maxHeartbeats 4000000 in
theorem sub_any (A : Option Addr) (ds : List Nat) (n c : Nat) (hc : n ≤ c) (B : Option Addr) (fs : List Nat) (m d : Nat) (hd : m ≤ d) (w : World) (hr : Es w w.heap.size A n ds) (hs : Es w w.heap.size B m fs) (hn : n ≤ 1000000) :
    Calls Try.prog 95 #[.slice A n c, .slice B m d] w (RetSub w (valB 4294967296 ds) (valB 4294967296 fs)) := by
  have HR := Lib.hid hr; clear hr
  have HS := Lib.hid hs; clear hs
  go_enter Try.func95, Try.ntmps95
  go_wp2_with fail
  refine (trim_any A ds n c hc _ HR.out).mono ?_
  rintro e w1 ⟨k, l, rfl, hk, hl, hN, rfl⟩
  have H1 := Lib.hid hl; clear hl
  have N1 := Lib.hid hN; clear hN
  go_wp2_with fail
  refine (trim_any B fs m d hd _ HS.out).mono ?_
  rintro e w2 ⟨j, f, rfl, hj, hf, hM, rfl⟩
  have H2 := Lib.hid hf; clear hf
  have N2 := Lib.hid hM; clear hM
  have hk2 := H1.out.le
  have hj2 := H2.out.le
  go_wp2_with fail
  refine (ncmp_any A l k k (Nat.le_refl _) B f j j (Nat.le_refl _) _ H1.out H2.out).mono ?_
  rintro e w3 ⟨rfl, hb⟩
  rw [N1.out.1, N2.out.1]
  have HB := Lib.hid hb; clear hb
  by_cases hlt : valB 4294967296 ds < valB 4294967296 fs
  · rw [show cmpN (valB 4294967296 ds) (valB 4294967296 fs) = -1 by simp [cmpN, hlt]]
    have HLT := Lib.hid hlt; clear hlt
    go_wp2_with fail
    go_ret2
    exact ⟨fun _ => ⟨rfl, HB.out⟩, fun h => by have := HLT.out; omega⟩
  · have hge : 0 ≤ cmpN (valB 4294967296 ds) (valB 4294967296 fs) := by
      simp only [cmpN, if_neg hlt]; split <;> omega
    generalize cmpN (valB 4294967296 ds) (valB 4294967296 fs) = cv at *
    have HLT := Lib.hid hlt; clear hlt
    have hmk := mk_nat k (by omega)
    have hs3 := HB.out.size
    go_wp2_with fail
    clear hmk
    go_loopw [7, 8, 9, 23] (fun bv _ _ i wr => ∃ (i' b : Nat) (L : List Nat), i' ≤ k ∧ b ≤ 1 ∧ i = .int .i64 i' ∧ bv = .int .u64 b ∧ Hid (SubInv l f L i' b ∧ Blk wr w3.heap.size 111 (urow L) ∧ Below w.heap.size w wr)) (fun _ _ _ i _ => k - (intOf i).toNat)
    case atStart =>
      refine ⟨0, 0, zer k, Nat.zero_le _, by omega, rfl, rfl, Lib.hid ⟨⟨?_, ?_, ?_, by omega⟩, Blk.new _ _ _, HB.out.alloc HB.out.size _⟩⟩
      · rw [zer_length, H1.out.len]
      · intro d hd
        have := List.eq_of_mem_replicate hd
        omega
      · simp [valB]
    case round =>
      obtain ⟨i, b, L, hi, hb, rfl, rfl, HJ⟩ := hrel
      by_cases hlt : i < k
      · obtain ⟨ad, rfl, hb1, hcell⟩ := (H1.out.below HJ.out.2.2).at_ hlt
        have hli : i < l.length := by have := H1.out.len; omega
        have hd1 := H1.out.lt hlt
        have hL : i < L.length := by rw [HJ.out.1.1]; omega
        have cR : wr.cell? ⟨w3.heap.size, i, none⟩ = some (.int .u32 (nth L i : Int)) := by rw [HJ.out.2.1.cell, urow_get hL]
        have fR : wr.frozen? ⟨w3.heap.size, i, none⟩ = false := HJ.out.2.1.frozen i
        clear hL
        by_cases hf : i < j
        · obtain ⟨ad2, rfl, hb2, hcell2⟩ := (H2.out.below HJ.out.2.2).at_ hf
          have hfi : i < f.length := by have := H2.out.len; omega
          have hd2 := H2.out.lt hf
          have hst := Lib.hid (HJ.out.1.step hli H1.out.2.2 (y := nth f i) (by rw [if_pos hfi]) hd2)
          go_wp2_with fail
          rw [sub_lo _ _ _ hd1 hb hd2, sub_hi _ _ _ hd1 hb hd2]
          refine ⟨⟨i + 1, _, _, by omega, hst.out.2.2.2, by go_num, rfl, Lib.hid ⟨hst.out, ?_, HJ.out.2.2.setCell hs3 _⟩⟩, by simp [intOf]; omega⟩
          have := HJ.out.2.1.set_ i (.int .u32 (((nth l i + 4294967296 - b - nth f i) % 4294967296 : Nat) : Int))
          rwa [urow_set] at this
        · have hfi : ¬ i < f.length := by have := H2.out.len; omega
          have hst := Lib.hid (HJ.out.1.step hli H1.out.2.2 (y := 0) (by rw [if_neg hfi]) (by omega))
          go_wp2_with fail
          rw [sub_lo0 _ _ hd1 hb, sub_hi0 _ _ hd1 hb]
          refine ⟨⟨i + 1, _, _, by omega, hst.out.2.2.2, by go_num, rfl, Lib.hid ⟨hst.out, ?_, HJ.out.2.2.setCell hs3 _⟩⟩, by simp [intOf]; omega⟩
          have := HJ.out.2.1.set_ i (.int .u32 (((nth l i + 4294967296 - b - 0) % 4294967296 : Nat) : Int))
          rwa [urow_set] at this
      · obtain rfl : i = k := by omega
        go_wp2_with fail
        have hlen : L.length = i := by rw [HJ.out.1.1, H1.out.len]
        have hE := Es.of_blk HJ.out.2.1 (by omega) HJ.out.1.2.1
        rw [hlen] at hE
        have hv : valB 4294967296 L = valB 4294967296 ds - valB 4294967296 fs := by
          have h1 := HJ.out.1
          rw [H1.out.len] at h1
          exact h1.done N1.out N2.out (by have := HLT.out; omega)
        refine (trim_any _ _ i i (Nat.le_refl _) _ hE).mono ?_
        rintro e w4 ⟨k2, l2, rfl, hk2, hl2, hN2, rfl⟩
        rw [hv] at hN2
        have HE := Lib.hid hl2
        have HN := Lib.hid hN2
        clear hl2 hN2 hE hv hlen
        go_wp2_with fail
        go_ret2
        exact ⟨fun h => by have := HLT.out; omega, fun _ => ⟨_, k2, k2, l2, rfl, Nat.le_refl _, HE.out, HN.out, HJ.out.2.2⟩⟩

end Go.Proofs.Ytamcibmjpmibdaa
namespace Go.Proofs.Ytamcibmjpmibdaa
open Go.RowKit

/-- The product so far: i digits of l are done, of the next j digits of f. L is the row; cr the carry. -/
def MulInv (b : Nat) (l f L : List Nat) (i j cr : Nat) : Prop := L.length = l.length + f.length ∧ (∀ d ∈ L, d < b) ∧ cr < b ∧
  (∀ t, i + f.length ≤ t → t < L.length → nth L t = 0) ∧
  valB b L + b ^ (i + j) * cr = valB b (l.take i) * valB b f + b ^ i * (nth l i * valB b (f.take j))

theorem mul_bound {a b c d : Nat} (ha : a < 4294967296) (hb : b < 4294967296) (hc : c < 4294967296) (hd : d < 4294967296) : d + (a * b + c) < 18446744073709551616 := by
  have : a * b ≤ 4294967295 * 4294967295 := Nat.mul_le_mul (by omega) (by omega)
  omega
theorem mul_bound' {p a b c d : Nat} (ha : a < p) (hb : b < p) (hc : c < p) (hd : d < p) : d + (a * b + c) < p * p := by
  obtain ⟨q, rfl⟩ : ∃ q, p = q + 1 := ⟨p - 1, by omega⟩
  have h : a * b ≤ q * q := Nat.mul_le_mul (by omega) (by omega)
  have e : (q + 1) * (q + 1) = q * q + q + q + 1 := by rw [Nat.add_mul, Nat.mul_add]; omega
  omega
theorem MulInv.step {p : Nat} {l f L : List Nat} {i j cr s : Nat} (h : MulInv p l f L i j cr) (hi : i < l.length) (hj : j < f.length) (hl : ∀ d ∈ l, d < p) (hf : ∀ d ∈ f, d < p)
    (hs : s = cr + (nth l i * nth f j + nth L (i + j))) : MulInv p l f (L.set (i + j) (s % p)) i (j + 1) (s / p) := by
  obtain ⟨h1, h2, h3, h4, h5⟩ := h
  have d1 := hl _ (nth_mem hi)
  have d2 := hf _ (nth_mem hj)
  have d3 := h2 _ (nth_mem (show i + j < L.length by omega))
  have hb := mul_bound' d1 d2 d3 h3
  rw [← hs] at hb
  refine ⟨by rw [List.length_set]; exact h1, mem_set h2 (Nat.mod_lt _ (by omega)), Nat.div_lt_of_lt_mul hb, fun t ht1 ht2 => ?_, ?_⟩
  · rw [nth_set (by omega), if_neg (by omega)]
    exact h4 t ht1 (by rw [List.length_set] at ht2; exact ht2)
  · have e1 := valB_set (b := p) (l := L) (k := i + j) (x := s % p) (by omega)
    have e2 := valB_take (b := p) hj
    rw [e2]
    have e3 : p ^ (i + (j + 1)) * (s / p) = p ^ (i + j) * (p * (s / p)) := by
      rw [← Nat.add_assoc, Nat.pow_succ, Nat.mul_assoc]
    have e4 : p ^ (i + j) * s = p ^ (i + j) * cr + p ^ (i + j) * (nth l i * nth f j) + p ^ (i + j) * nth L (i + j) := by
      rw [hs, Nat.mul_add, Nat.mul_add, Nat.add_assoc]
    have e5 : p ^ (i + j) * (s % p) + p ^ (i + j) * (p * (s / p)) = p ^ (i + j) * s := by
      rw [← Nat.mul_add, Nat.mod_add_div]
    have e6 : p ^ i * (nth l i * (valB p (f.take j) + p ^ j * nth f j)) = p ^ i * (nth l i * valB p (f.take j)) + p ^ (i + j) * (nth l i * nth f j) := by
      rw [Nat.mul_add, Nat.mul_add, Nat.pow_add]
      congr 1
      rw [Nat.mul_assoc (p ^ i), Nat.mul_left_comm (nth l i)]
    rw [e3, e6]
    omega
theorem MulInv.row {p : Nat} {l f L : List Nat} {i cr : Nat} (h : MulInv p l f L i f.length cr) (hi : i < l.length) : MulInv p l f (L.set (i + f.length) cr) (i + 1) 0 0 := by
  obtain ⟨h1, h2, h3, h4, h5⟩ := h
  have h0 := h4 (i + f.length) (Nat.le_refl _) (by omega)
  refine ⟨by rw [List.length_set]; exact h1, mem_set h2 h3, by omega, fun t ht1 ht2 => ?_, ?_⟩
  · rw [nth_set (by omega), if_neg (by omega)]
    exact h4 t (by omega) (by rw [List.length_set] at ht2; exact ht2)
  · have e1 := valB_set (b := p) (l := L) (k := i + f.length) (x := cr) (by omega)
    rw [h0, Nat.mul_zero, Nat.add_zero] at e1
    rw [List.take_length] at h5
    have e2 := valB_take (b := p) hi
    rw [e1, h5, e2, Nat.add_mul, Nat.mul_assoc]
    simp [valB]

set_option maxHeartbeats 4000000 in
theorem mul_any (A : Option Addr) (ds : List Nat) (n c : Nat) (hc : n ≤ c) (B : Option Addr) (fs : List Nat) (m d : Nat) (hd : m ≤ d) (w : World) (hr : Es w w.heap.size A n ds) (hs : Es w w.heap.size B m fs) (hn : n ≤ 1000000) (hm : m ≤ 1000000) :
    Calls Try.prog 50 #[.slice A n c, .slice B m d] w (RetNat w (valB 4294967296 ds * valB 4294967296 fs)) := by
  have HR := Lib.hid hr; clear hr
  have HS := Lib.hid hs; clear hs
  go_enter Try.func50, Try.ntmps50
  go_wp2_with fail
  refine (trim_any A ds n c hc _ HR.out).mono ?_
  rintro e w1 ⟨k, l, rfl, hk, hl, hN, rfl⟩
  have H1 := Lib.hid hl; clear hl
  have N1 := Lib.hid hN; clear hN
  go_wp2_with fail
  refine (trim_any B fs m d hd _ HS.out).mono ?_
  rintro e w2 ⟨j, f, rfl, hj, hf, hM, rfl⟩
  have H2 := Lib.hid hf; clear hf
  have N2 := Lib.hid hM; clear hM
  have hmk := mk_nat (k + j) (by omega)
  simp only [Int.natCast_add] at hmk
  go_wp2_with fail
  clear hmk
  go_loopw [6, 7, 8, 21] (fun _ _ _ i wr => ∃ (i' : Nat) (L : List Nat), i' ≤ k ∧ i = .int .i64 i' ∧ Hid (MulInv 4294967296 l f L i' 0 0 ∧ Blk wr w.heap.size 111 (urow L) ∧ Below w.heap.size w wr)) (fun _ _ _ i _ => k - (intOf i).toNat)
  case atStart =>
    refine ⟨0, zer (k + j), Nat.zero_le _, rfl, Lib.hid ⟨⟨?_, ?_, by omega, ?_, ?_⟩, Blk.new _ _ _, al _ _⟩⟩
    · rw [zer_length, ← H1.out.len, ← H2.out.len]
    · intro d hd
      have := List.eq_of_mem_replicate hd
      omega
    · intro t _ _; exact nth_zer _ _
    · simp [valB, zer, valB_zero]
  case round =>
    obtain ⟨i, L, hi, rfl, HJ⟩ := hrel
    by_cases hlt : i < k
    · have hli : i < l.length := by have := H1.out.len; omega
      have hd1 := H1.out.lt hlt
      obtain ⟨wo, rfl⟩ : ∃ wo : World, wo = wr := ⟨_, rfl⟩
      go_wp2_with fail
      go_loopw [7, 8, 26] (fun cv _ q wr => ∃ (j' cr : Nat) (L : List Nat), j' ≤ j ∧ cr < 4294967296 ∧ q = .int .i64 j' ∧ cv = .int .u64 cr ∧ Hid (MulInv 4294967296 l f L i j' cr ∧ Blk wr w.heap.size 111 (urow L) ∧ Below w.heap.size w wr)) (fun _ _ q _ => j - (intOf q).toNat)
      case atStart => exact ⟨0, 0, L, Nat.zero_le _, by omega, rfl, rfl, HJ⟩
      case round =>
        obtain ⟨j', cr, L, hj', hcr, rfl, rfl, HJ⟩ := hrel
        by_cases hjt : j' < j
        · obtain ⟨ad, rfl, hb1, hcell⟩ := (H1.out.below HJ.out.2.2).at_ hlt
          obtain ⟨ad2, rfl, hb2, hcell2⟩ := (H2.out.below HJ.out.2.2).at_ hjt
          have hfj : j' < f.length := by have := H2.out.len; omega
          have hd2 := H2.out.lt hjt
          have hL : i + j' < L.length := by rw [HJ.out.1.1]; omega
          have hd3 := HJ.out.1.2.1 _ (nth_mem hL)
          have cR : wr.cell? ⟨w.heap.size, i + j', none⟩ = some (.int .u32 (nth L (i + j') : Int)) := by rw [HJ.out.2.1.cell, urow_get hL]
          have fR : wr.frozen? ⟨w.heap.size, i + j', none⟩ = false := HJ.out.2.1.frozen _
          clear hL
          have hbd := mul_bound hd1 hd2 hd3 hcr
          have hst := Lib.hid (HJ.out.1.step hli hfj H1.out.2.2 H2.out.2.2 rfl)
          have i1 : IntKind.i64.wrap ((i : Int) + (j' : Int)) = (i : Int) + (j' : Int) := IntWalk.i64_in _ (by omega)
          have i2 : (0 : Int) ≤ (i : Int) + (j' : Int) := by omega
          have i3 : ((i : Int) + (j' : Int)).toNat = i + j' := by omega
          have i4 : (i : Int) + (j' : Int) < ((k + j : Nat) : Int) := by omega
          go_wp2_with fail
          go_quiet (fail)
          rw [show ((cr : Int) + ((nth l i : Int) * (nth f j' : Int) + (nth L (i + j') : Int))) = ((cr + (nth l i * nth f j' + nth L (i + j')) : Nat) : Int) by simp]
          generalize cr + (nth l i * nth f j' + nth L (i + j')) = sm at *
          clear i1 i2 i3 i4
          go_wp2_with fail
          have hset := (HJ.out.2.1.drewN nq).set_ (i + j') (.int .u32 ((sm % 4294967296 : Nat) : Int))
          rw [urow_set] at hset
          refine ⟨⟨j' + 1, sm / 4294967296, _, by omega, hst.out.2.2.1, by go_num, by simp, Lib.hid ⟨hst.out, ?_, (below_drewN HJ.out.2.2 _).setCell (Nat.le_refl _) _⟩⟩, by simp [intOf]; omega⟩
          simpa using hset
        · obtain rfl : j' = j := by omega
          have hL : i + j' < L.length := by rw [HJ.out.1.1, ← H2.out.len]; omega
          have cR : wr.cell? ⟨w.heap.size, i + j', none⟩ = some (.int .u32 (nth L (i + j') : Int)) := by rw [HJ.out.2.1.cell, urow_get hL]
          have fR : wr.frozen? ⟨w.heap.size, i + j', none⟩ = false := HJ.out.2.1.frozen _
          have HL := Lib.hid hL; clear hL
          go_wp2_with fail
          have hset := HJ.out.2.1.set_ (i + j') (.int .u32 (cr : Int))
          rw [urow_set] at hset
          have h1 := HJ.out.1
          rw [H2.out.len] at h1
          have h2 := h1.row hli
          rw [← H2.out.len] at h2
          exact ⟨⟨i + 1, _, by omega, by go_num, Lib.hid ⟨h2, hset, HJ.out.2.2.setCell (Nat.le_refl _) _⟩⟩, by simp [intOf]; omega⟩
    · obtain rfl : i = k := by omega
      go_wp2_with fail
      have hlen : L.length = i + j := by rw [HJ.out.1.1, H1.out.len, H2.out.len]
      have hE := Es.of_blk HJ.out.2.1 (by omega) HJ.out.1.2.1
      rw [hlen] at hE
      have hv : valB 4294967296 L = valB 4294967296 ds * valB 4294967296 fs := by
        have h1 := HJ.out.1.2.2.2.2
        rw [List.take_of_length_le (by rw [H1.out.len]; exact Nat.le_refl _), N1.out.1, N2.out.1] at h1
        simpa [valB] using h1
      refine (trim_any _ _ (i + j) (i + j) (Nat.le_refl _) _ hE).mono ?_
      rintro e w4 ⟨k2, l2, rfl, hk2, hl2, hN2, rfl⟩
      rw [hv] at hN2
      have HE := Lib.hid hl2
      have HN := Lib.hid hN2
      clear hl2 hN2 hE hv hlen
      go_wp2_with fail
      go_ret
      exact ⟨_, k2, k2, l2, rfl, Nat.le_refl _, HE.out, HN.out, HJ.out.2.2⟩

end Go.Proofs.Ytamcibmjpmibdaa
