/-
  Contracts of package nat: trim, Of, cmp, Clone, Norm, Cmp.
-/
import Derived.Test.YtifnbpkcnkfanaaOwn
import Derived.Test.YtifnbpkcnkfanaaNPlain
namespace Go.Proofs.Ytifnbpkcnkfanaa
open Go.RowKit

theorem Es.take {w : World} {B n k : Nat} {A : Option Addr} {es : List Nat} (h : Es w B A n es) (hk : k ≤ n) : Es w B A k (es.take k) := by
  have hl := h.2.1.1
  refine ⟨⟨by rw [U32_length]; simp; omega, fun hp => ?_⟩, ⟨by simp; omega, by have := h.2.1.2; omega⟩, fun e he => h.2.2 e (List.mem_of_mem_take he)⟩
  obtain ⟨ad, rfl, hb, hc⟩ := h.1.2 (by omega)
  refine ⟨ad, rfl, hb, fun j u hu => hc j u ?_⟩
  simp only [U32, List.map_take] at hu ⊢
  rw [List.getElem?_take] at hu
  split at hu
  · exact hu
  · cases hu

/-- What trim answers: a part of the very slice, normal, of the same value. -/
def RetTrim (A : Option Addr) (n N : Nat) (w : World) (e : Ending) (w' : World) : Prop := ∃ k l, e = .returned (.slice A k k) ∧ k ≤ n ∧ Es w w.heap.size A k l ∧ Nrm 4294967296 l N ∧ w = w'
/-- A slice that reads as the normal digits of N; nothing that stood has changed. -/
def RetNat (w : World) (N : Nat) (e : Ending) (w' : World) : Prop := ∃ A k c l, e = .returned (.slice A k c) ∧ k ≤ c ∧ Es w' w'.heap.size A k l ∧ Nrm 4294967296 l N ∧ Below w.heap.size w w'

set_option maxHeartbeats 1000000 in
theorem trim_any (A : Option Addr) (ds : List Nat) (n c : Nat) (hc : n ≤ c) (w : World) (hr : Es w w.heap.size A n ds) :
    Calls Try.prog 42 #[.slice A n c] w (RetTrim A n (valB 4294967296 ds) w) := by
  have hle := hr.le
  have HR := Lib.hid hr; clear hr
  go_enter Try.func42, Try.ntmps42
  go_wp2_with fail
  go_loop [3] (fun i => ∃ k : Nat, k ≤ n ∧ i = .int .i64 k ∧ Hid (∀ j, k ≤ j → j < n → nth ds j = 0)) (fun i => (intOf i).toNat)
  case atStart => exact ⟨n, Nat.le_refl _, rfl, Lib.hid (fun j h1 h2 => absurd h2 (by omega))⟩
  case round =>
    obtain ⟨k, hk, rfl, HJ⟩ := hrel
    by_cases hk0 : 0 < k
    · obtain ⟨k, rfl⟩ : ∃ m, k = m + 1 := ⟨k - 1, by omega⟩
      obtain ⟨ad, rfl, hb, hcell⟩ := HR.out.at_ (show k < n by omega)
      have i1 : ((k + 1 : Nat) : Int) - 1 = (k : Int) := by omega
      by_cases hz : nth ds k = 0
      · have ht : ((nth ds k : Int) == 0) = true := by simp [hz]
        have HZ := Lib.hid hz; clear hz
        go_wp2_with fail
        refine ⟨⟨k, by omega, rfl, Lib.hid (fun j h1 h2 => ?_)⟩, by simp [intOf]⟩
        by_cases hj : j = k
        · subst hj; exact HZ.out
        · exact HJ.out j (by omega) h2
      · have ht : ((nth ds k : Int) == 0) = false := by simp [hz]
        have HZ := Lib.hid hz; clear hz
        go_wp2_with fail
        go_ret
        exact ⟨k + 1, ds.take (k + 1), rfl, by omega, HR.out.take (by omega), Nrm.mk_trim HR.out.2.2 (by have := HR.out.len; omega) (by have := HR.out.len; rw [← this]; exact HJ.out) (.inr HZ.out), rfl⟩
    · obtain rfl : k = 0 := by omega
      have h0 : ((0 : Nat) : Int) = 0 := rfl
      go_wp2_with fail
      go_ret
      exact ⟨0, ds.take 0, rfl, by omega, HR.out.take (by omega), Nrm.mk_trim HR.out.2.2 (by omega) (by have := HR.out.len; rw [← this]; exact HJ.out) (.inl rfl), rfl⟩

theorem cell_split (n : Nat) : n < 18446744073709551616 → valB 4294967296 [n % 4294967296, n / 4294967296] = n := by
  intro h; simp only [valB]; omega

set_option maxHeartbeats 1000000 in
theorem nof_any (n : Nat) (hn : n < 18446744073709551616) (w : World) : Calls Try.prog 17 #[.int .u64 n] w (RetNat w n) := by
  go_enter Try.func17, Try.ntmps17
  go_wp2_with fail
  have hE : Es (w.alloc (Obj.cells #[Value.int IntKind.u32 ((n : Int) % 4294967296), Value.int IntKind.u32 ((n : Int) / 4294967296)] 23)) (w.alloc (Obj.cells #[Value.int IntKind.u32 ((n : Int) % 4294967296), Value.int IntKind.u32 ((n : Int) / 4294967296)] 23)).heap.size (some ⟨w.heap.size, 0, none⟩) 2 [n % 4294967296, n / 4294967296] := by
    refine Es.of_blk (l := [n % 4294967296, n / 4294967296]) (t := 23) ?_ (by simp) ?_
    · have := Blk.new w 23 (urow [n % 4294967296, n / 4294967296])
      simpa [urow, U32] using this
    · intro e he
      simp at he
      omega
  refine (trim_any _ _ 2 2 (Nat.le_refl _) _ hE).mono ?_
  rintro e w1 ⟨k, l, rfl, hk, hl, hN, rfl⟩
  rw [cell_split n hn] at hN
  have H1 := Lib.hid hl; clear hl hE
  have H2 := Lib.hid hN; clear hN
  go_wp2_with fail
  go_ret
  exact ⟨_, k, k, l, rfl, Nat.le_refl _, H1.out, H2.out, al _ _⟩

/-- -1, 0 or 1. -/
def cmpI (a b : Int) : Int := if a < b then -1 else if b < a then 1 else 0
def cmpN (a b : Nat) : Int := if a < b then -1 else if b < a then 1 else 0

set_option maxHeartbeats 1000000 in
theorem cmpInt_any (a b : Int) (w : World) : Calls Try.prog 51 #[.int .i64 a, .int .i64 b] w fun e w' => e = .returned (.int .i64 (cmpI a b)) ∧ w = w' := by
  by_cases h1 : a < b
  · rw [show cmpI a b = -1 by simp [cmpI, h1]]
    go_enter Try.func51, Try.ntmps51
    go_wp2
    go_ret
    exact ⟨rfl, rfl⟩
  · by_cases h2 : b < a
    · rw [show cmpI a b = 1 by simp [cmpI, h1, h2]]
      go_enter Try.func51, Try.ntmps51
      go_wp2
      go_ret
      exact ⟨rfl, rfl⟩
    · rw [show cmpI a b = 0 by simp [cmpI, h1, h2]]
      go_enter Try.func51, Try.ntmps51
      go_wp2
      go_ret
      exact ⟨rfl, rfl⟩

set_option maxHeartbeats 1000000 in
theorem cmpU32_any (a b : Nat) (w : World) : Calls Try.prog 66 #[.int .u32 a, .int .u32 b] w fun e w' => e = .returned (.int .i64 (cmpN a b)) ∧ w = w' := by
  by_cases h1 : a < b
  · rw [show cmpN a b = -1 by simp [cmpN, h1]]
    go_enter Try.func66, Try.ntmps66
    go_wp2
    go_ret
    exact ⟨rfl, rfl⟩
  · by_cases h2 : b < a
    · rw [show cmpN a b = 1 by simp [cmpN, h1, h2]]
      go_enter Try.func66, Try.ntmps66
      go_wp2
      go_ret
      exact ⟨rfl, rfl⟩
    · rw [show cmpN a b = 0 by simp [cmpN, h1, h2]]
      go_enter Try.func66, Try.ntmps66
      go_wp2
      go_ret
      exact ⟨rfl, rfl⟩

theorem info_u32 : (Try.prog.info? 23).map (fun i => (i.zero, i.size, i.bytes)) = some (some (.int .u32 0), 1, 4) := by kernel_rfl
/-- A row of the call's own that reads ds. -/
def RetOwn (w : World) (n : Nat) (ds : List Nat) (e : Ending) (w' : World) : Prop := ∃ v, e = .returned v ∧ w'.ownsRow w.heap.size 23 1 v n (U32 ds) ∧ Below w.heap.size w w'

set_option maxHeartbeats 1000000 in
theorem clone_any (A : Option Addr) (ds : List Nat) (n c : Nat) (hn : n ≤ 1000000) (w : World) (hr : Es w w.heap.size A n ds) :
    Calls Try.prog 61 #[.slice A n c] w (RetOwn w n ds) := by
  have HR := Lib.hid hr; clear hr
  cases A with
  | none =>
    have h0 : n = 0 := by
      rcases Nat.eq_zero_or_pos n with h | h
      · exact h
      · obtain ⟨_, h1, _⟩ := HR.out.1.2 h; cases h1
    subst h0
    have hd : ds = [] := List.eq_nil_of_length_eq_zero HR.out.len.symm
    subst hd
    have hq := fun W => Lib.run_eql_slice_nil (P := Try.prog) W 27 23 none 0 c 0 0 Try.underlying27
    go_enter Try.func61, Try.ntmps61
    go_wp2_with fail
    go_ret
    exact ⟨_, rfl, own_nil _ _ _, Below.refl _ _⟩
  | some ad =>
    have hq := fun W => Lib.run_eql_slice_nil (P := Try.prog) W 27 23 (some ad) n c 0 0 Try.underlying27
    obtain ⟨i, hi, hz, hs1, hby⟩ := info_parts info_u32
    go_enter Try.func61, Try.ntmps61
    go_wp2_with (at_builtin; refine wpList_append_any _ rfl (.tmp 5) (.tmp 6) 27 rfl w.heap.size 23 i _ 1 4 Try.underlying27 hi hz hs1 hby rfl (by omega) _ 0 [] rfl (own_empty w _) w.heap.size (some ad) n c (U32 ds) rfl (HR.out.1.alloc (Nat.le_refl _) _) (one_U32 ds) (by simp only [maxLen]; omega) (by omega) (by simp) ?_; intro v1 w1 hown1 hg1 hat1; have H1 := Lib.hid hown1; have H2 := Lib.hid hg1; clear hown1 hg1 hat1)
    go_ret
    refine ⟨v1, rfl, ?_, ?_⟩
    · have := H1.out
      simpa using this
    · exact (al w _).grown H2.out (by simp) (fun k hk => by cases hk; exact Nat.le_refl _)

set_option maxHeartbeats 1000000 in
theorem norm_any (A : Option Addr) (ds : List Nat) (n c : Nat) (hc : n ≤ c) (hn : n ≤ 1000000) (w : World) (hr : Es w w.heap.size A n ds) :
    Calls Try.prog 43 #[.slice A n c] w fun e w' => ∃ k l, RetOwn w k l e w' ∧ k ≤ n ∧ k = l.length ∧ Nrm 4294967296 l (valB 4294967296 ds) := by
  have HR := Lib.hid hr; clear hr
  have key : Calls Try.prog 43 #[.slice A n c] w fun e w' => Hid (∃ k l, RetOwn w k l e w' ∧ k ≤ n ∧ k = l.length ∧ Nrm 4294967296 l (valB 4294967296 ds)) := by
    go_enter Try.func43, Try.ntmps43
    go_wp2_with fail
    refine (trim_any A ds n c hc _ HR.out).mono ?_
    rintro e w1 ⟨k, l, rfl, hk, hl, hN, rfl⟩
    have H1 := Lib.hid hl; clear hl
    have H2 := Lib.hid hN; clear hN
    go_wp2_with fail
    refine (clone_any A l k k (by omega) _ H1.out).mono ?_
    rintro e w2 ⟨v, rfl, hown, hb⟩
    have H3 := Lib.hid hown; clear hown
    have H4 := Lib.hid hb; clear hb
    go_wp2_with fail
    go_ret
    exact Lib.hid ⟨k, l, ⟨v, rfl, H3.out, H4.out⟩, hk, H1.out.len, H2.out⟩
  exact key

set_option maxHeartbeats 2000000 in
theorem ncmp_any (A : Option Addr) (ds : List Nat) (n c : Nat) (hc : n ≤ c) (B : Option Addr) (fs : List Nat) (m d : Nat) (hd : m ≤ d) (w : World) (hr : Es w w.heap.size A n ds) (hs : Es w w.heap.size B m fs) :
    Calls Try.prog 47 #[.slice A n c, .slice B m d] w fun e w' => e = .returned (.int .i64 (cmpN (valB 4294967296 ds) (valB 4294967296 fs))) ∧ Below w.heap.size w w' := by
  have HR := Lib.hid hr; clear hr
  have HS := Lib.hid hs; clear hs
  go_enter Try.func47, Try.ntmps47
  go_wp2_with fail
  refine (trim_any A ds n c hc _ HR.out).mono ?_
  rintro e w1 ⟨k, l, rfl, hk, hl, hN, rfl⟩
  have H1 := Lib.hid hl; clear hl
  have N1 := Lib.hid hN; clear hN
  go_wp2_with fail
  refine (trim_any B fs m d hd _ HS.out).mono ?_
  rintro e w2 ⟨j, f, rfl, hj, hf, hM, rfl⟩
  have H2 := Lib.hid hf; clear hf
  have N2 := Lib.hid hM; clear hM
  have hk2 := H1.out.le
  have hj2 := H2.out.le
  by_cases hkj : k = j
  · have hb : ((k : Int) != (j : Int)) = false := by simp [hkj]
    obtain rfl : k = j := hkj
    go_wp2_with fail
    go_loopw [5] (fun i wr => ∃ a : Int, -1 ≤ a ∧ a < k ∧ i = .int .i64 a ∧ Hid (l.drop (a + 1).toNat = f.drop (a + 1).toNat ∧ Below w.heap.size w wr)) (fun i _ => (intOf i + 1).toNat)
    case atStart =>
      refine ⟨(k : Int) - 1, by omega, by omega, rfl, Lib.hid ⟨?_, Below.refl _ _⟩⟩
      have h1 := H1.out.len
      have h2 := H2.out.len
      rw [show ((k : Int) - 1 + 1).toNat = k by omega, List.drop_of_length_le (by omega), List.drop_of_length_le (by omega)]
    case round =>
      obtain ⟨a, ha, ha2, rfl, HJ⟩ := hrel
      by_cases ha3 : 0 ≤ a
      · obtain ⟨a, rfl⟩ := Int.eq_ofNat_of_zero_le ha3
        obtain ⟨ad, rfl, hb1, hcell⟩ := (H1.out.below HJ.out.2).at_ (show a < k by omega)
        obtain ⟨ad2, rfl, hb2, hcell2⟩ := (H2.out.below HJ.out.2).at_ (show a < k by omega)
        by_cases hne : nth l a = nth f a
        · have hq : ((nth l a : Int) != (nth f a : Int)) = false := by simp [hne]
          have HNE := Lib.hid hne; clear hne
          go_wp2_with fail
          go_quiet (fail)
          go_wp2_with fail
          refine ⟨⟨(a : Int) - 1, by omega, by omega, by go_num, Lib.hid ⟨?_, below_drewN HJ.out.2 _⟩⟩, by simp [intOf]⟩
          have h0 := HJ.out.1
          have h1 : a < l.length := by have := H1.out.len; omega
          have h2 : a < f.length := by have := H2.out.len; omega
          rw [show ((a : Int) + 1).toNat = a + 1 by omega] at h0
          rw [show ((a : Int) - 1 + 1).toNat = a by omega, List.drop_eq_getElem_cons h1, List.drop_eq_getElem_cons h2, h0, ← nth_eq h1, ← nth_eq h2, HNE.out]
        · have hq : ((nth l a : Int) != (nth f a : Int)) = true := by simp; omega
          have HNE := Lib.hid hne; clear hne
          go_wp2_with fail
          go_quiet (fail)
          go_wp2_with fail
          go_quiet ((go_at_call 66; exact quiet_add_left (cmpU32_any _ _ _)))
          go_wp2_with fail
          go_ret
          refine ⟨ret_int ?_, below_drewN (below_drewN HJ.out.2 _) _⟩
          have h0 := HJ.out.1
          rw [show ((a : Int) + 1).toNat = a + 1 by omega] at h0
          have h1 := H1.out.len
          have h2 := H2.out.len
          rw [← N1.out.1, ← N2.out.1]
          have hne := HNE.out
          rcases Nat.lt_or_gt_of_ne hne with h | h
          · have := val_cmp (b := 4294967296) N1.out.2.1 (by omega) (by omega) h0 h
            simp [cmpN, h, this]
          · have := val_cmp (b := 4294967296) N2.out.2.1 (by omega) (by omega) h0.symm h
            simp [cmpN, h, this, Nat.not_lt_of_gt h, Nat.not_lt_of_gt this]
      · have ha4 : a = -1 := by omega
        subst ha4
        go_wp2_with fail
        go_ret
        refine ⟨ret_int ?_, HJ.out.2⟩
        have h0 := HJ.out.1
        simp only [show ((-1 : Int) + 1).toNat = 0 from rfl, List.drop_zero] at h0
        have h1 := N1.out.1
        have h2 := N2.out.1
        rw [h0] at h1
        simp [cmpN, ← h1, ← h2]
  · have hb : ((k : Int) != (j : Int)) = true := by simp; omega
    go_wp2_with fail
    refine (cmpInt_any _ _ _).mono ?_
    rintro e w3 ⟨rfl, rfl⟩
    have HKJ := Lib.hid hkj; clear hkj
    go_wp2_with fail
    go_ret
    refine ⟨ret_int ?_, Below.refl _ _⟩
    have h1 := H1.out.len
    have h2 := H2.out.len
    rcases Nat.lt_or_gt_of_ne HKJ.out with h | h
    · have := N1.out.len_lt N2.out (by omega) (by omega)
      simp [cmpN, cmpI, h, this]
    · have := N2.out.len_lt N1.out (by omega) (by omega)
      simp [cmpN, cmpI, h, this, Nat.not_lt_of_gt h, Nat.not_lt_of_gt this]

end Go.Proofs.Ytifnbpkcnkfanaa
