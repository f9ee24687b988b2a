/-
  Contracts of the reference of layer 4, second part: Of, Cmp, Add, Sub.
-/
import Derived.Test.YtnpokifmknepoaaNRef
namespace Go.Proofs.Ytnpokifmknepoaa
open Go.RowKit

theorem ten_ten (n : Nat) : 4294967296 ^ n ≤ 10 ^ (10 * n) := by
  rw [Nat.pow_mul]
  exact Nat.pow_le_pow_left (by omega) n
theorem drop_lt {ds : List Nat} (h : ∀ d ∈ ds, d < 4294967296) (a : Nat) : valB 4294967296 (ds.drop a) < 10 ^ (10 * ds.length) := by
  have h1 := valB_lt (b := 4294967296) (l := ds.drop a) (fun d hd => h d (List.mem_of_mem_drop hd))
  have h2 := ten_ten (ds.drop a).length
  have h3 : 10 ^ (10 * (ds.drop a).length) ≤ 10 ^ (10 * ds.length) := Nat.pow_le_pow_right (by omega) (by simp; omega)
  omega

set_option maxHeartbeats 2000000 in
theorem rof_any (A : Option Addr) (ds : List Nat) (n c : Nat) (w : World) (hr : Es w w.heap.size A n ds) (hn : n ≤ 100000) :
    Calls Try.prog 16 #[.slice A n c] w (RetD w (valB 4294967296 ds)) := by
  have HR := Lib.hid hr; clear hr
  go_enter Try.func16, Try.ntmps16
  go_wp2_with fail
  go_loopw [3, 4] (fun ov iv wr => ∃ (a : Int) (B : Option Addr) (k c : Nat), -1 ≤ a ∧ a < n ∧ iv = .int .i64 a ∧ ov = .slice B k c ∧ Hid (DN wr B k c (valB 4294967296 (ds.drop (a + 1).toNat)) ∧ Below w.heap.size w wr)) (fun _ iv _ => (intOf iv + 1).toNat)
  case atStart =>
    refine ⟨(n : Int) - 1, none, 0, 0, by omega, by omega, rfl, rfl, Lib.hid ⟨?_, Below.refl _ _⟩⟩
    have h1 := HR.out.len
    rw [show ((n : Int) - 1 + 1).toNat = n by omega, List.drop_of_length_le (by omega)]
    exact nil_dn _
  case round =>
    obtain ⟨a, B, k, cc, ha, ha2, rfl, rfl, HJ⟩ := hrel
    by_cases ha3 : 0 ≤ a
    · obtain ⟨a, rfl⟩ := Int.eq_ofNat_of_zero_le ha3
      obtain ⟨ad, rfl, hb1, hcell⟩ := (HR.out.below HJ.out.2).at_ (show a < n by omega)
      have hd := HR.out.lt (show a < n by omega)
      have hk := HJ.out.1.len (drop_lt HR.out.2.2 _)
      have hl := HR.out.len
      rw [← hl] at hk
      have HLL := Lib.hid hl; clear hl
      go_wp2_with fail
      refine (small_any B k cc 4294967296 (nth ds a) _ wr HJ.out.1 (by omega) (by omega) (by omega)).mono ?_
      rintro e w1 ⟨A1, k1, c1, rfl, h1, hb⟩
      have H1 := Lib.hid h1; clear h1
      have HB := Lib.hid (bthen HJ.out.2 hb HJ.out.2.size); clear hb
      go_wp2_with fail
      refine ⟨⟨(a : Int) - 1, A1, k1, c1, by omega, by omega, by go_num, rfl, Lib.hid ⟨?_, HB.out⟩⟩, by simp [intOf]⟩
      have h := H1.out
      rw [show ((a : Int) + 1).toNat = a + 1 by omega] at h
      rw [show ((a : Int) - 1 + 1).toNat = a by omega, valB_drop (by have := HLL.out; omega), Nat.add_comm, Nat.mul_comm]
      exact h
    · have ha4 : a = -1 := by omega
      subst ha4
      go_wp2_with fail
      go_ret
      exact ⟨B, k, cc, rfl, HJ.out.1, HJ.out.2⟩

set_option maxHeartbeats 2000000 in
theorem rcmp_any (A : Option Addr) (n c N : Nat) (B : Option Addr) (m d M : Nat) (w : World) (hr : DN w A n c N) (hs : DN w B m d M) :
    Calls Try.prog 15 #[.slice A n c, .slice B m d] w fun e w' => e = .returned (.int .i64 (cmpN N M)) ∧ Below w.heap.size w w' := by
  obtain ⟨hc, l, hN, hX⟩ := hr
  obtain ⟨hd, f, hM, hY⟩ := hs
  have hl : n = l.length := by rw [hX.len, ints_length]
  have hf : m = f.length := by rw [hY.len, ints_length]
  have hk2 := hX.le
  have hj2 := hY.le
  have H1 := Lib.hid hX; clear hX
  have H2 := Lib.hid hY; clear hY
  have HL := Lib.hid hl; clear hl
  have HF := Lib.hid hf; clear hf
  have N1 := Lib.hid hN; clear hN
  have N2 := Lib.hid hM; clear hM
  by_cases hkj : n = m
  · have hb : ((n : Int) != (m : Int)) = false := by simp [hkj]
    obtain rfl : n = m := hkj
    go_enter Try.func15, Try.ntmps15
    go_wp2_with fail
    go_loopw [5] (fun i wr => ∃ a : Int, -1 ≤ a ∧ a < n ∧ i = .int .i64 a ∧ Hid (l.drop (a + 1).toNat = f.drop (a + 1).toNat ∧ Below w.heap.size w wr)) (fun i _ => (intOf i + 1).toNat)
    case atStart =>
      refine ⟨(n : Int) - 1, by omega, by omega, rfl, Lib.hid ⟨?_, Below.refl _ _⟩⟩
      have h1 := HL.out
      have h2 := HF.out
      rw [show ((n : Int) - 1 + 1).toNat = n by omega, List.drop_of_length_le (by omega), List.drop_of_length_le (by omega)]
    case round =>
      obtain ⟨a, ha, ha2, rfl, HJ⟩ := hrel
      by_cases ha3 : 0 ≤ a
      · obtain ⟨a, rfl⟩ := Int.eq_ofNat_of_zero_le ha3
        obtain ⟨ad, rfl, hb1, hcell⟩ := (H1.out.below HJ.out.2).dig (show a < n by omega)
        obtain ⟨ad2, rfl, hb2, hcell2⟩ := (H2.out.below HJ.out.2).dig (show a < n by omega)
        have h0 := HJ.out.1
        rw [show ((a : Int) + 1).toNat = a + 1 by omega] at h0
        have H0 := Lib.hid h0; clear h0
        rcases Nat.lt_trichotomy (nth l a) (nth f a) with h | h | h
        · have hq : nth l a < nth f a := h
          have HH := Lib.hid h; clear h
          go_wp2_with fail
          go_quiet (fail)
          go_wp2_with fail
          go_ret
          refine ⟨ret_int ?_, below_drewN HJ.out.2 _⟩
          have := val_cmp (b := 10) N1.out.2.1 (by rw [← HL.out, ← HF.out]) (by rw [← HL.out]; omega) H0.out HH.out
          rw [N1.out.1, N2.out.1] at this
          simp [cmpN, this]
        · have hq : ¬ nth l a < nth f a := by omega
          have hq2 : ¬ nth f a < nth l a := by omega
          have HH := Lib.hid h; clear h
          go_wp2_with fail
          go_quiet (fail)
          go_wp2_with fail
          go_quiet (fail)
          go_wp2_with fail
          refine ⟨⟨(a : Int) - 1, by omega, by omega, by go_num, Lib.hid ⟨?_, below_drewN HJ.out.2 _⟩⟩, by simp [intOf]⟩
          have h1 : a < l.length := by have := HL.out; omega
          have h2 : a < f.length := by have := HF.out; omega
          rw [show ((a : Int) - 1 + 1).toNat = a by omega, List.drop_eq_getElem_cons h1, List.drop_eq_getElem_cons h2, H0.out, ← nth_eq h1, ← nth_eq h2, HH.out]
        · have hq : ¬ nth l a < nth f a := by omega
          have hq2 : nth f a < nth l a := h
          have HH := Lib.hid h; clear h
          go_wp2_with fail
          go_quiet (fail)
          go_wp2_with fail
          go_quiet (fail)
          go_wp2_with fail
          go_ret
          refine ⟨ret_int ?_, below_drewN (below_drewN HJ.out.2 _) _⟩
          have := val_cmp (b := 10) N2.out.2.1 (by rw [← HL.out, ← HF.out]) (by rw [← HF.out]; omega) H0.out.symm HH.out
          rw [N1.out.1, N2.out.1] at this
          simp [cmpN, this, Nat.not_lt_of_gt this]
      · have ha4 : a = -1 := by omega
        subst ha4
        go_wp2_with fail
        go_ret
        refine ⟨ret_int ?_, HJ.out.2⟩
        have h0 := HJ.out.1
        simp only [show ((-1 : Int) + 1).toNat = 0 from rfl, List.drop_zero] at h0
        have h1 := N1.out.1
        have h2 := N2.out.1
        rw [h0] at h1
        simp [cmpN, ← h1, ← h2]
  · have hb : ((n : Int) != (m : Int)) = true := by simp; omega
    rcases Nat.lt_or_gt_of_ne hkj with h | h
    · have hq : n < m := h
      have HH := Lib.hid h; clear h hkj
      go_enter Try.func15, Try.ntmps15
      go_wp2_with fail
      go_ret
      refine ⟨ret_int ?_, Below.refl _ _⟩
      have := N1.out.len_lt N2.out (by omega) (by rw [← HL.out, ← HF.out]; exact HH.out)
      simp [cmpN, this]
    · have hq : ¬ n < m := by omega
      have HH := Lib.hid h; clear h hkj
      go_enter Try.func15, Try.ntmps15
      go_wp2_with fail
      go_ret
      refine ⟨ret_int ?_, Below.refl _ _⟩
      have := N2.out.len_lt N1.out (by omega) (by rw [← HL.out, ← HF.out]; exact HH.out)
      simp [cmpN, this, Nat.not_lt_of_gt this]

set_option maxHeartbeats 4000000 in
theorem radd_any (A : Option Addr) (n c N : Nat) (B : Option Addr) (m d M : Nat) (w : World) (hr : DN w A n c N) (hs : DN w B m d M) (hn : n ≤ 10000000) (hm : m ≤ 10000000) :
    Calls Try.prog 28 #[.slice A n c, .slice B m d] w (RetD w (N + M)) := by
  obtain ⟨hc, D, hN, hX⟩ := hr
  obtain ⟨hd, F, hM, hY⟩ := hs
  have hl : n = D.length := by rw [hX.len, ints_length]
  have hf : m = F.length := by rw [hY.len, ints_length]
  have H1 := Lib.hid hX; clear hX
  have H2 := Lib.hid hY; clear hY
  have HL := Lib.hid hl; clear hl
  have HF := Lib.hid hf; clear hf
  have N1 := Lib.hid hN; clear hN
  have N2 := Lib.hid hM; clear hM
  go_enter Try.func28, Try.ntmps28
  go_wp2_with fail
  go_loopw [5, 6, 7] (fun ov cv iv wr => ∃ (i cr : Nat) (L : List Nat), iv = .int .i64 i ∧ cv = .int .i64 cr ∧ cr ≤ 1 ∧ i ≤ n + m + 1 ∧ Hid (DaInv D F L i cr ∧ wr.ownsRow w.heap.size 3 1 ov i (I64 (ints L)) ∧ Below w.heap.size w wr)) (fun _ _ iv _ => n + m + 5 - (intOf iv).toNat)
  case atStart => exact ⟨0, 0, [], rfl, rfl, by omega, by omega, Lib.hid ⟨DaInv.start D F, own_nil _ _ _, Below.refl _ _⟩⟩
  case round =>
    obtain ⟨i, cr, L, rfl, rfl, hcr, hi, HJ⟩ := hrel
    obtain ⟨Ao, co, rfl⟩ := own_form HJ.out.2.1
    have nx : ∀ s, (i < n ∨ i < m ∨ 0 < cr) → s = cr + (if i < n then nth D i else 0) + (if i < m then nth F i else 0) → DaInv D F (L ++ [s % 10]) (i + 1) (s / 10) ∧ i + 1 ≤ n + m + 1 ∧ s / 10 ≤ 1 := fun s h1 h2 => by
      rw [HL.out, HF.out] at h1 h2
      have h3 := HJ.out.1.step N1.out N2.out h1 h2
      have h4 := h3.2.2.2.2.1
      have h5 := h3.2.2.2.1
      rw [← HL.out, ← HF.out] at h4
      exact ⟨h3, by omega, h5⟩
    have NX := Lib.hid nx; clear nx
    by_cases hlt : i < n
    · obtain ⟨ad, rfl, hb1, hcell⟩ := (H1.out.below HJ.out.2.2).dig hlt
      have d10 := N1.out.2.1 _ (nth_mem (show i < D.length by rw [← HL.out]; exact hlt))
      by_cases hlt2 : i < m
      · obtain ⟨ad2, rfl, hb2, hcell2⟩ := (H2.out.below HJ.out.2.2).dig hlt2
        have f10 := N2.out.2.1 _ (nth_mem (show i < F.length by rw [← HF.out]; exact hlt2))
        obtain ⟨s1, hs1⟩ : ∃ s, s = cr + nth D i := ⟨_, rfl⟩
        obtain ⟨s, hs⟩ : ∃ s, s = s1 + nth F i := ⟨_, rfl⟩
        have e1 : (cr : Int) + (nth D i : Int) = (s1 : Int) := by omega
        have e2 : (s1 : Int) + (nth F i : Int) = (s : Int) := by omega
        have e3 := tmod10 s
        have e4 := tdiv10 s
        have hb3 : s1 ≤ 20 := by omega
        have hb4 : s ≤ 40 := by omega
        have hst := Lib.hid (NX.out s (.inl hlt) (by rw [if_pos hlt, if_pos hlt2]; omega))
        clear hs hs1
        go_wp2_with (at_builtin; refine app_num rfl (.tmp 44) (.tmp 47) rfl w.heap.size _ i L rfl (HJ.out.2.1.alloc _) wr.heap.size (s % 10) rfl (Blk.new wr 3 _) (by omega) (by have := HJ.out.2.2.size; simp; omega) ?_; intro v' w4 hown4 hg4 hat4; have H4 := Lib.hid (And.intro hown4 hg4); clear hown4 hg4 hat4)
        have hB4 := Below.appended (HJ.out.2.2.alloc HJ.out.2.2.size (.cells #[.int .i64 ((s % 10 : Nat) : Int)] 3)) (HJ.out.2.1.alloc _) H4.out.2 (by have := HJ.out.2.2.size; simp; omega) (Nat.le_refl _)
        refine ⟨⟨i + 1, s / 10, L ++ [s % 10], by go_num, by simp, hst.out.2.2, hst.out.2.1, Lib.hid ⟨hst.out.1, H4.out.1, hB4⟩⟩, ?_⟩
        simp [intOf]; omega
      · obtain ⟨s, hs⟩ : ∃ s, s = cr + nth D i := ⟨_, rfl⟩
        have e1 : (cr : Int) + (nth D i : Int) = (s : Int) := by omega
        have e3 := tmod10 s
        have e4 := tdiv10 s
        have hb3 : s ≤ 20 := by omega
        have hst := Lib.hid (NX.out s (.inl hlt) (by rw [if_pos hlt, if_neg hlt2]; omega))
        clear hs
        go_wp2_with (at_builtin; refine app_num rfl (.tmp 44) (.tmp 47) rfl w.heap.size _ i L rfl (HJ.out.2.1.alloc _) wr.heap.size (s % 10) rfl (Blk.new wr 3 _) (by omega) (by have := HJ.out.2.2.size; simp; omega) ?_; intro v' w4 hown4 hg4 hat4; have H4 := Lib.hid (And.intro hown4 hg4); clear hown4 hg4 hat4)
        have hB4 := Below.appended (HJ.out.2.2.alloc HJ.out.2.2.size (.cells #[.int .i64 ((s % 10 : Nat) : Int)] 3)) (HJ.out.2.1.alloc _) H4.out.2 (by have := HJ.out.2.2.size; simp; omega) (Nat.le_refl _)
        refine ⟨⟨i + 1, s / 10, L ++ [s % 10], by go_num, by simp, hst.out.2.2, hst.out.2.1, Lib.hid ⟨hst.out.1, H4.out.1, hB4⟩⟩, ?_⟩
        simp [intOf]; omega
    · by_cases hlt2 : i < m
      · obtain ⟨ad2, rfl, hb2, hcell2⟩ := (H2.out.below HJ.out.2.2).dig hlt2
        have f10 := N2.out.2.1 _ (nth_mem (show i < F.length by rw [← HF.out]; exact hlt2))
        obtain ⟨s, hs⟩ : ∃ s, s = cr + nth F i := ⟨_, rfl⟩
        have e1 : (cr : Int) + (nth F i : Int) = (s : Int) := by omega
        have e3 := tmod10 s
        have e4 := tdiv10 s
        have hb3 : s ≤ 20 := by omega
        have hst := Lib.hid (NX.out s (.inr (.inl hlt2)) (by rw [if_neg hlt, if_pos hlt2]; omega))
        clear hs
        go_wp2_with (at_builtin; refine app_num rfl (.tmp 44) (.tmp 47) rfl w.heap.size _ i L rfl (HJ.out.2.1.alloc _) wr.heap.size (s % 10) rfl (Blk.new wr 3 _) (by omega) (by have := HJ.out.2.2.size; simp; omega) ?_; intro v' w4 hown4 hg4 hat4; have H4 := Lib.hid (And.intro hown4 hg4); clear hown4 hg4 hat4)
        have hB4 := Below.appended (HJ.out.2.2.alloc HJ.out.2.2.size (.cells #[.int .i64 ((s % 10 : Nat) : Int)] 3)) (HJ.out.2.1.alloc _) H4.out.2 (by have := HJ.out.2.2.size; simp; omega) (Nat.le_refl _)
        refine ⟨⟨i + 1, s / 10, L ++ [s % 10], by go_num, by simp, hst.out.2.2, hst.out.2.1, Lib.hid ⟨hst.out.1, H4.out.1, hB4⟩⟩, ?_⟩
        simp [intOf]; omega
      · by_cases hc0 : 0 < cr
        · have e3 := tmod10 cr
          have e4 := tdiv10 cr
          have hst := Lib.hid (NX.out cr (.inr (.inr hc0)) (by rw [if_neg hlt, if_neg hlt2]; omega))
          go_wp2_with (at_builtin; refine app_num rfl (.tmp 44) (.tmp 47) rfl w.heap.size _ i L rfl (HJ.out.2.1.alloc _) wr.heap.size (cr % 10) rfl (Blk.new wr 3 _) (by omega) (by have := HJ.out.2.2.size; simp; omega) ?_; intro v' w4 hown4 hg4 hat4; have H4 := Lib.hid (And.intro hown4 hg4); clear hown4 hg4 hat4)
          have hB4 := Below.appended (HJ.out.2.2.alloc HJ.out.2.2.size (.cells #[.int .i64 ((cr % 10 : Nat) : Int)] 3)) (HJ.out.2.1.alloc _) H4.out.2 (by have := HJ.out.2.2.size; simp; omega) (Nat.le_refl _)
          refine ⟨⟨i + 1, cr / 10, L ++ [cr % 10], by go_num, by simp, hst.out.2.2, hst.out.2.1, Lib.hid ⟨hst.out.1, H4.out.1, hB4⟩⟩, ?_⟩
          simp [intOf]; omega
        · obtain rfl : cr = 0 := by omega
          have h0 : ((0 : Nat) : Int) = 0 := rfl
          have hv := Lib.hid (HJ.out.1.done N1.out N2.out (by rw [← HL.out]; omega) (by rw [← HF.out]; omega))
          clear NX
          go_wp2_with fail
          go_ret
          obtain ⟨A2, c2, he, hE⟩ := Xs.of_own HJ.out.2.1 (ints_in HJ.out.1.2.1)
          cases he
          exact ⟨Ao, i, co, rfl, ⟨own_cap' HJ.out.2.1, L, hv.out, hE⟩, HJ.out.2.2⟩
end Go.Proofs.Ytnpokifmknepoaa
