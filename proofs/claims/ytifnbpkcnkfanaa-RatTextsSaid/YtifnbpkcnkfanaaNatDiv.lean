/-
  Contract of nat.DivMod.
-/
import Derived.Test.YtifnbpkcnkfanaaNatLong
namespace Go.Proofs.Ytifnbpkcnkfanaa
open Go.RowKit

/-- DivMod's answers. -/
def RetDM (w : World) (N M : Nat) (e : Ending) (w' : World) : Prop :=
  (M = 0 → e = .returned (.tuple #[.slice none 0 0, .slice none 0 0, .int .i64 18]) ∧ Below w.heap.size w w') ∧
  (M ≠ 0 → ∃ A k c l A' k' c' l', e = .returned (.tuple #[.slice A k c, .slice A' k' c', .int .i64 0]) ∧ (k ≤ c ∧ Es w' w'.heap.size A k l ∧ Nrm 4294967296 l (N / M)) ∧ (k' ≤ c' ∧ Es w' w'.heap.size A' k' l' ∧ Nrm 4294967296 l' (N % M)) ∧ Below w.heap.size w w')
theorem own_cap {w : World} {base : Nat} {e : TypeId} {n : Nat} {v : Value} {xs : List Value} (h : w.ownsRow base e 1 v n xs) : ∃ A c, v = .slice A n c ∧ n ≤ c := by
  rcases h.2 with ⟨rfl, hn⟩ | ⟨g, cap, cur, rfl, _, _, hc, _⟩
  · exact ⟨none, 0, by rw [hn], by omega⟩
  · exact ⟨_, _, rfl, hc⟩

set_option maxHeartbeats 8000000 in
theorem divMod_any (A : Option Addr) (ds : List Nat) (n c : Nat) (hc : n ≤ c) (B : Option Addr) (fs : List Nat) (m d : Nat) (hd : m ≤ d) (w : World) (hr : Es w w.heap.size A n ds) (hs : Es w w.heap.size B m fs) (hn : n ≤ 1000000) :
    Calls Try.prog 46 #[.slice A n c, .slice B m d] w (RetDM w (valB 4294967296 ds) (valB 4294967296 fs)) := by
  have HR := Lib.hid hr; clear hr
  have HS := Lib.hid hs; clear hs
  go_enter Try.func46, Try.ntmps46
  go_wp2_with fail
  refine (trim_any A ds n c hc _ HR.out).mono ?_
  rintro e w1 ⟨k, l, rfl, hk, hl, hN, rfl⟩
  have H1 := Lib.hid hl; clear hl
  have N1 := Lib.hid hN; clear hN
  go_wp2_with fail
  refine (trim_any B fs m d hd _ HS.out).mono ?_
  rintro e w2 ⟨j, f, rfl, hj, hf, hM, rfl⟩
  have H2 := Lib.hid hf; clear hf
  have N2 := Lib.hid hM; clear hM
  generalize valB 4294967296 ds = N at *
  generalize valB 4294967296 fs = M at *
  have hk2 := H1.out.le
  have hj2 := H2.out.le
  have HZ := Lib.hid (N2.out.zero_iff (by omega)); rw [← H2.out.len] at HZ
  by_cases hj0 : j = 0
  · have HM0 := Lib.hid (HZ.out.1 hj0)
    subst hj0
    clear HZ
    go_wp2_with fail
    go_ret3
    exact ⟨fun _ => ⟨rfl, Below.refl _ _⟩, fun h => absurd HM0.out h⟩
  have hM0 : M ≠ 0 := fun h => hj0 (HZ.out.2 h)
  have hjb : ((j : Int) == 0) = false := by simp; omega
  have HM0 := Lib.hid hM0; clear hM0
  go_wp2_with fail
  refine (ncmp_any A l k k (Nat.le_refl _) B f j j (Nat.le_refl _) _ H1.out H2.out).mono ?_
  rintro e w3 ⟨rfl, hb3⟩
  rw [N1.out.1, N2.out.1]
  have HB3 := Lib.hid hb3; clear hb3
  by_cases hlt : N < M
  · rw [show cmpN N M = -1 by simp [cmpN, hlt]]
    have HLT := Lib.hid hlt; clear hlt
    go_wp2_with fail
    refine (clone_any A l k k (by omega) _ (H1.out.new HB3.out)).mono ?_
    rintro e w4 ⟨v, rfl, hown, hb4⟩
    obtain ⟨A2, c2, rfl, hc2⟩ := own_cap hown
    obtain ⟨A3, c3, he, hE4⟩ := Es.of_own hown H1.out.2.2
    cases he
    have HF := Lib.hid (And.intro hE4 (bthen HB3.out hb4 HB3.out.size)); clear hE4 hb4 hown
    go_wp2_with fail
    go_ret3
    refine ⟨fun h => absurd h HM0.out, fun _ => ⟨none, 0, 0, [], _, k, c2, l, rfl, ⟨Nat.le_refl _, ⟨Reads.none_, ⟨rfl, by omega⟩, by simp⟩, ?_⟩, ⟨hc2, HF.out.1, ?_⟩, HF.out.2⟩⟩
    · rw [Nat.div_eq_of_lt HLT.out]; exact Nrm.nil _
    · rw [Nat.mod_eq_of_lt HLT.out]; exact N1.out
  · have hge : 0 ≤ cmpN N M := by simp only [cmpN, if_neg hlt]; split <;> omega
    generalize cmpN N M = cv at *
    have HLT := Lib.hid hlt; clear hlt
    have hjk : j ≤ k := by
      rcases Nat.lt_or_ge k j with h | h
      · have := N1.out.len_lt N2.out (by omega) (by rw [← H1.out.len, ← H2.out.len]; exact h)
        exact absurd this HLT.out
      · exact h
    by_cases hj1 : j = 1
    · subst hj1
      have H2c := Lib.hid (H2.out.below HB3.out)
      go_wp2_with fail
      refine (clone_any A l k k (by omega) _ (H1.out.new HB3.out)).mono ?_
      rintro e w4 ⟨v, rfl, hown, hb4⟩
      obtain ⟨g, c2, X, rfl, hg, hc2, hblk, hll⟩ := own_rowX hown (by omega)
      obtain ⟨bd, rfl, hbd, cB⟩ := ((H2.out.new HB3.out).new hb4).at_ (show 0 < 1 by omega)
      have cB0 : w4.cell? bd = some (.int .u32 (nth f 0 : Int)) := by simpa [Addr.add] using cB
      have hf0 := H2.out.lt (show 0 < 1 by omega)
      have hfM : M = nth f 0 := by
        have h1 := N2.out.1
        have h2 := H2.out.len
        obtain ⟨x, rfl⟩ : ∃ x, f = [x] := by
          match f, h2 with
          | [x], _ => exact ⟨x, rfl⟩
        rw [← h1]; simp [valB, nth, List.getD]
      have HF := Lib.hid (And.intro hblk (And.intro hll (And.intro (bthen HB3.out hb4 HB3.out.size) (And.intro hfM (And.intro hg hb4))))); clear hblk hll hfM hown hb4 cB
      go_wp2_with fail
      refine (divDigit_any g l X k c2 (nth f 0) w4 HF.out.2.1.symm HF.out.1 (by have h1 := HF.out.2.2.2.1; have h2 := HM0.out; omega) hf0 H1.out.2.2 (by omega)).mono ?_
      rintro e w5 ⟨rfl, L, hL1, hL2, hL3, hL4, hL5⟩
      rw [N1.out.1] at hL3 ⊢
      have hMf := HF.out.2.2.2.1
      rw [← hMf] at hL3 ⊢
      have HMf := Lib.hid hMf; clear hMf
      have hE5 := Es.of_blkX hL4 (by rw [hL1, HF.out.2.1]; omega) hL2
      rw [hL1, HF.out.2.1] at hE5
      have hB5 : Below w.heap.size w w5 := HF.out.2.2.1.grown hL5 HF.out.2.2.1.size (fun q hq => by cases hq; have := HF.out.2.2.2.2.1; have := HB3.out.size; omega)
      have H5 := Lib.hid (And.intro hE5 (And.intro hL3 hB5)); clear hE5 hL3 hB5 hL1 hL2 hL4 hL5
      go_wp2_with fail
      refine (trim_any _ L k c2 hc2 _ H5.out.1).mono ?_
      rintro e w6 ⟨k6, l6, rfl, hk6, hl6, hN6, rfl⟩
      rw [H5.out.2.1] at hN6
      have H6 := Lib.hid (And.intro hl6 hN6); clear hl6 hN6
      have hrl : N % M < 18446744073709551616 := by
        have := Nat.mod_lt N (show 0 < M by have := HM0.out; omega)
        have := HMf.out
        omega
      go_wp2_with fail
      refine (nof_any (N % M) hrl _).mono ?_
      rintro e w7 ⟨A7, k7, c7, l7, rfl, hk7, hE7, hN7, hb7⟩
      have H7 := Lib.hid (And.intro hE7 (And.intro hN7 hb7)); clear hE7 hN7 hb7
      go_wp2_with fail
      go_ret3
      exact ⟨fun h => absurd h HM0.out, fun _ => ⟨_, k6, k6, l6, A7, k7, c7, l7, rfl, ⟨Nat.le_refl _, H6.out.1.new H7.out.2.2, H6.out.2⟩, ⟨hk7, H7.out.1, H7.out.2.1⟩, bthen H5.out.2.2 H7.out.2.2 H5.out.2.2.size⟩⟩
    · have hj1b : ((j : Int) == 1) = false := by simp; omega
      go_wp2_with fail
      refine (divLong_any A B l f k j k j N M _ (H1.out.new HB3.out) (H2.out.new HB3.out) N1.out N2.out (by omega) hjk (by omega)).mono ?_
      rintro e w4 ⟨A4, k4, c4, l4, A5, k5, c5, l5, rfl, ⟨hk4, hE4, hv4⟩, ⟨hk5, hE5, hv5⟩, hb4⟩
      have HF := Lib.hid (And.intro hE4 (And.intro hv4 (And.intro hE5 (And.intro hv5 (bthen HB3.out hb4 HB3.out.size))))); clear hE4 hv4 hE5 hv5 hb4
      go_wp2_with fail
      refine (trim_any A4 l4 k4 c4 hk4 _ HF.out.1).mono ?_
      rintro e w6 ⟨k6, l6, rfl, hk6, hl6, hN6, rfl⟩
      rw [HF.out.2.1] at hN6
      have H6 := Lib.hid (And.intro hl6 hN6); clear hl6 hN6
      go_wp2_with fail
      refine (trim_any A5 l5 k5 c5 hk5 _ HF.out.2.2.1).mono ?_
      rintro e w7 ⟨k7, l7, rfl, hk7, hl7, hN7, rfl⟩
      rw [HF.out.2.2.2.1] at hN7
      have H7 := Lib.hid (And.intro hl7 hN7); clear hl7 hN7
      go_wp2_with fail
      go_ret3
      exact ⟨fun h => absurd h HM0.out, fun _ => ⟨_, k6, k6, l6, _, k7, k7, l7, rfl, ⟨Nat.le_refl _, H6.out⟩, ⟨Nat.le_refl _, H7.out⟩, HF.out.2.2.2.2⟩⟩

end Go.Proofs.Ytifnbpkcnkfanaa
