/-
  Contracts of the reference of layer 4, third part: Sub, Mul, DivMod.
-/
import Derived.Test.YtnpokifmknepoaaNRef2
namespace Go.Proofs.Ytnpokifmknepoaa
open Go.RowKit

def RetDS (w : World) (N M : Nat) (e : Ending) (w' : World) : Prop :=
  (N < M → e = .returned (.tuple #[.slice none 0 0, .bool false]) ∧ Below w.heap.size w w') ∧
  (M ≤ N → ∃ A k c, e = .returned (.tuple #[.slice A k c, .bool true]) ∧ DN w' A k c (N - M) ∧ Below w.heap.size w w')

theorem cmpN_neg {a b : Nat} (h : a < b) : cmpN a b = -1 := by simp [cmpN, h]
theorem cmpN_nonneg {a b : Nat} (h : b ≤ a) : 0 ≤ cmpN a b ∧ cmpN a b ≤ 1 := by
  unfold cmpN; rw [if_neg (by omega)]; split <;> omega

set_option maxHeartbeats 4000000 in
theorem rsub_any (A : Option Addr) (n c N : Nat) (B : Option Addr) (m d M : Nat) (w : World) (hr : DN w A n c N) (hs : DN w B m d M) (hn : n ≤ 10000000) (hm : m ≤ 10000000) :
    Calls Try.prog 27 #[.slice A n c, .slice B m d] w (RetDS w N M) := by
  have HA := Lib.hid hr; have HBn := Lib.hid hs
  obtain ⟨hc, D, hN, hX⟩ := hr
  obtain ⟨hd, F, hM, hY⟩ := hs
  have hl : n = D.length := by rw [hX.len, ints_length]
  have hf : m = F.length := by rw [hY.len, ints_length]
  have H1 := Lib.hid hX; clear hX
  have H2 := Lib.hid hY; clear hY
  have HL := Lib.hid hl; clear hl
  have HF := Lib.hid hf; clear hf
  have N1 := Lib.hid hN; clear hN
  have N2 := Lib.hid hM; clear hM
  go_enter Try.func27, Try.ntmps27
  go_wp2_with fail
  refine (rcmp_any A n c N B m d M _ HA.out HBn.out).mono ?_
  rintro e w1 ⟨rfl, hb⟩
  by_cases hlt : N < M
  · rw [cmpN_neg hlt]
    have HW := Lib.hid hb; clear hb
    have HLT := Lib.hid hlt; clear hlt
    go_wp2_with fail
    refine bodyPost_end (results_tmp2 rfl _ _ _) rfl ?_
    exact ⟨fun _ => ⟨rfl, HW.out⟩, fun h => absurd HLT.out (by omega)⟩
  · have hge := (cmpN_nonneg (show M ≤ N by omega)).1
    have hge2 := (cmpN_nonneg (show M ≤ N by omega)).2
    have HLT := Lib.hid (show M ≤ N by omega); clear hlt
    generalize cmpN N M = z at *
    replace H1 := Lib.hid (H1.out.new hb); replace H2 := Lib.hid (H2.out.new hb)
    have HW := Lib.hid hb; clear hb HA HBn
    have tz : decide (z < 0) = false := by simp; omega
    go_wp2_with fail
    go_loopw [6, 7, 8, 9] (fun ov bv iv _ wr => ∃ (i br : Nat) (L : List Nat), iv = .int .i64 i ∧ bv = .int .i64 br ∧ br ≤ 1 ∧ i ≤ n ∧ Hid (DsInv D F L i br ∧ wr.ownsRow w1.heap.size 3 1 ov i (I64 (ints L)) ∧ Below w1.heap.size w1 wr)) (fun _ _ iv _ _ => n - (intOf iv).toNat)
    case atStart => exact ⟨0, 0, [], rfl, rfl, by omega, by omega, Lib.hid ⟨DsInv.start D F, own_nil _ _ _, Below.refl _ _⟩⟩
    case round =>
      obtain ⟨i, br, L, rfl, rfl, hbr, hi, HJ⟩ := hrel
      obtain ⟨Ao, co, rfl⟩ := own_form HJ.out.2.1
      by_cases hlt : i < n
      · obtain ⟨ad, rfl, hb1, hcell⟩ := (H1.out.below HJ.out.2.2).dig hlt
        have d10 := N1.out.2.1 _ (nth_mem (show i < D.length by rw [← HL.out]; exact hlt))
        have key : ∀ (y r br' : Nat), y = (if i < m then nth F i else 0) → br' ≤ 1 → r < 10 → r + y + br = nth D i + 10 * br' → DsInv D F (L ++ [r]) (i + 1) br' := fun y r br' h1 h2 h3 h4 =>
          HJ.out.1.step (by rw [← HL.out]; exact hlt) rfl (by rw [← HF.out]; exact h1) h2 h3 h4
        have KEY := Lib.hid key; clear key
        obtain ⟨x, hx⟩ : ∃ x, x = nth D i := ⟨_, rfl⟩
        rw [← hx] at hcell d10 KEY
        clear hx
        by_cases hlt2 : i < m
        · obtain ⟨ad2, rfl, hb2, hcell2⟩ := (H2.out.below HJ.out.2.2).dig hlt2
          have f10 := N2.out.2.1 _ (nth_mem (show i < F.length by rw [← HF.out]; exact hlt2))
          rw [if_pos hlt2] at KEY
          obtain ⟨y, hy⟩ : ∃ y, y = nth F i := ⟨_, rfl⟩
          rw [← hy] at hcell2 f10 KEY
          clear hy
          obtain ⟨z1, hz1⟩ : ∃ z : Int, z = (x : Int) - (br : Int) - (y : Int) := ⟨_, rfl⟩
          have e1 : (x : Int) - (br : Int) - (y : Int) = z1 := hz1.symm
          by_cases hneg : z1 < 0
          · obtain ⟨r, hr⟩ : ∃ r : Nat, (r : Int) = z1 + 10 := ⟨(z1 + 10).toNat, by omega⟩
            have hst := Lib.hid (KEY.out y r 1 rfl (by omega) (by omega) (by omega))
            have e2 := hr.symm
            have b1 : -20 ≤ z1 := by omega
            have b2 : z1 ≤ 20 := by omega
            clear KEY hz1 hr
            have tz1 : decide (z1 < 0) = true := by simp; omega
            go_wp2_with (at_builtin; refine app_num rfl (.tmp 40) (.tmp 42) rfl w1.heap.size _ i L rfl (HJ.out.2.1.alloc _) wr.heap.size r rfl (Blk.new wr 3 _) (by omega) (by have := HJ.out.2.2.size; simp; omega) ?_; intro v' w4 hown4 hg4 hat4; have H4 := Lib.hid (And.intro hown4 hg4); clear hown4 hg4 hat4)
            have hB4 := Below.appended (HJ.out.2.2.alloc HJ.out.2.2.size (.cells #[.int .i64 (r : Int)] 3)) (HJ.out.2.1.alloc _) H4.out.2 (by have := HJ.out.2.2.size; simp; omega) (Nat.le_refl _)
            refine ⟨⟨i + 1, 1, L ++ [r], by go_num, by simp, by omega, by omega, Lib.hid ⟨hst.out, H4.out.1, hB4⟩⟩, ?_⟩
            simp [intOf]; omega
          · obtain ⟨r, hr⟩ : ∃ r : Nat, (r : Int) = z1 := ⟨z1.toNat, by omega⟩
            have hst := Lib.hid (KEY.out y r 0 rfl (by omega) (by omega) (by omega))
            rw [← hr] at e1
            have b2 : r ≤ 20 := by omega
            clear KEY hz1 hneg hr
            go_wp2_with (at_builtin; refine app_num rfl (.tmp 40) (.tmp 42) rfl w1.heap.size _ i L rfl (HJ.out.2.1.alloc _) wr.heap.size r rfl (Blk.new wr 3 _) (by omega) (by have := HJ.out.2.2.size; simp; omega) ?_; intro v' w4 hown4 hg4 hat4; have H4 := Lib.hid (And.intro hown4 hg4); clear hown4 hg4 hat4)
            have hB4 := Below.appended (HJ.out.2.2.alloc HJ.out.2.2.size (.cells #[.int .i64 (r : Int)] 3)) (HJ.out.2.1.alloc _) H4.out.2 (by have := HJ.out.2.2.size; simp; omega) (Nat.le_refl _)
            refine ⟨⟨i + 1, 0, L ++ [r], by go_num, by simp, by omega, by omega, Lib.hid ⟨hst.out, H4.out.1, hB4⟩⟩, ?_⟩
            simp [intOf]; omega
        · rw [if_neg hlt2] at KEY
          obtain ⟨z1, hz1⟩ : ∃ z : Int, z = (x : Int) - (br : Int) := ⟨_, rfl⟩
          have e1 : (x : Int) - (br : Int) = z1 := hz1.symm
          by_cases hneg : z1 < 0
          · obtain ⟨r, hr⟩ : ∃ r : Nat, (r : Int) = z1 + 10 := ⟨(z1 + 10).toNat, by omega⟩
            have hst := Lib.hid (KEY.out 0 r 1 rfl (by omega) (by omega) (by omega))
            have e2 := hr.symm
            have b1 : -20 ≤ z1 := by omega
            have b2 : z1 ≤ 20 := by omega
            clear KEY hz1 hr
            have tz1 : decide (z1 < 0) = true := by simp; omega
            go_wp2_with (at_builtin; refine app_num rfl (.tmp 40) (.tmp 42) rfl w1.heap.size _ i L rfl (HJ.out.2.1.alloc _) wr.heap.size r rfl (Blk.new wr 3 _) (by omega) (by have := HJ.out.2.2.size; simp; omega) ?_; intro v' w4 hown4 hg4 hat4; have H4 := Lib.hid (And.intro hown4 hg4); clear hown4 hg4 hat4)
            have hB4 := Below.appended (HJ.out.2.2.alloc HJ.out.2.2.size (.cells #[.int .i64 (r : Int)] 3)) (HJ.out.2.1.alloc _) H4.out.2 (by have := HJ.out.2.2.size; simp; omega) (Nat.le_refl _)
            refine ⟨⟨i + 1, 1, L ++ [r], by go_num, by simp, by omega, by omega, Lib.hid ⟨hst.out, H4.out.1, hB4⟩⟩, ?_⟩
            simp [intOf]; omega
          · obtain ⟨r, hr⟩ : ∃ r : Nat, (r : Int) = z1 := ⟨z1.toNat, by omega⟩
            have hst := Lib.hid (KEY.out 0 r 0 rfl (by omega) (by omega) (by omega))
            rw [← hr] at e1
            have b2 : r ≤ 20 := by omega
            clear KEY hz1 hneg hr
            go_wp2_with (at_builtin; refine app_num rfl (.tmp 40) (.tmp 42) rfl w1.heap.size _ i L rfl (HJ.out.2.1.alloc _) wr.heap.size r rfl (Blk.new wr 3 _) (by omega) (by have := HJ.out.2.2.size; simp; omega) ?_; intro v' w4 hown4 hg4 hat4; have H4 := Lib.hid (And.intro hown4 hg4); clear hown4 hg4 hat4)
            have hB4 := Below.appended (HJ.out.2.2.alloc HJ.out.2.2.size (.cells #[.int .i64 (r : Int)] 3)) (HJ.out.2.1.alloc _) H4.out.2 (by have := HJ.out.2.2.size; simp; omega) (Nat.le_refl _)
            refine ⟨⟨i + 1, 0, L ++ [r], by go_num, by simp, by omega, by omega, Lib.hid ⟨hst.out, H4.out.1, hB4⟩⟩, ?_⟩
            simp [intOf]; omega
      · obtain rfl : i = n := by omega
        go_wp2_with fail
        have hi3 := HJ.out.1
        rw [HL.out] at hi3
        have hv := hi3.done N1.out N2.out HLT.out
        obtain ⟨A2, c2, he, hE⟩ := Xs.of_own HJ.out.2.1 (ints_in HJ.out.1.2.1)
        cases he
        refine (rtrim_any Ao L i co (own_cap' HJ.out.2.1) _ hE HJ.out.1.2.1).mono ?_
        rintro e w4 ⟨k, rfl, hdn, rfl⟩
        rw [hv] at hdn
        have H4 := Lib.hid hdn; clear hdn hE hv hi3
        go_wp2_with fail
        refine bodyPost_end (results_tmp2 rfl _ _ _) rfl ?_
        exact ⟨fun h => absurd HLT.out (by omega), fun _ => ⟨Ao, k, co, rfl, H4.out, bthen HW.out HJ.out.2.2 HW.out.size⟩⟩
end Go.Proofs.Ytnpokifmknepoaa
