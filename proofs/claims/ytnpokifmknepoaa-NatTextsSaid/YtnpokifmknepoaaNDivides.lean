/-
  The walk of NatDivides.
-/
import Derived.Test.YtnpokifmknepoaaNRing
namespace Go.Proofs.Ytnpokifmknepoaa
open Go.RowKit

theorem ne_self (x : Nat) : ((x : Int) != (x : Int)) = false := by simp
theorem cmpN_lt {a b : Nat} (h : a < b) : cmpN a b = -1 := by simp [cmpN, h]
theorem divmod_back {a b : Nat} : a / b * b + a % b = a := by rw [Nat.mul_comm]; exact Nat.div_add_mod a b
section
variable {w : World} {A B : Option Addr} {n c m d a b N M : Nat}
theorem sub_weak (ha : Num w A n c a N) (hb : Num w B m d b M) (hab : a ≤ 10000) : Calls Try.prog 26 #[.slice A n c, .slice B m d] w fun e w' => ∃ v, e = .returned v ∧ Below w.heap.size w w' := by
  refine (sub_n ha hb hab).mono fun e w' h => ?_
  by_cases hlt : N < M
  · obtain ⟨h1, h2⟩ := h.1 hlt
    exact ⟨_, h1, h2⟩
  · obtain ⟨A', k', c', h1, -, -, h2⟩ := h.2 (by omega)
    exact ⟨_, h1, h2⟩
theorem bits_zero (ha : Num w A n c a 0) : Calls Try.prog 20 #[.slice A n c] w fun e w' => e = .returned (.int .i64 0) ∧ w = w' := by
  refine (bits_n ha).mono fun e w' h => ?_
  obtain ⟨b, h1, h2, -, h3⟩ := h
  rw [h2.zero] at h1
  exact ⟨h1, h3⟩
theorem bits_pos (ha : Num w A n c a N) (h0 : N ≠ 0) : Calls Try.prog 20 #[.slice A n c] w fun e w' => ∃ b : Nat, e = .returned (.int .i64 b) ∧ 0 < b ∧ b ≤ 320000 ∧ w = w' := by
  refine (bits_n ha).mono fun e w' h => ?_
  obtain ⟨b, h1, h2, h4, h3⟩ := h
  exact ⟨b, h1, Nat.pos_of_ne_zero (h2.pos h0), h4, h3⟩
end

section
variable {ops : Array Oper} {rest : List Oper} {o : Oper} {a : Act} {w0 : World} {Q : Exit → Act → World → Prop}
/-- append(nat.Nat{}, a...): a copy. -/
theorem app_copy (hgd : o.guard = none) (s x : Operand) (ho : o.op = .call { callee := .builtin .append, args := #[s, x], argTypes := #[23, 23] })
    {A : Option Addr} {n c : Nat} {ds : List Nat} (hs : a.eval s = .slice (some ⟨w0.heap.size, 0, none⟩) 0 0) (hx : a.eval x = .slice A n c) (hE : Es w0 w0.heap.size A n ds) (hn : n ≤ 1000000)
    (h : ∀ A' c' w', n ≤ c' → Es w' w'.heap.size A' n ds → Below w0.heap.size w0 w' → wpList Try.prog ops Q rest (a.put o.dst (.slice A' n c')) w') : wpList Try.prog ops Q (o :: rest) a (w0.alloc (.cells #[] 35)) := by
  obtain ⟨i, hi, hz, hs1, hby⟩ := info_parts info_u32
  refine wpList_append_any _ hgd s x 23 ho w0.heap.size 35 i _ 1 4 Try.underlying23 hi hz hs1 hby rfl (by omega) _ 0 [] hs (own_empty w0 _) w0.heap.size A n c (U32 ds) hx (hE.1.alloc (Nat.le_refl _) _) (one_U32 ds) (by simp only [maxLen]; omega) (by omega) (by simp) ?_
  intro v' w' h1 h2 h3
  have h4 : w'.ownsRow w0.heap.size 35 1 v' n (U32 ds) := by simpa using h1
  obtain ⟨A', c', rfl, hc'⟩ := own_cap h4
  obtain ⟨A2, c2, he, hE2⟩ := Es.of_own h4 hE.2.2
  cases he
  exact h A' c' w' hc' hE2 ((al w0 _).grown h2 (by simp) (fun k hk => by cases hk; exact Nat.le_refl _))
end

section
variable (A B : Option Addr) (n m c d : Nat) (w : World)
set_option maxHeartbeats 4000000 in
theorem divides_far (h1 : n ≤ 9223372036854775807) (h2 : m ≤ 9223372036854775807) (h : 60 < n ∨ 60 < m) :
    Calls Try.prog 8 #[.slice A n c, .slice B m d] w fun e w' => e = .returned (.bool true) ∧ Below w.heap.size w w' := by
  by_cases h3 : 60 < n
  · clear h
    have t1 : decide ((60 : Int) < (n : Int)) = true := by simp; omega
    go_enter Try.func8, Try.ntmps8
    go_wp2_with fail
    refine (awake_any _).mono ?_
    rintro e w1 ⟨rfl, hb⟩
    have HW := Lib.hid hb; clear hb
    go_wp2_with fail
    go_ret
    exact ⟨rfl, HW.out⟩
  · have h4 : 60 < m := by omega
    have t1 : decide ((60 : Int) < (n : Int)) = false := by simp; omega
    have t2 : decide ((60 : Int) < (m : Int)) = true := by simp; omega
    clear h
    go_enter Try.func8, Try.ntmps8
    go_wp2_with fail
    refine (awake_any _).mono ?_
    rintro e w1 ⟨rfl, hb⟩
    have HW := Lib.hid hb; clear hb
    go_wp2_with fail
    go_ret
    exact ⟨rfl, HW.out⟩

set_option maxHeartbeats 8000000 in
theorem divides_near (ds fs : List Nat) (ha : Es w w.heap.size A n ds) (hb : Es w w.heap.size B m fs) (hc : n ≤ c) (hd : m ≤ d) (h1 : n ≤ 60) (h2 : m ≤ 60) :
    Calls Try.prog 8 #[.slice A n c, .slice B m d] w fun e w' => e = .returned (.bool true) ∧ Below w.heap.size w w' := by
  have t1 : decide ((60 : Int) < (n : Int)) = false := by simp; omega
  have t2 : decide ((60 : Int) < (m : Int)) = false := by simp; omega
  have EA := Lib.hid ha; have EB := Lib.hid hb; clear ha hb
  go_enter Try.func8, Try.ntmps8
  go_wp2_with fail
  refine (awake_any _).mono ?_
  rintro e w1 ⟨rfl, hb⟩
  replace EA := Lib.hid (EA.out.new hb); replace EB := Lib.hid (EB.out.new hb)
  have HW := Lib.hid hb; clear hb
  go_wp2_with (first
    | (at_builtin; refine app_copy rfl (.tmp 22) (.tmp 23) rfl rfl rfl EA.out (by omega) ?_; rintro A1 c1 w2 hc1 hE1 hb; replace EA := Lib.hid (EA.out.new hb); replace EB := Lib.hid (EB.out.new hb); have EX := Lib.hid hE1; replace HW := Lib.hid (bthen HW.out hb HW.out.size); clear hb hE1)
    | (at_builtin; refine app_copy rfl (.tmp 25) (.tmp 26) rfl rfl rfl EB.out (by omega) ?_; rintro A2 c2 w3 hc2 hE2 hb; replace EA := Lib.hid (EA.out.new hb); replace EB := Lib.hid (EB.out.new hb); replace EX := Lib.hid (EX.out.new hb); have EY := Lib.hid hE2; replace HW := Lib.hid (bthen HW.out hb HW.out.size); clear hb hE2))
  obtain ⟨na, hna⟩ : ∃ N, N = valB 4294967296 ds := ⟨_, rfl⟩
  obtain ⟨nb, hnb⟩ : ∃ N, N = valB 4294967296 fs := ⟨_, rfl⟩
  have ha := Num.of_es (b := 60) EA.out hc h1 (by omega) (by omega)
  have hb := Num.of_es (b := 60) EB.out hd h2 (by omega) (by omega)
  rw [← hna] at ha; rw [← hnb] at hb
  have HA := Lib.hid ha; have HB := Lib.hid hb; clear ha hb hna hnb
  refine (dm_n HA.out HB.out (by omega) (by omega)).mono ?_
  rintro e w4 h
  by_cases hz : nb = 0
  · obtain ⟨rfl, hb⟩ := h.1 hz
    clear h
    subst hz
    replace HA := Lib.hid (HA.out.new hb)
    replace HB := Lib.hid (HB.out.new hb)
    replace EA := Lib.hid (EA.out.new hb); replace EB := Lib.hid (EB.out.new hb); replace EX := Lib.hid (EX.out.new hb); replace EY := Lib.hid (EY.out.new hb)
    replace HW := Lib.hid (bthen HW.out hb HW.out.size)
    clear hb
    go_wp2_with fail
    refine (add_n HA.out HB.out (by omega)).mono ?_
    rintro e w5 ⟨-, -, -, rfl, -, -, hb⟩
    replace HA := Lib.hid (HA.out.new hb)
    replace HB := Lib.hid (HB.out.new hb)
    replace EA := Lib.hid (EA.out.new hb); replace EB := Lib.hid (EB.out.new hb); replace EX := Lib.hid (EX.out.new hb); replace EY := Lib.hid (EY.out.new hb)
    replace HW := Lib.hid (bthen HW.out hb HW.out.size)
    clear hb
    go_wp2_with fail
    refine (mul_n HA.out HB.out (by omega)).mono ?_
    rintro e w6 ⟨-, -, -, rfl, -, -, hb⟩
    replace HA := Lib.hid (HA.out.new hb)
    replace HB := Lib.hid (HB.out.new hb)
    replace EA := Lib.hid (EA.out.new hb); replace EB := Lib.hid (EB.out.new hb); replace EX := Lib.hid (EX.out.new hb); replace EY := Lib.hid (EY.out.new hb)
    replace HW := Lib.hid (bthen HW.out hb HW.out.size)
    clear hb
    go_wp2_with fail
    refine (sub_weak HA.out HB.out (by omega)).mono ?_
    rintro e w7 ⟨v7, rfl, hb⟩
    replace HA := Lib.hid (HA.out.new hb)
    replace HB := Lib.hid (HB.out.new hb)
    replace EA := Lib.hid (EA.out.new hb); replace EB := Lib.hid (EB.out.new hb); replace EX := Lib.hid (EX.out.new hb); replace EY := Lib.hid (EY.out.new hb)
    replace HW := Lib.hid (bthen HW.out hb HW.out.size)
    clear hb
    go_wp2_with fail
    go_loopw [10] (fun i wr => ∃ k : Nat, k ≤ n ∧ i = .int .i64 k ∧ Hid (Below w7.heap.size w7 wr)) (fun i _ => n - (intOf i).toNat)
    case atStart => exact ⟨0, Nat.zero_le _, rfl, Lib.hid (Below.refl _ _)⟩
    case round =>
      obtain ⟨k, hk, rfl, HJ⟩ := hrel
      by_cases hlt : k < n
      · obtain ⟨ad, hA, hb1, hcell⟩ := (EA.out.below HJ.out).at_ hlt
        obtain ⟨ad2, hA2, hb2, hcell2⟩ := (EX.out.below HJ.out).at_ hlt
        subst hA; subst hA2
        have tq := ne_self (nth ds k)
        go_wp2_with fail
        go_quiet (fail)
        go_wp2_with fail
        go_roundw
        case rel => exact ⟨k + 1, by omega, by go_num, Lib.hid (below_drewN HJ.out _)⟩
        case measure => simp [intOf]; omega
      · have hb := HJ.out; clear HJ
        obtain rfl : k = n := by omega
        obtain ⟨wo, rfl⟩ : ∃ wo : World, wo = wr := ⟨_, rfl⟩
        replace HA := Lib.hid (HA.out.new hb)
        replace HB := Lib.hid (HB.out.new hb)
        replace EA := Lib.hid (EA.out.new hb); replace EB := Lib.hid (EB.out.new hb); replace EX := Lib.hid (EX.out.new hb); replace EY := Lib.hid (EY.out.new hb)
        replace HW := Lib.hid (bthen HW.out hb HW.out.size)
        clear hb
        go_wp2_with fail
        go_loopw [11] (fun i wr => ∃ k : Nat, k ≤ m ∧ i = .int .i64 k ∧ Hid (Below wo.heap.size wo wr)) (fun i _ => m - (intOf i).toNat)
        case atStart => exact ⟨0, Nat.zero_le _, rfl, Lib.hid (Below.refl _ _)⟩
        case round =>
          obtain ⟨k, hk, rfl, HJ⟩ := hrel
          by_cases hlt : k < m
          · obtain ⟨ad, hA, hb1, hcell⟩ := (EB.out.below HJ.out).at_ hlt
            obtain ⟨ad2, hA2, hb2, hcell2⟩ := (EY.out.below HJ.out).at_ hlt
            subst hA; subst hA2
            have tq := ne_self (nth fs k)
            go_wp2_with fail
            go_quiet (fail)
            go_wp2_with fail
            go_roundw
            case rel => exact ⟨k + 1, by omega, by go_num, Lib.hid (below_drewN HJ.out _)⟩
            case measure => simp [intOf]; omega
          · have hb := HJ.out; clear HJ
            obtain rfl : k = m := by omega
            replace HA := Lib.hid (HA.out.new hb)
            replace HB := Lib.hid (HB.out.new hb)
            replace EA := Lib.hid (EA.out.new hb); replace EB := Lib.hid (EB.out.new hb); replace EX := Lib.hid (EX.out.new hb); replace EY := Lib.hid (EY.out.new hb)
            replace HW := Lib.hid (bthen HW.out hb HW.out.size)
            clear hb
            go_wp2_with fail
            refine (bits_zero HB.out).mono ?_
            rintro e w8 ⟨rfl, rfl⟩
            go_wp2_with fail
            go_ret
            exact ⟨rfl, HW.out⟩
  · obtain ⟨Aq, kq, cq, Ar, kr, cr, rfl, ⟨hq, -⟩, ⟨hr, -⟩, hb⟩ := h.2 hz
    clear h
    have HQ := Lib.hid hq; have HR := Lib.hid hr; have HZ := Lib.hid hz; clear hq hr hz
    replace HA := Lib.hid (HA.out.new hb)
    replace HB := Lib.hid (HB.out.new hb)
    replace EA := Lib.hid (EA.out.new hb); replace EB := Lib.hid (EB.out.new hb); replace EX := Lib.hid (EX.out.new hb); replace EY := Lib.hid (EY.out.new hb)
    replace HW := Lib.hid (bthen HW.out hb HW.out.size)
    clear hb
    go_wp2_with fail
    refine (add_n HA.out HB.out (by omega)).mono ?_
    rintro e w5 ⟨-, -, -, rfl, -, -, hb⟩
    replace HA := Lib.hid (HA.out.new hb)
    replace HB := Lib.hid (HB.out.new hb)
    replace HQ := Lib.hid (HQ.out.new hb)
    replace HR := Lib.hid (HR.out.new hb)
    replace EA := Lib.hid (EA.out.new hb); replace EB := Lib.hid (EB.out.new hb); replace EX := Lib.hid (EX.out.new hb); replace EY := Lib.hid (EY.out.new hb)
    replace HW := Lib.hid (bthen HW.out hb HW.out.size)
    clear hb
    go_wp2_with fail
    refine (mul_n HA.out HB.out (by omega)).mono ?_
    rintro e w6 ⟨-, -, -, rfl, -, -, hb⟩
    replace HA := Lib.hid (HA.out.new hb)
    replace HB := Lib.hid (HB.out.new hb)
    replace HQ := Lib.hid (HQ.out.new hb)
    replace HR := Lib.hid (HR.out.new hb)
    replace EA := Lib.hid (EA.out.new hb); replace EB := Lib.hid (EB.out.new hb); replace EX := Lib.hid (EX.out.new hb); replace EY := Lib.hid (EY.out.new hb)
    replace HW := Lib.hid (bthen HW.out hb HW.out.size)
    clear hb
    go_wp2_with fail
    refine (sub_weak HA.out HB.out (by omega)).mono ?_
    rintro e w7 ⟨v7, rfl, hb⟩
    replace HA := Lib.hid (HA.out.new hb)
    replace HB := Lib.hid (HB.out.new hb)
    replace HQ := Lib.hid (HQ.out.new hb)
    replace HR := Lib.hid (HR.out.new hb)
    replace EA := Lib.hid (EA.out.new hb); replace EB := Lib.hid (EB.out.new hb); replace EX := Lib.hid (EX.out.new hb); replace EY := Lib.hid (EY.out.new hb)
    replace HW := Lib.hid (bthen HW.out hb HW.out.size)
    clear hb
    go_wp2_with fail
    go_loopw [10] (fun i wr => ∃ k : Nat, k ≤ n ∧ i = .int .i64 k ∧ Hid (Below w7.heap.size w7 wr)) (fun i _ => n - (intOf i).toNat)
    case atStart => exact ⟨0, Nat.zero_le _, rfl, Lib.hid (Below.refl _ _)⟩
    case round =>
      obtain ⟨k, hk, rfl, HJ⟩ := hrel
      by_cases hlt : k < n
      · obtain ⟨ad, hA, hb1, hcell⟩ := (EA.out.below HJ.out).at_ hlt
        obtain ⟨ad2, hA2, hb2, hcell2⟩ := (EX.out.below HJ.out).at_ hlt
        subst hA; subst hA2
        have tq := ne_self (nth ds k)
        go_wp2_with fail
        go_quiet (fail)
        go_wp2_with fail
        go_roundw
        case rel => exact ⟨k + 1, by omega, by go_num, Lib.hid (below_drewN HJ.out _)⟩
        case measure => simp [intOf]; omega
      · have hb := HJ.out; clear HJ
        obtain rfl : k = n := by omega
        obtain ⟨wo, rfl⟩ : ∃ wo : World, wo = wr := ⟨_, rfl⟩
        replace HA := Lib.hid (HA.out.new hb)
        replace HB := Lib.hid (HB.out.new hb)
        replace HQ := Lib.hid (HQ.out.new hb)
        replace HR := Lib.hid (HR.out.new hb)
        replace EA := Lib.hid (EA.out.new hb); replace EB := Lib.hid (EB.out.new hb); replace EX := Lib.hid (EX.out.new hb); replace EY := Lib.hid (EY.out.new hb)
        replace HW := Lib.hid (bthen HW.out hb HW.out.size)
        clear hb
        go_wp2_with fail
        go_loopw [11] (fun i wr => ∃ k : Nat, k ≤ m ∧ i = .int .i64 k ∧ Hid (Below wo.heap.size wo wr)) (fun i _ => m - (intOf i).toNat)
        case atStart => exact ⟨0, Nat.zero_le _, rfl, Lib.hid (Below.refl _ _)⟩
        case round =>
          obtain ⟨k, hk, rfl, HJ⟩ := hrel
          by_cases hlt : k < m
          · obtain ⟨ad, hA, hb1, hcell⟩ := (EB.out.below HJ.out).at_ hlt
            obtain ⟨ad2, hA2, hb2, hcell2⟩ := (EY.out.below HJ.out).at_ hlt
            subst hA; subst hA2
            have tq := ne_self (nth fs k)
            go_wp2_with fail
            go_quiet (fail)
            go_wp2_with fail
            go_roundw
            case rel => exact ⟨k + 1, by omega, by go_num, Lib.hid (below_drewN HJ.out _)⟩
            case measure => simp [intOf]; omega
          · have hb := HJ.out; clear HJ
            obtain rfl : k = m := by omega
            replace HA := Lib.hid (HA.out.new hb)
            replace HB := Lib.hid (HB.out.new hb)
            replace HQ := Lib.hid (HQ.out.new hb)
            replace HR := Lib.hid (HR.out.new hb)
            replace EA := Lib.hid (EA.out.new hb); replace EB := Lib.hid (EB.out.new hb); replace EX := Lib.hid (EX.out.new hb); replace EY := Lib.hid (EY.out.new hb)
            replace HW := Lib.hid (bthen HW.out hb HW.out.size)
            clear hb
            go_wp2_with fail
            refine (bits_pos HB.out HZ.out).mono ?_
            rintro e w8 ⟨b, rfl, hb0, -, rfl⟩
            have tb : ((b : Int) == 0) = false := by simp; omega
            go_wp2_with fail
            refine (cmp_n HR.out HB.out).mono ?_
            rintro e w9 ⟨rfl, hb⟩
            rw [cmpN_lt (Nat.mod_lt _ (Nat.pos_of_ne_zero HZ.out))]
            replace HA := Lib.hid (HA.out.new hb)
            replace HB := Lib.hid (HB.out.new hb)
            replace HQ := Lib.hid (HQ.out.new hb)
            replace HR := Lib.hid (HR.out.new hb)
            replace EA := Lib.hid (EA.out.new hb); replace EB := Lib.hid (EB.out.new hb); replace EX := Lib.hid (EX.out.new hb); replace EY := Lib.hid (EY.out.new hb)
            replace HW := Lib.hid (bthen HW.out hb HW.out.size)
            clear hb
            go_wp2_with fail
            refine (mul_n HQ.out HB.out (by omega)).mono ?_
            rintro e w10 ⟨A10, k10, c10, rfl, h10, -, hb⟩
            replace HA := Lib.hid (HA.out.new hb)
            replace HB := Lib.hid (HB.out.new hb)
            replace HQ := Lib.hid (HQ.out.new hb)
            replace HR := Lib.hid (HR.out.new hb)
            replace EA := Lib.hid (EA.out.new hb); replace EB := Lib.hid (EB.out.new hb); replace EX := Lib.hid (EX.out.new hb); replace EY := Lib.hid (EY.out.new hb)
            replace HW := Lib.hid (bthen HW.out hb HW.out.size)
            clear hb
            have HP := Lib.hid h10; clear h10
            go_wp2_with fail
            refine (add_n HP.out HR.out (by omega)).mono ?_
            rintro e w11 ⟨A11, k11, c11, rfl, h11, -, hb⟩
            replace HA := Lib.hid (HA.out.new hb)
            replace HB := Lib.hid (HB.out.new hb)
            replace HQ := Lib.hid (HQ.out.new hb)
            replace HR := Lib.hid (HR.out.new hb)
            replace EA := Lib.hid (EA.out.new hb); replace EB := Lib.hid (EB.out.new hb); replace EX := Lib.hid (EX.out.new hb); replace EY := Lib.hid (EY.out.new hb)
            replace HW := Lib.hid (bthen HW.out hb HW.out.size)
            clear hb
            have HS := Lib.hid h11; clear h11 HP
            go_wp2_with fail
            refine (cmp_n HS.out HA.out).mono ?_
            rintro e w12 ⟨rfl, hb⟩
            rw [divmod_back, cmpN_self]
            replace HA := Lib.hid (HA.out.new hb)
            replace HB := Lib.hid (HB.out.new hb)
            replace HQ := Lib.hid (HQ.out.new hb)
            replace HR := Lib.hid (HR.out.new hb)
            replace EA := Lib.hid (EA.out.new hb); replace EB := Lib.hid (EB.out.new hb); replace EX := Lib.hid (EX.out.new hb); replace EY := Lib.hid (EY.out.new hb)
            replace HW := Lib.hid (bthen HW.out hb HW.out.size)
            clear hb
            go_wp2_with fail
            go_ret
            exact ⟨rfl, HW.out⟩
end

theorem natDivides_walk (A : Option Addr) (ds : List Nat) (n c : Nat) (B : Option Addr) (fs : List Nat) (m d : Nat) (w : World) (hr : Es w w.heap.size A n ds) (hc : n ≤ c) (hs : Es w w.heap.size B m fs) (hd : m ≤ d) :
    Calls Try.prog 8 #[.slice A n c, .slice B m d] w fun e w' => e = .returned (.bool true) ∧ Below w.heap.size w w' := by
  by_cases h : 60 < n ∨ 60 < m
  · exact divides_far A B n m c d w hr.le hs.le h
  · exact divides_near A B n m c d w ds fs hr hs hc hd (by omega) (by omega)
end Go.Proofs.Ytnpokifmknepoaa
