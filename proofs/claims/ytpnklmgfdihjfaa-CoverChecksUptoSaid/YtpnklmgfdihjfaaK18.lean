/-
The reference of Cover: Has, Sum, Covers, Packs. Printed by gen/scv.py.
-/
import Derived.Test.YtpnklmgfdihjfaaK14
namespace Go.Proofs.Ytpnklmgfdihjfaa
open Go.RowKit
set_option linter.unusedVariables false
set_option linter.unusedSimpArgs false

theorem isum_bd {f : Nat → Int} : ∀ {n : Nat}, (∀ j, j < n → -128 ≤ f j ∧ f j ≤ 128) → -128 * (n : Int) ≤ isum f n ∧ isum f n ≤ 128 * (n : Int)
  | 0, _ => ⟨by show _ ≤ (0 : Int); omega, by show (0 : Int) ≤ _; omega⟩
  | n + 1, h => by
    have h1 := isum_bd (f := f) (n := n) fun j hj => h j (by omega)
    have h2 := h n (by omega)
    show _ ≤ isum f n + f n ∧ isum f n + f n ≤ _
    omega
theorem if_bd {c : Bool} {z : Int} (h : -128 ≤ z ∧ z < 128) : -128 ≤ (if c then z else 0) ∧ (if c then z else 0) ≤ 128 := by
  cases c
  · exact ⟨by show -128 ≤ (0 : Int); omega, by show (0 : Int) ≤ 128; omega⟩
  · exact ⟨h.1, by show z ≤ 128; omega⟩
set_option maxRecDepth 100000 in
set_option maxHeartbeats 8000000 in
theorem has9_any (s v : Nat) (hs : s < 4294967296) (hv : v < 32) (w : World) : Calls Try.prog 48 #[.int .u32 (s : Int), .int .i64 (v : Int)] w (fun e w' => e = .returned (.bool (s.testBit v)) ∧ w' = w) := by
  have hbit := bit_of_div s v
  have i0 : (0 : Int) ≤ (v : Int) := by omega
  have i32 : (v : Int) < 32 := by omega
  go_enter Try.func48, Try.ntmps48
  go_wp2_with fail
  go_ret
  exact ⟨by first | rw [hbit] | rfl, rfl⟩
set_option maxRecDepth 100000 in
set_option maxHeartbeats 8000000 in
theorem sum9_any (a c : Nat) (A : Option Addr) (ws : List Int) (w : World) (hX : Xs w w.heap.size A a ws) (ha : a ≤ 1000) (hws : ∀ j, j < a → -128 ≤ inth ws j ∧ inth ws j < 128) : Calls Try.prog 24 #[.slice A a c] w (fun e w' => e = .returned (.int .i64 (isum (inth ws) a)) ∧ w' = w) := by
  have HX := Lib.hid hX; have HW := Lib.hid hws; clear hX hws
  go_enter Try.func24, Try.ntmps24
  go_wp2_with fail
  go_loopg [4, 3] a (fun g iv sv wr => ∃ i : Nat, iv = .int .i64 i ∧ sv = .int .i64 (isum (inth ws) i) ∧ i + g = a ∧ w = wr)
  case atStart => exact ⟨0, rfl, rfl, by omega, rfl⟩
  case round =>
    obtain ⟨i, rfl, rfl, hia, rfl⟩ := hrel
    by_cases hi : i < a
    · have i1 : ((i : Int) < (a : Int)) := by omega
      obtain ⟨ad, rfl, -, hc⟩ := HX.out.at_ hi
      have hw := HW.out i hi
      have hb := isum_bd (f := inth ws) (n := i) (fun j hj => by have := HW.out j (by omega); omega)
      obtain ⟨z, hz⟩ : ∃ z, z = inth ws i := ⟨_, rfl⟩
      obtain ⟨y, hy⟩ : ∃ y, y = isum (inth ws) i := ⟨_, rfl⟩
      have HZ := Lib.hid (And.intro hz hy)
      rw [← hz] at hc hw
      rw [← hy] at hb ⊢
      clear hz hy
      go_wp2_with fail
      go_roundg (gk - 1)
      case measure => omega
      case rel => exact ⟨i + 1, by go_num, by rw [show isum (inth ws) (i + 1) = y + z from by rw [HZ.out.1, HZ.out.2]; rfl]; try go_num, by omega, rfl⟩
    · obtain rfl : a = i := by omega
      go_wp2_with fail
      go_ret
      exact ⟨rfl, rfl⟩
/-- What Covers answers. -/
def CvsV (nn len a : Nat) (es : List Nat) (s : Nat) (ws : List Int) (dn : Nat) (v : Value) : Prop := ∃ t : Bool, v = .bool t ∧ (t = true ↔ a = len ∧ CvI nn len (nth es) s (inth ws) dn)
set_option maxRecDepth 100000 in
set_option maxHeartbeats 8000000 in
theorem covers9_any (nn len a s dn ce c : Nat) (AE A : Option Addr) (es : List Nat) (ws : List Int) (w : World) (hE : Es w w.heap.size AE len es) (hX : Xs w w.heap.size A a ws) (hs : s < 4294967296) (hn : nn ≤ 6) (hl : len ≤ 100 ∧ a ≤ 100) (hd : dn ≤ 1000) (hws : ∀ j, j < a → -128 ≤ inth ws j ∧ inth ws j < 128) :
    Calls Try.prog 22 #[.int .i64 (nn : Int), .slice AE len ce, .int .u32 (s : Int), .slice A a c, .int .i64 (dn : Int)] w (RV w (fun v _ => CvsV nn len a es s ws dn v)) := by
  have HE := Lib.hid hE; have HX := Lib.hid hX; have HW := Lib.hid hws; have HS := Lib.hid hs; clear hE hX hws hs
  go_enter Try.func22, Try.ntmps22
  by_cases hal : a = len
  rotate_left
  · have t0 : ((a : Int) != (len : Int)) = true := by simp; omega
    go_wp2_with fail
    go_ret
    exact ⟨_, rfl, ⟨false, rfl, ⟨fun h => absurd h (by decide), fun h => absurd h.1 hal⟩⟩, Below.refl _ _⟩
  obtain rfl : len = a := hal.symm
  clear hal
  go_wp2_with fail
  go_loopg [11] len (fun g iv wr => ∃ i : Nat, iv = .int .i64 i ∧ i + g = len ∧ w = wr ∧ Hid (∀ j, j < i → 0 ≤ inth ws j))
  case atStart => exact ⟨0, rfl, by omega, rfl, Lib.hid (fun j hj => absurd hj (by omega))⟩
  case round =>
    obtain ⟨i, rfl, hil, rfl, HP⟩ := hrel
    by_cases hi : i < len
    · have i1 : ((i : Int) < (len : Int)) := by omega
      obtain ⟨ad, rfl, -, hc⟩ := HX.out.at_ hi
      obtain ⟨z, hz⟩ : ∃ z, z = inth ws i := ⟨_, rfl⟩
      rw [← hz] at hc
      have HZ := Lib.hid hz; clear hz
      by_cases hn : z < 0
      · skip
        go_wp2_with fail
        go_ret
        exact ⟨_, rfl, ⟨false, rfl, ⟨fun h => absurd h (by decide), fun h => absurd (h.2.1 i hi) (by rw [← HZ.out]; omega)⟩⟩, Below.refl _ _⟩
      go_wp2_with fail
      go_roundg (gk - 1)
      case measure => omega
      case rel => exact ⟨i + 1, by go_num, by omega, rfl, Lib.hid (fun j hj => by
        by_cases e : j = i
        · subst e; rw [← HZ.out]; omega
        · exact HP.out j (by omega))⟩
    · obtain rfl : len = i := by omega
      go_wp2_with fail
      go_loopg [12] nn (fun g iv wr => ∃ v : Nat, iv = .int .i64 v ∧ v + g = nn ∧ w = wr ∧ Hid (∀ y, y < v → s.testBit y = true → (dn : Int) ≤ isum (fun i => if (nth es i).testBit y then inth ws i else 0) len))
      case atStart => exact ⟨0, rfl, by omega, rfl, Lib.hid (fun j hj => absurd hj (by omega))⟩
      case round =>
        obtain ⟨v, rfl, hvn, rfl, HQ⟩ := hrel
        obtain ⟨G, hG⟩ : ∃ G, G = gk := ⟨_, rfl⟩
        subst hG
        by_cases hv : v < nn
        · have i1 : ((v : Int) < (nn : Int)) := by omega
          go_wp2_with fail
          go_loopg [14, 13] len (fun g iv sv wr => ∃ i : Nat, iv = .int .i64 i ∧ sv = .int .i64 (isum (fun i => if (nth es i).testBit v then inth ws i else 0) i) ∧ i + g = len ∧ w = wr)
          case atStart => exact ⟨0, rfl, rfl, by omega, rfl⟩
          case round =>
            obtain ⟨i, rfl, rfl, hil, rfl⟩ := hrel
            obtain ⟨y, hy⟩ : ∃ y, y = isum (fun i => if (nth es i).testBit v then inth ws i else 0) i := ⟨_, rfl⟩
            have hb := isum_bd (f := (fun i => if (nth es i).testBit v then inth ws i else 0)) (n := i) (fun j hj => if_bd (HW.out j (by omega)))
            rw [← hy] at hb ⊢
            have HY := Lib.hid hy; clear hy
            by_cases hi : i < len
            · have i2 : ((i : Int) < (len : Int)) := by omega
              obtain ⟨adE, rfl, -, hcE⟩ := HE.out.at_ hi
              have he := HE.out.lt hi
              obtain ⟨e, hee⟩ : ∃ e, e = nth es i := ⟨_, rfl⟩
              rw [← hee] at hcE he
              have HEe := Lib.hid hee; clear hee
              go_wp2_with fail
              refine (has9_any e v he (by omega) _).mono ?_
              rintro e w2 ⟨rfl, rfl⟩
              clear hcE
              cases hbt : e.testBit v with
              | false =>
                go_wp2_with fail
                go_roundg (gk - 1)
                case measure => omega
                case rel => exact ⟨i + 1, by go_num, by rw [show isum (fun i => if (nth es i).testBit v then inth ws i else 0) (i + 1) = y from by rw [HY.out]; show _ + (if (nth es i).testBit v then inth ws i else 0) = _; rw [← HEe.out, hbt]; simp], by omega, rfl⟩
              | true =>
                obtain ⟨ad, rfl, -, hc⟩ := HX.out.at_ hi
                have hw := HW.out i hi
                obtain ⟨z, hz⟩ : ∃ z, z = inth ws i := ⟨_, rfl⟩
                rw [← hz] at hc hw
                have HZ := Lib.hid hz; clear hz
                go_wp2_with fail
                go_roundg (gk - 1)
                case measure => omega
                case rel => exact ⟨i + 1, by go_num, by rw [show isum (fun i => if (nth es i).testBit v then inth ws i else 0) (i + 1) = y + z from by rw [HY.out, HZ.out]; show _ + (if (nth es i).testBit v then inth ws i else 0) = _; rw [← HEe.out, hbt]; rfl]; try go_num, by omega, rfl⟩
            · obtain rfl : len = i := by omega
              go_wp2_with fail
              refine (has9_any s v HS.out (by omega) _).mono ?_
              rintro e w2 ⟨rfl, rfl⟩
              cases hbt : s.testBit v with
              | false =>
                go_wp2_with fail
                go_roundg (G - 1)
                case measure => omega
                case rel => exact ⟨v + 1, by go_num, by omega, rfl, Lib.hid (fun q hq hb => by
                  by_cases e : q = v
                  · subst e; rw [hbt] at hb; exact absurd hb (by decide)
                  · exact HQ.out q (by omega) hb)⟩
              | true =>
                by_cases hlt : y < (dn : Int)
                · skip
                  go_wp2_with fail
                  go_ret
                  exact ⟨_, rfl, ⟨false, rfl, ⟨fun h => absurd h (by decide), fun h => absurd (h.2.2 v hv hbt) (by rw [← HY.out]; omega)⟩⟩, Below.refl _ _⟩
                go_wp2_with fail
                go_roundg (G - 1)
                case measure => omega
                case rel => exact ⟨v + 1, by go_num, by omega, rfl, Lib.hid (fun q hq hb => by
                  by_cases e : q = v
                  · subst e; rw [← HY.out]; omega
                  · exact HQ.out q (by omega) hb)⟩
        · obtain rfl : nn = v := by omega
          go_wp2_with fail
          go_ret
          exact ⟨_, rfl, ⟨true, rfl, ⟨fun _ => ⟨rfl, HP.out, HQ.out⟩, fun _ => rfl⟩⟩, Below.refl _ _⟩
/-- What Packs answers. -/
def PksV (nn len a : Nat) (es : List Nat) (s : Nat) (ws : List Int) (dn : Nat) (v : Value) : Prop := ∃ t : Bool, v = .bool t ∧ (t = true ↔ a = nn ∧ PkI nn len (nth es) s (inth ws) dn)
set_option maxRecDepth 100000 in
set_option maxHeartbeats 8000000 in
theorem packs9_any (nn len a s dn ce c : Nat) (AE A : Option Addr) (es : List Nat) (ws : List Int) (w : World) (hE : Es w w.heap.size AE len es) (hX : Xs w w.heap.size A a ws) (hs : s < 4294967296) (hn : nn ≤ 6) (hl : len ≤ 100 ∧ a ≤ 100) (hd : dn ≤ 1000) (hws : ∀ j, j < a → -128 ≤ inth ws j ∧ inth ws j < 128) :
    Calls Try.prog 25 #[.int .i64 (nn : Int), .slice AE len ce, .int .u32 (s : Int), .slice A a c, .int .i64 (dn : Int)] w (RV w (fun v _ => PksV nn len a es s ws dn v)) := by
  have HE := Lib.hid hE; have HX := Lib.hid hX; have HW := Lib.hid hws; have HS := Lib.hid hs; clear hE hX hws hs
  go_enter Try.func25, Try.ntmps25
  by_cases hal : a = nn
  rotate_left
  · have t0 : ((a : Int) != (nn : Int)) = true := by simp; omega
    go_wp2_with fail
    go_ret
    exact ⟨_, rfl, ⟨false, rfl, ⟨fun h => absurd h (by decide), fun h => absurd h.1 hal⟩⟩, Below.refl _ _⟩
  obtain rfl : nn = a := hal.symm
  clear hal
  go_wp2_with fail
  go_loopg [11] nn (fun g iv wr => ∃ v : Nat, iv = .int .i64 v ∧ v + g = nn ∧ w = wr ∧ Hid (∀ x, x < v → 0 ≤ inth ws x ∧ (s.testBit x = false → inth ws x = 0)))
  case atStart => exact ⟨0, rfl, by omega, rfl, Lib.hid (fun j hj => absurd hj (by omega))⟩
  case round =>
    obtain ⟨v, rfl, hvn, rfl, HP⟩ := hrel
    by_cases hi : v < nn
    · have i1 : ((v : Int) < (nn : Int)) := by omega
      obtain ⟨ad, rfl, -, hc⟩ := HX.out.at_ hi
      obtain ⟨z, hz⟩ : ∃ z, z = inth ws v := ⟨_, rfl⟩
      rw [← hz] at hc
      have HZ := Lib.hid hz; clear hz
      by_cases hn0 : z < 0
      · skip
        go_wp2_with fail
        go_ret
        exact ⟨_, rfl, ⟨false, rfl, ⟨fun h => absurd h (by decide), fun h => absurd ((h.2.1 v hi).1) (by rw [← HZ.out]; omega)⟩⟩, Below.refl _ _⟩
      go_wp2_with fail
      refine (has9_any s v HS.out (by omega) _).mono ?_
      rintro e w2 ⟨rfl, rfl⟩
      cases hbt : s.testBit v with
      | true =>
        go_wp2_with fail
        go_roundg (gk - 1)
        case measure => omega
        case rel => exact ⟨v + 1, by go_num, by omega, rfl, Lib.hid (fun q hq => by
          by_cases e : q = v
          · subst e; rw [← HZ.out]; exact ⟨by omega, fun h => by rw [hbt] at h; exact absurd h (by decide)⟩
          · exact HP.out q (by omega))⟩
      | false =>
        by_cases hz0 : z = 0
        rotate_left
        · have t0 : (z != 0) = true := by simpa using hz0
          go_wp2_with fail
          go_ret
          exact ⟨_, rfl, ⟨false, rfl, ⟨fun h => absurd h (by decide), fun h => absurd ((h.2.1 v hi).2 hbt) (by rw [← HZ.out]; exact hz0)⟩⟩, Below.refl _ _⟩
        subst hz0
        go_wp2_with fail
        go_roundg (gk - 1)
        case measure => omega
        case rel => exact ⟨v + 1, by go_num, by omega, rfl, Lib.hid (fun q hq => by
          by_cases e : q = v
          · subst e; rw [← HZ.out]; exact ⟨by omega, fun _ => rfl⟩
          · exact HP.out q (by omega))⟩
    · obtain rfl : nn = v := by omega
      go_wp2_with fail
      go_loopg [12] len (fun g iv wr => ∃ i : Nat, iv = .int .i64 i ∧ i + g = len ∧ w = wr ∧ Hid (∀ y, y < i → isum (fun x => if (nth es y).testBit x then inth ws x else 0) nn ≤ (dn : Int)))
      case atStart => exact ⟨0, rfl, by omega, rfl, Lib.hid (fun j hj => absurd hj (by omega))⟩
      case round =>
        obtain ⟨i, rfl, hil, rfl, HQ⟩ := hrel
        obtain ⟨G, hG⟩ : ∃ G, G = gk := ⟨_, rfl⟩
        subst hG
        by_cases hi : i < len
        · have i1 : ((i : Int) < (len : Int)) := by omega
          obtain ⟨adE, rfl, -, hcE⟩ := HE.out.at_ hi
          have he := HE.out.lt hi
          obtain ⟨e, hee⟩ : ∃ e, e = nth es i := ⟨_, rfl⟩
          rw [← hee] at hcE he
          have HEe := Lib.hid hee; clear hee
          go_wp2_with fail
          go_loopg [14, 13] nn (fun g iv sv wr => ∃ v : Nat, iv = .int .i64 v ∧ sv = .int .i64 (isum (fun x => if e.testBit x then inth ws x else 0) v) ∧ v + g = nn ∧ w = wr)
          case atStart => exact ⟨0, rfl, rfl, by omega, rfl⟩
          case round =>
            obtain ⟨v, rfl, rfl, hvn, rfl⟩ := hrel
            obtain ⟨y, hy⟩ : ∃ y, y = isum (fun x => if e.testBit x then inth ws x else 0) v := ⟨_, rfl⟩
            have hb := isum_bd (f := (fun x => if e.testBit x then inth ws x else 0)) (n := v) (fun j hj => if_bd (HW.out j (by omega)))
            rw [← hy] at hb ⊢
            have HY := Lib.hid hy; clear hy
            by_cases hv : v < nn
            · have i2 : ((v : Int) < (nn : Int)) := by omega
              go_wp2_with fail
              refine (has9_any e v he (by omega) _).mono ?_
              rintro e w2 ⟨rfl, rfl⟩
              cases hbt : e.testBit v with
              | false =>
                go_wp2_with fail
                go_roundg (gk - 1)
                case measure => omega
                case rel => exact ⟨v + 1, by go_num, by rw [show isum (fun x => if e.testBit x then inth ws x else 0) (v + 1) = y from by rw [HY.out]; show _ + (if e.testBit v then inth ws v else 0) = _; rw [hbt]; simp], by omega, rfl⟩
              | true =>
                obtain ⟨ad, rfl, -, hc⟩ := HX.out.at_ hv
                have hw := HW.out v hv
                obtain ⟨z, hz⟩ : ∃ z, z = inth ws v := ⟨_, rfl⟩
                rw [← hz] at hc hw
                have HZ := Lib.hid hz; clear hz
                go_wp2_with fail
                go_roundg (gk - 1)
                case measure => omega
                case rel => exact ⟨v + 1, by go_num, by rw [show isum (fun x => if e.testBit x then inth ws x else 0) (v + 1) = y + z from by rw [HY.out, HZ.out]; show _ + (if e.testBit v then inth ws v else 0) = _; rw [hbt]; rfl]; try go_num, by omega, rfl⟩
            · obtain rfl : nn = v := by omega
              by_cases hgt : y > (dn : Int)
              · skip
                go_wp2_with fail
                go_ret
                exact ⟨_, rfl, ⟨false, rfl, ⟨fun h => absurd h (by decide), fun h => absurd (h.2.2 i hi) (by rw [← HEe.out, ← HY.out]; omega)⟩⟩, Below.refl _ _⟩
              clear hcE
              go_wp2_with fail
              go_roundg (G - 1)
              case measure => omega
              case rel => exact ⟨i + 1, by go_num, by omega, rfl, Lib.hid (fun q hq => by
                by_cases e9 : q = i
                · subst e9; rw [← HEe.out, ← HY.out]; omega
                · exact HQ.out q (by omega))⟩
        · obtain rfl : len = i := by omega
          go_wp2_with fail
          go_ret
          exact ⟨_, rfl, ⟨true, rfl, ⟨fun _ => ⟨rfl, HP.out, HQ.out⟩, fun _ => rfl⟩⟩, Below.refl _ _⟩
end Go.Proofs.Ytpnklmgfdihjfaa
