/-
  The reference of layer 4, fifth part: Text, Parse.
-/
import Derived.Test.YtnpokifmknepoaaNRef4
import Derived.Test.YtnpokifmknepoaaNParse
namespace Go.Proofs.Ytnpokifmknepoaa
open Go.RowKit

def tx (L : List Nat) : ByteArray := ⟨(L.reverse.map fun d => UInt8.ofNat (d + 48)).toArray⟩
theorem tx_push (x : Nat) (L : List Nat) : tx L ++ strOfNums [((48 + x : Nat) : Int)] = tx (x :: L) := by
  have h : strOfNums [((48 + x : Nat) : Int)] = ⟨#[UInt8.ofNat (x + 48)]⟩ := by
    rw [Nat.add_comm]; rfl
  rw [h]
  apply ByteArray.ext
  simp [tx, ByteArray.data_append]
theorem tx_size (L : List Nat) : (tx L).size = L.length := by
  simp [tx, ByteArray.size]

set_option maxHeartbeats 2000000 in
theorem rtext_any (A : Option Addr) (n c N : Nat) (w : World) (hr : DN w A n c N) (hn : n ≤ 100000) : Calls Try.prog 34 #[.slice A n c] w (RetText w N) := by
  obtain ⟨hd, D, hN, hX⟩ := hr
  have hl : n = D.length := by rw [hX.len, ints_length]
  have H1 := Lib.hid hX; clear hX
  have HL := Lib.hid hl; clear hl
  have N1 := Lib.hid hN; clear hN
  by_cases h0 : n = 0
  · have t0 : ((n : Int) == 0) = true := by simp [h0]
    have HD := Lib.hid (show D = [] from List.eq_nil_of_length_eq_zero (by rw [← HL.out]; exact h0))
    clear h0
    go_enter Try.func34, Try.ntmps34
    go_wp2_with fail
    go_ret
    refine ⟨D, N1.out, ?_, Below.refl _ _⟩
    rw [HD.out]; rfl
  · have t0 : ((n : Int) == 0) = false := by simp; omega
    go_enter Try.func34, Try.ntmps34
    go_wp2_with fail
    go_loopw [3, 4] (fun ov iv wr => ∃ (a : Int), -1 ≤ a ∧ a < n ∧ iv = .int .i64 a ∧ ov = .string (tx (D.drop (a + 1).toNat)) ∧ Hid (Below w.heap.size w wr)) (fun _ iv _ => (intOf iv + 1).toNat)
    case atStart =>
      refine ⟨(n : Int) - 1, by omega, by omega, rfl, ?_, Lib.hid (Below.refl _ _)⟩
      have h1 := HL.out
      rw [show ((n : Int) - 1 + 1).toNat = n by omega, List.drop_of_length_le (by omega)]
      rfl
    case round =>
      obtain ⟨a, ha, ha2, rfl, rfl, HJ⟩ := hrel
      by_cases ha3 : 0 ≤ a
      · obtain ⟨a, rfl⟩ := Int.eq_ofNat_of_zero_le ha3
        obtain ⟨ad, rfl, hb1, hcell⟩ := (H1.out.below HJ.out).dig (show a < n by omega)
        have hal : a < D.length := by rw [← HL.out]; omega
        have d10 := N1.out.2.1 _ (nth_mem hal)
        rw [show ((a : Int) + 1).toNat = a + 1 by omega]
        have hts : (tx (D.drop (a + 1))).size ≤ 100000 := by rw [tx_size]; have := HL.out; simp; omega
        have htp := tx_push (nth D a) (D.drop (a + 1))
        rw [show nth D a :: D.drop (a + 1) = D.drop a by rw [List.drop_eq_getElem_cons hal, nth_eq hal]] at htp
        generalize tx (D.drop (a + 1)) = T at *
        have HTP := Lib.hid htp; clear htp hal
        generalize nth D a = x at *
        obtain ⟨y, hy⟩ : ∃ y, y = 48 + x := ⟨_, rfl⟩
        rw [← hy] at HTP
        have e1 : (48 : Int) + (x : Int) = (y : Int) := by omega
        have hy2 : y ≤ 57 := by omega
        clear hy
        have hcv := run_convert_bytes_arg (P := Try.prog) (wr.alloc (.cells #[.int .u8 (y : Int)] 5)) 74 5 Try.underlying74 Try.underlying5 wr.heap.size 0 1 1 [(y : Int)] rfl (fun i hi => by
          obtain rfl : i = 0 := by omega
          rw [Nat.zero_add, (Blk.new wr 5 #[.int .u8 (y : Int)]).cell]; rfl) 9 Try.underlying9
        have hs1 : (strOfNums [(y : Int)]).size = 1 := by simp [strOfNums, ByteArray.size]
        generalize strOfNums [(y : Int)] = S at *
        go_wp2_with fail
        rw [HTP.out]
        refine ⟨⟨(a : Int) - 1, by omega, by omega, by go_num, ?_, Lib.hid (HJ.out.alloc HJ.out.size _)⟩, by simp [intOf]⟩
        rw [show ((a : Int) - 1 + 1).toNat = a by omega]
      · have ha4 : a = -1 := by omega
        subst ha4
        go_wp2_with fail
        go_ret
        refine ⟨D, N1.out, ?_, HJ.out⟩
        have hne : D ≠ [] := fun h => by have := HL.out; rw [h] at this; simp at this; omega
        simp only [textOf, if_neg hne]; rfl

def RetRParse (w : World) (bs : List Nat) (e : Ending) (w' : World) : Prop :=
  (¬ PGood bs → e = .returned (.tuple #[.slice none 0 0, .bool false]) ∧ Below w.heap.size w w') ∧
  (PGood bs → ∃ A k c, e = .returned (.tuple #[.slice A k c, .bool true]) ∧ DN w' A k c (dv bs bs.length) ∧ Below w.heap.size w w')
theorem RetRParse.bad {w : World} {bs : List Nat} (hg : ¬ PGood bs) {w' : World} (hb : Below w.heap.size w w') : RetRParse w bs (.returned (.tuple #[.slice none 0 0, .bool false])) w' :=
  ⟨fun _ => ⟨rfl, hb⟩, fun h1 => absurd h1 hg⟩

set_option maxHeartbeats 4000000 in
theorem rparse_loop (s : ByteArray) (w : World) (h1 : s.size ≤ 100000) (h0 : 0 < s.size) (hf : nth (bytesOf s) 0 = 48 → s.size = 1) : Calls Try.prog 35 #[.string s] w (RetRParse w (bytesOf s)) := by
  have hl := bytes_length s
  have t1 : ((s.size : Int) == 0) = false := beq_eq_false_iff_ne.2 (by omega)
  have hg0 := bytes_get s 0 h0
  have hcase : ¬ 1 < s.size ∨ (1 < s.size ∧ ((nth (bytesOf s) 0 : Int) == 48) = false) := by
    by_cases h : 1 < s.size
    · right
      refine ⟨h, ?_⟩
      have : nth (bytesOf s) 0 ≠ 48 := fun h2 => by have := hf h2; omega
      simp; omega
    · left; exact h
  have HF := Lib.hid hf; clear hf
  have HL := Lib.hid hl; clear hl
  rcases hcase with t3 | ⟨t3, t4⟩
  all_goals
    go_enter Try.func35, Try.ntmps35
    go_wp2_with fail
    go_loopw [4, 5] (fun ov iv wr => ∃ (a : Int) (k : Nat) (L : List Nat), -1 ≤ a ∧ a < s.size ∧ iv = .int .i64 a ∧ (k : Int) = s.size - 1 - a ∧ Hid (wr.ownsRow w.heap.size 3 1 ov k (I64 (ints L)) ∧ L.length = k ∧ (∀ d ∈ L, d < 10) ∧ dv (bytesOf s) (a + 1).toNat * 10 ^ k + valB 10 L = dv (bytesOf s) s.size ∧ (∀ j, (a + 1).toNat ≤ j → j < s.size → 48 ≤ nth (bytesOf s) j ∧ nth (bytesOf s) j ≤ 57) ∧ Below w.heap.size w wr)) (fun _ iv _ => (intOf iv + 1).toNat)
    case atStart =>
      refine ⟨(s.size : Int) - 1, 0, [], by omega, by omega, rfl, by omega, Lib.hid ⟨own_nil _ _ _, rfl, by simp, ?_, fun j h2 h3 => ?_, Below.refl _ _⟩⟩
      · rw [show ((s.size : Int) - 1 + 1).toNat = s.size by omega]; simp [valB]
      · omega
    case round =>
      obtain ⟨a, k, L, ha, ha2, rfl, hk, HJ⟩ := hrel
      obtain ⟨Ao, co, rfl⟩ := own_form HJ.out.1
      by_cases ha3 : 0 ≤ a
      · obtain ⟨a, rfl⟩ := Int.eq_ofNat_of_zero_le ha3
        have hlt : a < s.size := by omega
        have hgi := bytes_get s a hlt
        have hbl := bytes_lt s _ (nth_mem (show a < (bytesOf s).length by rw [HL.out]; exact hlt))
        obtain ⟨b, hb⟩ : ∃ b, b = nth (bytesOf s) a := ⟨_, rfl⟩
        rw [← hb] at hgi hbl
        have HBB := Lib.hid hb; clear hb
        by_cases hb1 : b < 48
        · go_wp2_with fail
          refine bodyPost_end (results_tmp2 rfl _ _ _) rfl ?_
          exact RetRParse.bad (fun hg => by have := hg.2.1 a (by rw [HL.out]; exact hlt); rw [← HBB.out] at this; omega) HJ.out.2.2.2.2.2
        · by_cases hb2 : 57 < b
          · go_wp2_with fail
            refine bodyPost_end (results_tmp2 rfl _ _ _) rfl ?_
            exact RetRParse.bad (fun hg => by have := hg.2.1 a (by rw [HL.out]; exact hlt); rw [← HBB.out] at this; omega) HJ.out.2.2.2.2.2
          · obtain ⟨dg, hdg⟩ : ∃ dg, dg = b - 48 := ⟨_, rfl⟩
            have ed : (b : Int) - 48 = (dg : Int) := by omega
            have hd9 : dg ≤ 9 := by omega
            have HDG := Lib.hid (show dv (bytesOf s) (a + 1) = dv (bytesOf s) a * 10 + dg by rw [dv, ← HBB.out, hdg])
            have HGOOD := Lib.hid (show 48 ≤ nth (bytesOf s) a ∧ nth (bytesOf s) a ≤ 57 by rw [← HBB.out]; omega)
            clear hdg
            go_wp2_with (at_builtin; refine app_num rfl (.tmp 36) (.tmp 42) rfl w.heap.size _ k L rfl (HJ.out.1.alloc _) wr.heap.size dg rfl (Blk.new wr 3 _) (by omega) (by have := HJ.out.2.2.2.2.2.size; simp; omega) ?_; intro v' w4 hown4 hg4 hat4; have H4 := Lib.hid (And.intro hown4 hg4); clear hown4 hg4 hat4)
            have hB4 := Below.appended (HJ.out.2.2.2.2.2.alloc HJ.out.2.2.2.2.2.size (.cells #[.int .i64 (dg : Int)] 3)) (HJ.out.1.alloc _) H4.out.2 (by have := HJ.out.2.2.2.2.2.size; simp; omega) (Nat.le_refl _)
            refine ⟨⟨(a : Int) - 1, k + 1, L ++ [dg], by omega, by omega, by go_num, by omega, Lib.hid ⟨H4.out.1, by simp [HJ.out.2.1], mem_push HJ.out.2.2.1 (by omega), ?_, fun j h2 h3 => ?_, hB4⟩⟩, by simp [intOf]⟩
            · have h := HJ.out.2.2.2.1
              rw [show ((a : Int) + 1).toNat = a + 1 by omega, HDG.out] at h
              rw [show ((a : Int) - 1 + 1).toNat = a by omega, valB_push, HJ.out.2.1, Nat.pow_succ]
              generalize 10 ^ k = P at *
              generalize dv (bytesOf s) a = V at *
              generalize valB 10 L = U at *
              rw [← h]
              grind
            · by_cases h : j = a
              · subst h; exact HGOOD.out
              · exact HJ.out.2.2.2.2.1 j (by omega) h3
      · have ha4 : a = -1 := by omega
        subst ha4
        go_wp2_with fail
        obtain ⟨A2, c2, he, hE⟩ := Xs.of_own HJ.out.1 (ints_in HJ.out.2.2.1)
        cases he
        refine (rtrim_any Ao L k co (own_cap' HJ.out.1) _ hE HJ.out.2.2.1).mono ?_
        rintro e w4 ⟨k4, rfl, hdn, rfl⟩
        have hv := HJ.out.2.2.2.1
        simp only [show ((-1 : Int) + 1).toNat = 0 from rfl, dv, Nat.zero_mul, Nat.zero_add] at hv
        rw [hv] at hdn
        have H4 := Lib.hid hdn; clear hdn hE hv
        go_wp2_with fail
        refine bodyPost_end (results_tmp2 rfl _ _ _) rfl ?_
        have hG : PGood (bytesOf s) := by
          refine ⟨fun h => ?_, ?_, ?_⟩
          · have := HL.out; rw [h] at this; simp at this; omega
          · rw [HL.out]; exact fun j hj => HJ.out.2.2.2.2.1 j (by omega) hj
          · rw [HL.out]; exact HF.out
        refine ⟨fun h => absurd hG h, fun _ => ⟨Ao, k4, co, rfl, ?_, HJ.out.2.2.2.2.2⟩⟩
        rw [HL.out]; exact H4.out

set_option maxHeartbeats 2000000 in
theorem rparse_any (s : ByteArray) (w : World) (h1 : s.size ≤ 100000) : Calls Try.prog 35 #[.string s] w (RetRParse w (bytesOf s)) := by
  have hl := bytes_length s
  by_cases h0 : s.size = 0
  · have hn : bytesOf s = [] := List.eq_nil_of_length_eq_zero (by omega)
    have t1 : ((s.size : Int) == 0) = true := by simp [h0]
    have HN := Lib.hid hn; clear hn hl h0
    go_enter Try.func35, Try.ntmps35
    go_wp2_with fail
    refine bodyPost_end (results_tmp2 rfl _ _ _) rfl ?_
    exact RetRParse.bad (fun hg => hg.1 HN.out) (Below.refl _ _)
  · by_cases hf : nth (bytesOf s) 0 = 48 → s.size = 1
    · exact rparse_loop s w h1 (by omega) hf
    · have t1 : ((s.size : Int) == 0) = false := beq_eq_false_iff_ne.2 (by omega)
      have h00 : 0 < s.size := Nat.pos_of_ne_zero h0
      have hg0 := bytes_get s 0 h00
      have hf1 : nth (bytesOf s) 0 = 48 := Classical.byContradiction fun h => hf fun h' => absurd h' h
      have t3 : ((nth (bytesOf s) 0 : Int) == 48) = true := by simp [hf1]
      have t4 : 1 < s.size := by
        rcases Nat.lt_or_ge 1 s.size with h | h
        · exact h
        · exact absurd (fun _ => by omega) hf
      have HL := Lib.hid hl; clear hl
      have HF := Lib.hid hf; clear hf hf1
      go_enter Try.func35, Try.ntmps35
      go_wp2_with fail
      refine bodyPost_end (results_tmp2 rfl _ _ _) rfl ?_
      exact RetRParse.bad (fun hg => HF.out (by have := hg.2.2; rwa [HL.out] at this)) (Below.refl _ _)
end Go.Proofs.Ytnpokifmknepoaa
