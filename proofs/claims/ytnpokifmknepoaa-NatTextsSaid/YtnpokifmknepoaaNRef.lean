/-
  Contracts of the reference of layer 4: decimal digits.
-/
import Derived.Test.YtnpokifmknepoaaNNum
import Derived.Test.YtnpokifmknepoaaNRefP
namespace Go.Proofs.Ytnpokifmknepoaa
open Go.RowKit

def ints (D : List Nat) : List Int := D.map fun d : Nat => (d : Int)
theorem ints_length (D : List Nat) : (ints D).length = D.length := by simp [ints]
theorem inth_ints {D : List Nat} {i : Nat} (h : i < D.length) : inth (ints D) i = (nth D i : Int) := by
  rw [nth_eq h]; simp [ints, inth, List.getD, h]
theorem ints_push (D : List Nat) (x : Nat) : ints D ++ [(x : Int)] = ints (D ++ [x]) := by simp [ints]
theorem ints_in {D : List Nat} (h : ∀ d ∈ D, d < 10) : ∀ x ∈ ints D, -9223372036854775808 ≤ x ∧ x ≤ 9223372036854775807 := by
  intro x hx
  obtain ⟨d, hd, rfl⟩ := List.mem_map.1 hx
  have := h d hd; omega
/-- A slice of int holds the decimal digits of a number. -/
def DN (w : World) (A : Option Addr) (k c N : Nat) : Prop := k ≤ c ∧ ∃ D, Nrm 10 D N ∧ Xs w w.heap.size A k (ints D)
def RetD (w : World) (N : Nat) (e : Ending) (w' : World) : Prop := ∃ A k c, e = .returned (.slice A k c) ∧ DN w' A k c N ∧ Below w.heap.size w w'
section
variable {w w' : World} {A : Option Addr} {k c N n i : Nat} {D : List Nat}
theorem DN.new (h : DN w A k c N) (hb : Below w.heap.size w w') : DN w' A k c N := by
  obtain ⟨h1, D, h2, h3⟩ := h
  exact ⟨h1, D, h2, h3.new hb⟩
theorem DN.len {b : Nat} (h : DN w A k c N) (hN : N < 10 ^ b) : k ≤ b := by
  obtain ⟨h1, D, h2, h3⟩ := h
  have h4 := h3.len
  rw [ints_length] at h4
  rw [h4]; exact h2.small_lt hN
theorem DN.zero (h : DN w A k c N) : k = 0 ↔ N = 0 := by
  obtain ⟨h1, D, h2, h3⟩ := h
  have h4 := h3.len
  rw [ints_length] at h4
  rw [h4]; exact h2.zero_iff (by omega)
theorem nil_dn (w : World) : DN w none 0 0 0 := ⟨Nat.le_refl _, [], Nrm.nil _, Reads.none_, ⟨rfl, by omega⟩, by simp [ints]⟩
theorem Xs.dig {B : Nat} (h : Xs w B A n (ints D)) (hi : i < n) : ∃ ad, A = some ad ∧ ad.block < B ∧ w.cell? (ad.add i) = some (.int .i64 (nth D i : Int)) := by
  obtain ⟨ad, h1, h2, h3⟩ := h.at_ hi
  have h4 := h.len
  rw [ints_length] at h4
  rw [inth_ints (by omega)] at h3
  exact ⟨ad, h1, h2, h3⟩
theorem Xs.take {B : Nat} {xs : List Int} (h : Xs w B A n xs) (hk : k ≤ n) : Xs w B A k (xs.take k) := by
  have hl := h.2.1.1
  refine ⟨⟨by rw [I64_length]; simp; omega, fun hp => ?_⟩, ⟨by simp; omega, by have := h.2.1.2; omega⟩, fun e he => h.2.2 e (List.mem_of_mem_take he)⟩
  obtain ⟨ad, rfl, hb, hc⟩ := h.1.2 (by omega)
  refine ⟨ad, rfl, hb, fun j u hu => hc j u ?_⟩
  simp only [I64, List.map_take] at hu ⊢
  rw [List.getElem?_take] at hu
  split at hu
  · exact hu
  · cases hu
end
theorem info_int' : (Try.prog.info? 3).map (fun i => (i.zero, i.size, i.bytes)) = some (some (.int .i64 0), 1, 8) := by kernel_rfl
section
variable {ops : Array Oper} {rest : List Oper} {o : Oper} {a : Act} {w : World} {Q : Exit → Act → World → Prop}
theorem app_num (hgd : o.guard = none) (s x : Operand) (ho : o.op = .call { callee := .builtin .append, args := #[s, x], argTypes := #[28, 28] })
    (base : Nat) (v : Value) (k : Nat) (L : List Nat) (hs : a.eval s = v) (hown : w.ownsRow base 3 1 v k (I64 (ints L))) (g y : Nat) (hx : a.eval x = .slice (some ⟨g, 0, none⟩) 1 1) (hb : Blk w g 3 #[.int .i64 (y : Int)])
    (hk : k ≤ 100000000) (hbase : base ≤ w.heap.size)
    (h : ∀ v' w', w'.ownsRow base 3 1 v' (k + 1) (I64 (ints (L ++ [y]))) → w.grownBy w' v.ownBlock → (v'.ownBlock = v.ownBlock ∨ v'.ownBlock = some w.heap.size) → wpList Try.prog ops Q rest (a.put o.dst v') w') : wpList Try.prog ops Q (o :: rest) a w := by
  obtain ⟨i, hi, hz, hs1, hby⟩ := info_parts info_int'
  have hr : Reads w w.heap.size 1 (some ⟨g, 0, none⟩) 1 [.int .i64 (y : Int)] := ⟨rfl, fun _ => ⟨_, rfl, hb.lt, fun j u hu => by
    have e : (Addr.add ⟨g, 0, none⟩ j) = ⟨g, j, none⟩ := by unfold Addr.add; split <;> simp_all
    rw [e, hb.cell]; simpa using hu⟩⟩
  refine wpList_append_any w hgd s x 28 ho base 3 i _ 1 8 Try.underlying28 hi hz hs1 hby rfl (by omega) v k (I64 (ints L)) hs hown w.heap.size _ 1 1 _ hx hr (by simp; rfl) (by simp only [maxLen]; omega) (by omega) hbase ?_
  intro v' w' h1 h2 h3
  exact h v' w' (by simpa [I64, ints] using h1) h2 h3
end

def RetRTrim (A : Option Addr) (c N : Nat) (w : World) (e : Ending) (w' : World) : Prop := ∃ k, e = .returned (.slice A k c) ∧ DN w A k c N ∧ w = w'
set_option maxHeartbeats 1000000 in
theorem rtrim_any (A : Option Addr) (ds : List Nat) (n c : Nat) (hc : n ≤ c) (w : World) (hr : Xs w w.heap.size A n (ints ds)) (hd : ∀ d ∈ ds, d < 10) :
    Calls Try.prog 43 #[.slice A n c] w (RetRTrim A c (valB 10 ds) w) := by
  have hle := hr.le
  have hln : n = ds.length := by rw [hr.len, ints_length]
  have HD := Lib.hid hd; clear hd
  have HLN := Lib.hid hln; clear hln
  have HR := Lib.hid hr; clear hr
  have fin : ∀ k, k ≤ n → (∀ j, k ≤ j → j < n → nth ds j = 0) → (k = 0 ∨ nth ds (k - 1) ≠ 0) → DN w A k c (valB 10 ds) := fun k h1 h2 h3 => by
    refine ⟨by omega, ds.take k, Nrm.mk_trim HD.out (by rw [← HLN.out]; exact h1) (by rw [← HLN.out]; exact h2) h3, ?_⟩
    have := HR.out.take h1
    simpa [ints, List.map_take] using this
  have HF := Lib.hid fin; clear fin
  go_enter Try.func43, Try.ntmps43
  go_wp2_with fail
  go_loop [3] (fun i => ∃ k : Nat, k ≤ n ∧ i = .int .i64 k ∧ Hid (∀ j, k ≤ j → j < n → nth ds j = 0)) (fun i => (intOf i).toNat)
  case atStart => exact ⟨n, Nat.le_refl _, rfl, Lib.hid (fun j h1 h2 => absurd h2 (by omega))⟩
  case round =>
    obtain ⟨k, hk, rfl, HJ⟩ := hrel
    by_cases hk0 : 0 < k
    · obtain ⟨k, rfl⟩ : ∃ m, k = m + 1 := ⟨k - 1, by omega⟩
      obtain ⟨ad, rfl, hb, hcell⟩ := HR.out.dig (show k < n by omega)
      have i1 : ((k + 1 : Nat) : Int) - 1 = (k : Int) := by omega
      by_cases hz : nth ds k = 0
      · have ht : ((nth ds k : Int) == 0) = true := by simp [hz]
        have HZ := Lib.hid hz; clear hz
        go_wp2_with fail
        refine ⟨⟨k, by omega, rfl, Lib.hid (fun j h1 h2 => ?_)⟩, by simp [intOf]⟩
        by_cases hj : j = k
        · subst hj; exact HZ.out
        · exact HJ.out j (by omega) h2
      · have ht : ((nth ds k : Int) == 0) = false := by simp [hz]
        have HZ := Lib.hid hz; clear hz
        go_wp2_with fail
        go_ret
        exact ⟨k + 1, rfl, HF.out (k + 1) hk HJ.out (.inr HZ.out), rfl⟩
    · obtain rfl : k = 0 := by omega
      have h0 : ((0 : Nat) : Int) = 0 := rfl
      go_wp2_with fail
      go_ret
      exact ⟨0, rfl, HF.out 0 hk HJ.out (.inl rfl), rfl⟩

theorem own_cap' {w : World} {base : Nat} {e : TypeId} {n : Nat} {A : Option Addr} {c : Nat} {xs : List Value} (h : w.ownsRow base e 1 (.slice A n c) n xs) : n ≤ c := by
  rcases h.2 with ⟨h1, h2⟩ | ⟨g, cap, cur, h1, _, _, h3, _⟩
  · omega
  · cases h1; exact h3
theorem tmod10 (s : Nat) : Int.tmod (s : Int) 10 = ((s % 10 : Nat) : Int) := by rw [Int.tmod_eq_emod_of_nonneg (by omega)]; omega
theorem tdiv10 (s : Nat) : Int.tdiv (s : Int) 10 = ((s / 10 : Nat) : Int) := by rw [Int.tdiv_eq_ediv_of_nonneg (by omega)]; omega

set_option maxHeartbeats 4000000 in
theorem small_any (A : Option Addr) (n c f p N : Nat) (w : World) (hr : DN w A n c N) (hn : n ≤ 10000000) (hf : f ≤ 4294967296) (hp : p ≤ 4294967296) :
    Calls Try.prog 37 #[.slice A n c, .int .i64 f, .int .i64 p] w (RetD w (N * f + p)) := by
  obtain ⟨hc, D, hN, hX⟩ := hr
  have hln : n = D.length := by rw [hX.len, ints_length]
  have HD := Lib.hid hN; clear hN
  have HLN := Lib.hid hln; clear hln
  have HX := Lib.hid hX; clear hX
  go_enter Try.func37, Try.ntmps37
  go_wp2_with fail
  go_loopw [7, 8, 9] (fun ov cv iv wr => ∃ (i cr : Nat) (L : List Nat), iv = .int .i64 i ∧ cv = .int .i64 cr ∧ cr ≤ 42949672960 ∧ i ≤ 10000011 ∧ Hid (SmInv D f p L i cr ∧ wr.ownsRow w.heap.size 3 1 ov i (I64 (ints L)) ∧ Below w.heap.size w wr)) (fun _ cv iv _ => (n - (intOf iv).toNat) * 1000000000000 + (intOf cv).toNat)
  case atStart => exact ⟨0, p, [], rfl, rfl, by omega, by omega, Lib.hid ⟨SmInv.start D f p (by omega), own_nil _ _ _, Below.refl _ _⟩⟩
  case round =>
    obtain ⟨i, cr, L, rfl, rfl, hcr, hi, HJ⟩ := hrel
    obtain ⟨Ao, co, rfl⟩ := own_form HJ.out.2.1
    by_cases hlt : i < n
    · obtain ⟨ad, rfl, hb1, hcell⟩ := (HX.out.below HJ.out.2.2).dig hlt
      obtain ⟨q, hq⟩ : ∃ q, q = nth D i * f := ⟨_, rfl⟩
      have hd10 := HD.out.2.1 _ (nth_mem (show i < D.length by rw [← HLN.out]; exact hlt))
      have hq2 : q ≤ 38654705664 := by
        have : nth D i * f ≤ 9 * 4294967296 := Nat.mul_le_mul (by omega) hf
        omega
      have e1 : (nth D i : Int) * (f : Int) = (q : Int) := by rw [hq]; simp
      obtain ⟨s, hs⟩ : ∃ s, s = cr + q := ⟨_, rfl⟩
      have e2 : (cr : Int) + (q : Int) = (s : Int) := by omega
      have e3 := tmod10 s
      have e4 := tdiv10 s
      have hs2 : s ≤ 81604378624 := by omega
      have hst := Lib.hid (HJ.out.1.inside (s := s) (by rw [← HLN.out]; exact hlt) HD.out.2.1 hf (by rw [hs, hq]))
      have HQ := Lib.hid hq; clear hq
      have HS := Lib.hid hs; clear hs
      go_wp2_with (at_builtin; refine app_num rfl (.tmp 33) (.tmp 36) rfl w.heap.size _ i L rfl (HJ.out.2.1.alloc _) wr.heap.size (s % 10) rfl (Blk.new wr 3 _) (by omega) (by have := HJ.out.2.2.size; simp; omega) ?_; intro v' w4 hown4 hg4 hat4; have H4 := Lib.hid (And.intro hown4 hg4); clear hown4 hg4 hat4)
      have hB4 := Below.appended (HJ.out.2.2.alloc HJ.out.2.2.size (.cells #[.int .i64 ((s % 10 : Nat) : Int)] 3)) (HJ.out.2.1.alloc _) H4.out.2 (by have := HJ.out.2.2.size; simp; omega) (Nat.le_refl _)
      refine ⟨⟨i + 1, s / 10, L ++ [s % 10], by go_num, by simp, by omega, by omega, Lib.hid ⟨hst.out, H4.out.1, hB4⟩⟩, ?_⟩
      simp [intOf]; omega
    · by_cases hc0 : 0 < cr
      · have e3 := tmod10 cr
        have e4 := tdiv10 cr
        have hst := Lib.hid (HJ.out.1.outside (by rw [← HLN.out]; omega) hc0)
        have hi2 : i + 1 ≤ 10000011 := by have := hst.out.2.2.2.2; rw [← HLN.out] at this; omega
        go_wp2_with (at_builtin; refine app_num rfl (.tmp 33) (.tmp 36) rfl w.heap.size _ i L rfl (HJ.out.2.1.alloc _) wr.heap.size (cr % 10) rfl (Blk.new wr 3 _) (by omega) (by have := HJ.out.2.2.size; simp; omega) ?_; intro v' w4 hown4 hg4 hat4; have H4 := Lib.hid (And.intro hown4 hg4); clear hown4 hg4 hat4)
        have hB4 := Below.appended (HJ.out.2.2.alloc HJ.out.2.2.size (.cells #[.int .i64 ((cr % 10 : Nat) : Int)] 3)) (HJ.out.2.1.alloc _) H4.out.2 (by have := HJ.out.2.2.size; simp; omega) (Nat.le_refl _)
        refine ⟨⟨i + 1, cr / 10, L ++ [cr % 10], by go_num, by simp, by omega, by omega, Lib.hid ⟨hst.out, H4.out.1, hB4⟩⟩, ?_⟩
        simp [intOf]; omega
      · obtain rfl : cr = 0 := by omega
        have h0 : ((0 : Nat) : Int) = 0 := rfl
        go_wp2_with fail
        have hv := HJ.out.1.done (by rw [← HLN.out]; omega)
        obtain ⟨A2, c2, he, hE⟩ := Xs.of_own HJ.out.2.1 (ints_in HJ.out.1.2.1)
        cases he
        have hco := own_cap' HJ.out.2.1
        refine (rtrim_any Ao L i co hco _ hE HJ.out.1.2.1).mono ?_
        rintro e w4 ⟨k, rfl, hdn, rfl⟩
        rw [hv, HD.out.1] at hdn
        have H4 := Lib.hid hdn; clear hdn hE hv
        go_wp2_with fail
        go_ret
        exact ⟨Ao, k, co, rfl, H4.out, HJ.out.2.2⟩
end Go.Proofs.Ytnpokifmknepoaa
