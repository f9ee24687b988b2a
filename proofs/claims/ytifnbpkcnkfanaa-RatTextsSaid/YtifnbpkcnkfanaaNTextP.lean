/-
  Plain facts on decimal texts: a text parses to its number; a good string is the text of its number.
-/
import Derived.Test.YtifnbpkcnkfanaaNParse
namespace Go.Proofs.Ytifnbpkcnkfanaa
open Go.RowKit

theorem bytes_mk (l : List UInt8) : bytesOf ⟨l.toArray⟩ = l.map UInt8.toNat := by simp [bytesOf]
theorem bytes_text {D : List Nat} (h : ∀ d ∈ D, d < 10) (hD : D ≠ []) : bytesOf (textOf D) = D.reverse.map (· + 48) := by
  rw [textOf, if_neg hD, bytes_mk, List.map_map]
  apply List.map_congr_left
  intro d hd
  have := h d (List.mem_reverse.1 hd)
  simp only [Function.comp]
  show (UInt8.ofNat (d + 48)).toNat = d + 48
  rw [UInt8.toNat_ofNat']; omega
theorem bytes_zero : bytesOf (textOf []) = [48] := by
  rw [textOf, if_pos rfl]
  show bytesOf ⟨[48].toArray⟩ = [48]
  rw [bytes_mk]; rfl
theorem dv_prefix (l m : List Nat) : ∀ i, i ≤ l.length → dv (l ++ m) i = dv l i
  | 0, _ => rfl
  | i + 1, h => by
    rw [dv, dv, dv_prefix l m i (by omega)]
    have : nth (l ++ m) i = nth l i := by simp only [nth, List.getD]; rw [List.getElem?_append_left (by omega)]
    rw [this]
theorem dv_rev (D : List Nat) : dv (D.reverse.map (· + 48)) D.length = valB 10 D := by
  induction D with
  | nil => rfl
  | cons d D ih =>
    rw [List.reverse_cons, List.map_append, List.length_cons, dv, dv_prefix _ _ _ (by simp), ih, valB]
    have : nth (D.reverse.map (· + 48) ++ [d].map (· + 48)) D.length = d + 48 := by
      simp only [nth, List.getD]
      rw [List.getElem?_append_right (by simp)]
      simp
    rw [this]; omega
theorem text_good {D : List Nat} {N : Nat} (h : Nrm 10 D N) : PGood (bytesOf (textOf D)) ∧ dv (bytesOf (textOf D)) (bytesOf (textOf D)).length = N := by
  by_cases hD : D = []
  · subst hD
    rw [bytes_zero]
    have : N = 0 := h.1.symm
    refine ⟨⟨by simp, ?_, by simp⟩, by rw [this]; rfl⟩
    intro j hj
    simp at hj; subst hj; simp [nth]
  · rw [bytes_text h.2.1 hD]
    refine ⟨⟨by simpa using hD, fun j hj => ?_, fun h0 => ?_⟩, ?_⟩
    · have := nth_mem hj
      obtain ⟨d, hd, he⟩ := List.mem_map.1 this
      have := h.2.1 d (List.mem_reverse.1 hd)
      omega
    · exfalso
      rcases h.2.2 with h1 | h1
      · exact hD h1
      · apply h1
        have hl : 0 < D.length := List.length_pos_iff.2 hD
        rw [nth_eq (by simp; omega)] at h0
        simp only [List.getElem_map, List.getElem_reverse] at h0
        rw [nth_eq (by omega)]
        simp only [Nat.sub_zero] at h0
        omega
    · have : (D.reverse.map (· + 48)).length = D.length := by simp
      rw [this, dv_rev]; exact h.1
theorem good_text {bs : List Nat} (hg : PGood bs) {D : List Nat} (h : Nrm 10 D (dv bs bs.length)) : bytesOf (textOf D) = bs := by
  obtain ⟨h1, h2, h3⟩ := hg
  obtain ⟨L, hL⟩ : ∃ L, L = (bs.map (· - 48)).reverse := ⟨_, rfl⟩
  have hbs : bs = L.reverse.map (· + 48) := by
    rw [hL, List.reverse_reverse, List.map_map]
    conv => lhs; rw [← List.map_id bs]
    apply List.map_congr_left
    intro b hb
    obtain ⟨i, hi, he⟩ := List.getElem_of_mem hb
    have := h2 i hi
    rw [nth_eq hi, he] at this
    simp only [Function.comp, id]; omega
  have hlen : L.length = bs.length := by rw [hL]; simp
  have hdig : ∀ d ∈ L, d < 10 := by
    intro d hd
    rw [hL] at hd
    obtain ⟨b, hb, rfl⟩ := List.mem_map.1 (List.mem_reverse.1 hd)
    obtain ⟨i, hi, he⟩ := List.getElem_of_mem hb
    have := h2 i hi
    rw [nth_eq hi, he] at this
    omega
  have hval : valB 10 L = dv bs bs.length := by rw [← dv_rev, ← hbs, hlen]
  by_cases hz : nth bs 0 = 48
  · have hl1 := h3 hz
    match hb : bs, hl1 with
    | [b], _ =>
      simp [nth] at hz
      subst hz
      have h0 : D = [] := by
        have : D.length = 0 := (h.zero_iff (by omega)).2 rfl
        exact List.eq_nil_of_length_eq_zero this
      rw [h0, bytes_zero]
  · have hlp : 0 < bs.length := List.length_pos_iff.2 h1
    have hNrm : Nrm 10 L (dv bs bs.length) := by
      refine ⟨hval, hdig, .inr ?_⟩
      intro h4
      apply hz
      have h5 := h2 0 hlp
      rw [nth_eq hlp] at h5 ⊢
      rw [nth_eq (by omega)] at h4
      have h6 : L[L.length - 1]'(by omega) = bs[0] - 48 := by
        simp only [hL, List.getElem_reverse, List.getElem_map]
        congr 2
        simp
      omega
    have := h.unique hNrm (by omega)
    rw [this, bytes_text hdig (fun h => by rw [h] at hlen; simp at hlen; omega), ← hbs]
theorem good_string {s : ByteArray} (hg : PGood (bytesOf s)) {D : List Nat} (h : Nrm 10 D (dv (bytesOf s) (bytesOf s).length)) : textOf D = s := bytes_inj (good_text hg h)
theorem text_size {D : List Nat} {b : Nat} (h : D.length ≤ b) (hb : 1 ≤ b) : (textOf D).size ≤ b := by
  unfold textOf
  split
  · exact hb
  · simp [ByteArray.size]; exact h
end Go.Proofs.Ytifnbpkcnkfanaa
