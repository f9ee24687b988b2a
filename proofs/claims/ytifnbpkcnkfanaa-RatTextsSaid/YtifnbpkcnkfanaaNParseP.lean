/-
  Plain facts for nat.Parse: bytes of a string, the value of a prefix, one digit more.
-/
import Derived.Test.YtifnbpkcnkfanaaNRefP
import Derived.Test.YtifnbpkcnkfanaaNatAdd
namespace Go.Proofs.Ytifnbpkcnkfanaa
open Go.RowKit

/-- The bytes of a string, as numbers. -/
def bytesOf (s : ByteArray) : List Nat := s.toList.map UInt8.toNat
theorem bytes_length (s : ByteArray) : (bytesOf s).length = s.size := by
  rw [bytesOf, List.length_map, ByteArray.toList_eq]; cases s; rfl
theorem bytes_get (s : ByteArray) (i : Nat) (h : i < s.size) : (s[i]'h).toNat = nth (bytesOf s) i := by
  have h1 : i < (bytesOf s).length := by rw [bytes_length]; exact h
  rw [nth_eq h1]
  simp only [bytesOf, List.getElem_map]
  congr 1
  have h2 : i < s.data.toList.length := by have := bytes_length s; rw [bytesOf, List.length_map, ByteArray.toList_eq] at this; omega
  have h3 : s.toList[i]'(by rw [ByteArray.toList_eq]; exact h2) = s.data.toList[i] := by simp only [ByteArray.toList_eq]
  rw [h3]
  cases s; rfl
theorem bytes_lt (s : ByteArray) : ∀ b ∈ bytesOf s, b < 256 := by
  intro b hb
  obtain ⟨u, _, rfl⟩ := List.mem_map.1 hb
  exact u.toNat_lt
theorem bytes_nil {s : ByteArray} : bytesOf s = [] ↔ s.toList = [] := by simp [bytesOf]
theorem bytes_inj {s t : ByteArray} (h : bytesOf s = bytesOf t) : s = t := by
  have h1 : s.toList = t.toList := by
    have hi : Function.Injective UInt8.toNat := fun a b h => UInt8.toNat_inj.1 h
    exact (List.map_inj_right (fun _ _ h => hi h)).1 h
  rw [ByteArray.toList_eq, ByteArray.toList_eq] at h1
  cases s with | mk a => cases t with | mk b => cases a; cases b; simp at h1; rw [h1]

/-- The value of the first i decimal characters. -/
def dv (bs : List Nat) : Nat → Nat
  | 0 => 0
  | i + 1 => dv bs i * 10 + (nth bs i - 48)
theorem dv_lt {bs : List Nat} : ∀ i, (∀ j, j < i → nth bs j ≤ 57) → dv bs i < 10 ^ i
  | 0, _ => by simp [dv]
  | i + 1, h => by
    have h1 := dv_lt (bs := bs) i (fun j hj => h j (by omega))
    have h2 := h i (by omega)
    rw [dv, Nat.pow_succ]; omega
/-- A decimal representation without leading zeros. -/
def PGood (bs : List Nat) : Prop := bs ≠ [] ∧ (∀ j, j < bs.length → 48 ≤ nth bs j ∧ nth bs j ≤ 57) ∧ (nth bs 0 = 48 → bs.length = 1)

/-- One digit more, digit by digit of the base. -/
def PaInv (L0 L : List Nat) (d j cr : Nat) : Prop :=
  L.length = L0.length ∧ (∀ x ∈ L, x < 4294967296) ∧ valB 4294967296 (L.take j) + 4294967296 ^ j * cr = 10 * valB 4294967296 (L0.take j) + d ∧ cr ≤ 10 ∧ ∀ t, j ≤ t → t < L0.length → nth L t = nth L0 t
theorem PaInv.start {L0 : List Nat} {d : Nat} (h : ∀ x ∈ L0, x < 4294967296) (hd : d ≤ 9) : PaInv L0 L0 d 0 d :=
  ⟨rfl, h, by simp [valB], by omega, fun _ _ _ => rfl⟩
theorem mem_set' {L : List Nat} {b k x : Nat} (h : ∀ e ∈ L, e < b) (hx : x < b) : ∀ e ∈ L.set k x, e < b := by
  intro e he
  rcases List.mem_or_eq_of_mem_set he with h1 | h1
  · exact h e h1
  · omega
theorem PaInv.step {L0 L : List Nat} {d j cr s : Nat} (h : PaInv L0 L d j cr) (hj : j < L0.length) (h0 : ∀ x ∈ L0, x < 4294967296) (hs : s = cr + 10 * nth L0 j) : PaInv L0 (L.set j (s % 4294967296)) d (j + 1) (s / 4294967296) := by
  obtain ⟨h1, h2, h3, h4, h5⟩ := h
  have hx := h0 _ (nth_mem hj)
  have hb : (4294967296 : Nat) = 2 ^ 32 := rfl
  refine ⟨by simp [h1], mem_set' h2 (Nat.mod_lt _ (by omega)), ?_, by omega, fun t ht1 ht2 => ?_⟩
  · rw [valB_take (by rw [List.length_set]; omega), valB_take hj, nth_set (by omega), if_pos rfl]
    have e1 : (L.set j (s % 4294967296)).take j = L.take j := by rw [List.take_set]; exact List.set_eq_of_length_le (by simp; omega)
    rw [e1, Nat.pow_succ]
    have h7 : s = 4294967296 * (s / 4294967296) + s % 4294967296 := by omega
    generalize s / 4294967296 = q at *
    generalize s % 4294967296 = r at *
    generalize 4294967296 ^ j = P at *
    generalize valB 4294967296 (L.take j) = a at *
    generalize valB 4294967296 (L0.take j) = b at *
    generalize nth L0 j = x at *
    clear h1 h2 h5 hb
    grind
  · rw [nth_set (by omega), if_neg (by omega)]
    exact h5 t (by omega) ht2
theorem PaInv.stop {L0 L : List Nat} {d V : Nat} (h : PaInv L0 L d L0.length 0) (h0 : Nrm 4294967296 L0 V) : Nrm 4294967296 L (V * 10 + d) := by
  obtain ⟨h1, h2, h3, h4, h5⟩ := h
  rw [take_all (by omega), take_all (Nat.le_refl _), h0.1] at h3
  have hv : valB 4294967296 L = V * 10 + d := by omega
  refine ⟨hv, h2, ?_⟩
  rcases Nat.eq_zero_or_pos L.length with hl | hl
  · left; exact List.eq_nil_of_length_eq_zero hl
  · right
    intro hz
    have h6 := h0.pos (by omega)
    have h7 := valB_take (b := 4294967296) (l := L) (k := L.length - 1) (by omega)
    rw [Nat.sub_add_cancel hl, List.take_length, hz, hv] at h7
    have h8 := valB_lt (b := 4294967296) (l := L.take (L.length - 1)) (fun x hx => h2 x (List.mem_of_mem_take hx))
    rw [List.length_take, Nat.min_eq_left (by omega), h1] at h8
    rw [Nat.mul_zero, h1] at h7
    omega
theorem PaInv.grow {L0 L : List Nat} {d V cr : Nat} (h : PaInv L0 L d L0.length cr) (h0 : Nrm 4294967296 L0 V) (hc : 0 < cr) : Nrm 4294967296 (L ++ [cr]) (V * 10 + d) := by
  obtain ⟨h1, h2, h3, h4, h5⟩ := h
  rw [take_all (by omega), take_all (Nat.le_refl _), h0.1] at h3
  refine ⟨by rw [valB_push, h1]; omega, mem_push h2 (by omega), .inr ?_⟩
  rw [List.length_append, List.length_singleton, Nat.add_sub_cancel, nth_push]; omega
end Go.Proofs.Ytifnbpkcnkfanaa
