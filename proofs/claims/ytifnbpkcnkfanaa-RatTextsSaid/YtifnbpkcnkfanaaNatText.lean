/-
  Contract of nat.Text.
-/
import Derived.Test.YtifnbpkcnkfanaaNBytes
import Derived.Deep.LoopGhost
namespace Go.Proofs.Ytifnbpkcnkfanaa
open Go.RowKit

/-- The digits so far (o), the group g with i digits of it done, the rest R. -/
def TxInv (p N : Nat) (o : List Nat) (g q R : Nat) : Prop := (∀ d ∈ o, d < p) ∧ g < q ∧ valB p o + p ^ o.length * (g + q * R) = N
theorem TxInv.step {p N g q R : Nat} {o : List Nat} (h : TxInv p N o g (p * q) R) (hp : 0 < p) : TxInv p N (o ++ [g % p]) (g / p) q R := by
  obtain ⟨h1, h2, h3⟩ := h
  refine ⟨?_, Nat.div_lt_of_lt_mul h2, ?_⟩
  · intro d hd
    simp only [List.mem_append, List.mem_singleton] at hd
    rcases hd with hd | rfl
    · exact h1 d hd
    · exact Nat.mod_lt _ hp
  · rw [valB_snoc, List.length_append, List.length_singleton, Nat.pow_succ, ← h3]
    have e : p ^ o.length * (g + p * q * R) = p ^ o.length * (g % p) + p ^ o.length * p * (g / p + q * R) := by
      rw [Nat.mul_assoc (p ^ o.length) p, ← Nat.mul_add, Nat.mul_add p, ← Nat.add_assoc, Nat.mod_add_div, Nat.mul_assoc p q]
    omega
/-- Is the last digit known to be right? -/
def TxEnd (o : List Nat) (g i R : Nat) : Prop := R = 0 → g = 0 → 0 < i ∧ (o ≠ [] ∧ nth o (o.length - 1) ≠ 0)
theorem TxEnd.step {o : List Nat} {g i R : Nat} (h : R = 0 → g ≠ 0) : TxEnd (o ++ [g % 10]) (g / 10) (i + 1) R := by
  intro hR hg
  have := h hR
  refine ⟨by omega, by simp, ?_⟩
  rw [nth_eq (by simp), List.getElem_append_right (by simp)]
  simp
  omega

theorem Es.inj {w : World} {B k n : Nat} {A : Option Addr} {l ds : List Nat} (h : Es w B A k l) (hd : Es w B A n ds) (hk : k ≤ n) : l = ds.take k := by
  have h1 := h.len
  have h2 := hd.len
  apply List.ext_getElem
  · simp; omega
  · intro i h3 h4
    obtain ⟨a, rfl, _, c1⟩ := h.at_ (show i < k by omega)
    obtain ⟨a', e, _, c2⟩ := hd.at_ (show i < n by omega)
    cases e
    rw [c1] at c2
    have e1 : nth l i = nth ds i := by
      injection c2 with c2
      injection c2 with _ c2
      omega
    rw [← nth_eq h3, e1, List.getElem_take, nth_eq (by omega)]
theorem Tx_len {N k : Nat} {o : List Nat} {g q R : Nat} (h : TxInv 10 N o g q R) (hN : N < 4294967296 ^ k) (hpos : 0 < g + q * R) : o.length ≤ 10 * k := by
  rcases Nat.lt_or_ge (10 * k) o.length with h1 | h1
  · have h2 : 10 ^ (10 * k) ≤ 10 ^ o.length := Nat.pow_le_pow_right (by omega) (by omega)
    have h3 : 4294967296 ^ k ≤ 10 ^ (10 * k) := by rw [Nat.pow_mul]; exact Nat.pow_le_pow_left (by decide) k
    have h4 := h.2.2
    have h5 : 10 ^ o.length * 1 ≤ 10 ^ o.length * (g + q * R) := Nat.mul_le_mul_left _ hpos
    have h6 : 10 ^ o.length ≤ N := by rw [Nat.mul_one] at h5; exact Nat.le_trans h5 (by rw [← h4]; exact Nat.le_add_left _ _)
    exact absurd (Nat.lt_of_lt_of_le hN (Nat.le_trans h3 (Nat.le_trans h2 h6))) (Nat.lt_irrefl _)
  · exact h1
theorem Tx_group {p N R d : Nat} {o : List Nat} (h : TxInv p N o 0 1 R) (hd : 0 < d) : TxInv p N o (R % d) d (R / d) := by
  refine ⟨h.1, Nat.mod_lt _ hd, ?_⟩
  have := h.2.2
  rw [Nat.zero_add, Nat.one_mul] at this
  rw [Nat.mod_add_div]; exact this

theorem casts_getD {L : List Nat} (i : Nat) (h : i < L.length) : (L.map (fun x : Nat => (x : Int))).getD i 0 = (nth L i : Int) := by
  rw [nth_eq h]
  simp [List.getD, List.getElem?_eq_getElem h]

def RetText (w : World) (N : Nat) (e : Ending) (w' : World) : Prop := ∃ D, Nrm 10 D N ∧ e = .returned (.string (textOf D)) ∧ Below w.heap.size w w'

set_option maxHeartbeats 8000000 in
theorem text_any (A : Option Addr) (ds : List Nat) (n c : Nat) (hc : n ≤ c) (w : World) (hr : Es w w.heap.size A n ds) (hn : n ≤ 100000) :
    Calls Try.prog 59 #[.slice A n c] w (RetText w (valB 4294967296 ds)) := by
  have HR := Lib.hid hr; clear hr
  go_enter Try.func59, Try.ntmps59
  go_wp2_with fail
  refine (norm_any A ds n c hc (by omega) _ HR.out).mono ?_
  generalize valB 4294967296 ds = N at *
  rintro e w1 ⟨k, l, ⟨v, rfl, hown, hb1⟩, hk, hkl, hN⟩
  have N1 := Lib.hid hN; clear hN
  have HZ := Lib.hid (N1.out.zero_iff (by omega)); rw [← hkl] at HZ
  have HKL := Lib.hid hkl; clear hkl
  have HO := Lib.hid hown; clear hown
  have HB1 := Lib.hid hb1; clear hb1
  by_cases hk0 : k = 0
  · have HN0 := Lib.hid (HZ.out.1 hk0)
    obtain ⟨A2, c2, rfl⟩ := own_form HO.out
    subst hk0
    clear HZ
    go_wp2_with fail
    go_ret
    exact ⟨[], by rw [HN0.out]; exact Nrm.nil _, by simp [textOf], HB1.out⟩
  obtain ⟨g0, c2, X, rfl, hg0, hc2, hblk, hll⟩ := own_rowX HO.out (by omega)
  have hkb : ((k : Int) == 0) = false := by simp; omega
  have HBK := Lib.hid hblk; clear hblk
  have HLL := Lib.hid hll; clear hll
  clear HO
  go_wp2_with fail
  have HNlt := Lib.hid (show N < 4294967296 ^ k by have := N1.out.lt; rwa [← HKL.out] at this)
  go_loopg [3, 4, 5, 6] N (fun R rv ov _ _ wr => ∃ (k' c' m : Nat), rv = .slice (some ⟨g0, 0, none⟩) k' c' ∧ k' ≤ k ∧ Hid (k' ≤ c' ∧ (∃ (l' : List Nat) (X' : List Value) (o : List Nat), Nrm 4294967296 l' R ∧ k' = l'.length ∧ Blk wr g0 23 (urowX l' X') ∧ wr.ownsRow w.heap.size 5 1 ov m (U8 (o.map (· + 48))) ∧ m = o.length ∧ TxInv 10 N o 0 1 R ∧ TxEnd o 0 1 R) ∧ m ≤ 1000010 ∧ Below w.heap.size w wr))
  case atStart =>
    refine ⟨k, c2, 0, rfl, Nat.le_refl _, Lib.hid ⟨hc2, ⟨l, X, [], N1.out, HKL.out, HBK.out, own_nil _ _ _, rfl, ⟨by simp, by omega, by simp [valB]⟩, fun h => ?_⟩, by omega, HB1.out⟩⟩
    exact absurd (HZ.out.2 h) hk0
  case round =>
    obtain ⟨k', c', m, rfl, hk', HJ⟩ := hrel
    obtain ⟨hkc, ⟨l', X', o, hN', hkl', hblk, hown, hm, hTx, hTe⟩, hm6, hB⟩ := HJ.out
    clear HJ
    by_cases hk0' : 0 < k'
    · have hR0 : gk ≠ 0 := fun h => by have := (hN'.zero_iff (by omega)).2 h; omega
      have HH := Lib.hid (And.intro hblk (And.intro hown (And.intro hm (And.intro hTx (And.intro hN' (And.intro hkl' hB))))))
      clear hblk hown hm hTx hTe hB hkl' hN'
      go_wp2_with fail
      refine (divDigit_any g0 l' X' k' c' 1000000000 wr HH.out.2.2.2.2.2.1 HH.out.1 (by omega) (by omega) HH.out.2.2.2.2.1.2.1 (by omega)).mono ?_
      rintro e w2 ⟨rfl, L, hL1, hL2, hL3, hL4, hL5⟩
      rw [HH.out.2.2.2.2.1.1] at hL3 ⊢
      have hown2 := own_grown_ne HH.out.2.1 HH.out.1 hL5 (by decide)
      have hB2 := HH.out.2.2.2.2.2.2.grown hL5 HH.out.2.2.2.2.2.2.size (fun q hq => by cases hq; exact hg0)
      have hE2 := Es.of_blkX hL4 (by rw [hL1, ← HH.out.2.2.2.2.2.1]; omega) hL2
      rw [hL1, ← HH.out.2.2.2.2.2.1] at hE2
      have H2 := Lib.hid (And.intro hL4 (And.intro hown2 (And.intro hB2 (And.intro hE2 (And.intro hL3 (hL1.trans HH.out.2.2.2.2.2.1.symm))))))
      clear hL1 hL2 hL3 hL4 hL5 hown2 hB2 hE2
      have hgl : gk % 1000000000 < 1000000000 := Nat.mod_lt _ (by omega)
      obtain ⟨gr, hgr⟩ : ∃ gr, gr = gk % 1000000000 := ⟨_, rfl⟩
      rw [← hgr] at hgl ⊢
      have HGR := Lib.hid hgr; clear hgr
      go_wp2_with fail
      refine (trim_any _ L k' c' hkc _ H2.out.2.2.2.1).mono ?_
      rintro e w3 ⟨k2, l2, rfl, hk2, hl2, hN2, rfl⟩
      rw [H2.out.2.2.2.2.1] at hN2
      have hinj := Es.inj hl2 H2.out.2.2.2.1 hk2
      have hTg := Tx_group HH.out.2.2.2.1 (d := 1000000000) (by omega)
      rw [← HGR.out] at hTg
      have hlt : gk / 1000000000 < gk := Nat.div_lt_self (by omega) (by omega)
      have hblk2 : Blk w2 g0 23 (urowX l2 (U32 (L.drop k2) ++ X')) := by
        have h1 := H2.out.1
        have e1 : urowX L X' = urowX l2 (U32 (L.drop k2) ++ X') := by
          simp only [urowX, hinj, ← List.append_assoc]
          congr 2
          simp only [U32, ← List.map_append, List.take_append_drop]
        rwa [e1] at h1
      have hk2l := hl2.len
      have HZ2 := Lib.hid (hN2.zero_iff (by omega))
      have H3 := Lib.hid (And.intro hblk2 (And.intro H2.out.2.1 (And.intro H2.out.2.2.1 (And.intro hN2 (And.intro hk2l (And.intro hTg (And.intro HH.out.2.2.1 hlt)))))))
      have hR0' : gk / 1000000000 = 0 → gr ≠ 0 := fun h1 h2 => hR0 (by have := HGR.out; omega)
      have HR0 := Lib.hid hR0'
      clear hblk2 hN2 hk2l hTg hinj hl2 HH H2 hlt hR0' hR0
      clear HGR
      generalize gk / 1000000000 = R2 at *
      obtain ⟨wo, rfl⟩ : ∃ wo : World, wo = w2 := ⟨_, rfl⟩
      go_wp2_with fail
      go_loopw [4, 5, 6, 19] (fun ov gv _ iv wr => ∃ (i g m : Nat), iv = .int .i64 i ∧ i ≤ 9 ∧ gv = .int .u32 g ∧ g < 1000000000 ∧ Hid (m ≤ 1000010 ∧ Blk wr g0 23 (urowX l2 (U32 (L.drop k2) ++ X')) ∧ Below w.heap.size w wr ∧ ∃ o, wr.ownsRow w.heap.size 5 1 ov m (U8 (o.map (· + 48))) ∧ m = o.length ∧ TxInv 10 N o g (10 ^ (9 - i)) R2 ∧ TxEnd o g i R2)) (fun _ _ _ iv _ => 9 - (intOf iv).toNat)
      case atStart =>
        refine ⟨0, gr, m, rfl, by omega, rfl, hgl, Lib.hid ⟨hm6, H3.out.1, H3.out.2.2.1, o, H3.out.2.1, H3.out.2.2.2.2.2.2.1, H3.out.2.2.2.2.2.1, fun h1 h2 => absurd h2 (HR0.out h1)⟩⟩
      case round =>
        obtain ⟨i, g, m', rfl, hi, rfl, hg9, HJ⟩ := hrel
        obtain ⟨hm6', hblk, hB, o', hown, hmo, hTx, hTe⟩ := HJ.out
        clear HJ
        by_cases hi9 : i < 9
        · by_cases hbrk : 0 < i ∧ g = 0 ∧ k2 = 0
          · obtain ⟨b1, b2, b3⟩ := hbrk
            have hz := hTx.2.2
            have HF := Lib.hid (And.intro hblk (And.intro hB (And.intro hown (And.intro hmo (And.intro hTx hTe))))); clear hblk hB hown hmo hTx hTe hz
            have t1 : decide ((0 : Int) < (i : Int)) = true := by simp; omega
            have t2 : ((g : Int) == 0) = true := by simp [b2]
            have t3 : ((k2 : Int) == 0) = true := by simp [b3]
            have HKZ := Lib.hid (show R2 = 0 from HZ2.out.1 (by rw [← H3.out.2.2.2.2.1, b3]))
            have HG0 := Lib.hid b2
            clear b2 b3
            go_wp2_with fail
            go_roundg R2
            case measure => exact H3.out.2.2.2.2.2.2.2
            case rel =>
              have hT := HF.out.2.2.2.2.1
              have hTe := HF.out.2.2.2.2.2
              refine ⟨k2, k2, m', rfl, by omega, Lib.hid ⟨Nat.le_refl _, ⟨l2, _, o', H3.out.2.2.2.1, H3.out.2.2.2.2.1, HF.out.1, HF.out.2.2.1, HF.out.2.2.2.1, ?_, fun h1 h2 => ⟨by omega, (hTe h1 HG0.out).2⟩⟩, hm6', HF.out.2.1⟩⟩
              rw [HG0.out, HKZ.out] at hT
              rw [HKZ.out]
              exact ⟨hT.1, by omega, by have := hT.2.2; simpa using this⟩
          · have hpos : R2 = 0 → g ≠ 0 := fun h1 h2 => by
              have h3 := hTe h1 h2
              exact hbrk ⟨h3.1, h2, by rw [H3.out.2.2.2.2.1]; exact HZ2.out.2 h1⟩
            have hlen : m' ≤ 1000000 := by
              rw [hmo]
              have h1 := Tx_len hTx HNlt.out (by
                rcases Nat.eq_zero_or_pos R2 with h | h
                · have := hpos h; omega
                · have h2 : 0 < 10 ^ (9 - i) * R2 := Nat.mul_pos (Nat.pow_pos (by omega)) h
                  omega)
              omega
            have hq : 10 ^ (9 - i) = 10 * 10 ^ (9 - (i + 1)) := by rw [show 9 - i = (9 - (i + 1)) + 1 by omega, Nat.pow_succ, Nat.mul_comm]
            rw [hq] at hTx
            have hst := hTx.step (by omega)
            have hse := TxEnd.step (o := o') (i := i) hpos
            have HF := Lib.hid (And.intro hblk (And.intro hB (And.intro hown (And.intro hmo (And.intro hst hse))))); clear hblk hB hown hmo hTx hTe hst hse hq hpos
            have h10 : g % 10 < 10 := Nat.mod_lt _ (by omega)
            have hcases : (¬ 0 < i) ∨ (0 < i ∧ ((g : Int) == 0) = false) ∨ (0 < i ∧ ((g : Int) == 0) = true ∧ ((k2 : Int) == 0) = false) := by
              by_cases c1 : 0 < i
              · by_cases c2 : g = 0
                · right; right; refine ⟨c1, by simp [c2], ?_⟩
                  have c3 : k2 ≠ 0 := fun h => hbrk ⟨c1, c2, h⟩
                  simp; omega
                · right; left; exact ⟨c1, by simp; omega⟩
              · left; exact c1
            clear hbrk
            have hmk8 : ((48 : Int) + (g : Int) % 10) = ((48 + g % 10 : Nat) : Int) := by omega
            have HK8 := Lib.hid hmk8; clear hmk8
            obtain ⟨Ao, co, rfl⟩ := own_form HF.out.2.2.1
            rcases hcases with t1 | ⟨t1, t2⟩ | ⟨t1, t2, t3⟩
            all_goals
              go_wp2_with (at_builtin; refine app_u8 rfl (.tmp 33) (.tmp 38) rfl w.heap.size _ m' (o'.map (· + 48)) rfl (HF.out.2.2.1.alloc _) wr.heap.size (48 + g % 10) rfl (by rw [← HK8.out]; exact Blk.new wr 5 _) (by omega) (by have := HF.out.2.1.size; simp; omega) ?_; intro v' w4 hown4 hg4 hat4; have H4 := Lib.hid (And.intro hown4 hg4); clear hown4 hg4 hat4)
              have hB4 := Below.appended (HF.out.2.1.alloc HF.out.2.1.size (.cells #[.int .u8 (48 + (g : Int) % 10)] 5)) (HF.out.2.2.1.alloc _) H4.out.2 (by have := HF.out.2.1.size; simp; omega) (Nat.le_refl _)
              have hb4 := (HF.out.1.alloc (.cells #[.int .u8 (48 + (g : Int) % 10)] 5)).appended (HF.out.2.2.1.alloc _) H4.out.2 (by decide)
              refine ⟨⟨i + 1, g / 10, m' + 1, by simp, by omega, by simp, by omega, Lib.hid ⟨by omega, hb4, hB4, o' ++ [g % 10], ?_, by rw [List.length_append, List.length_singleton, HF.out.2.2.2.1], HF.out.2.2.2.2.1, HF.out.2.2.2.2.2⟩⟩, by simp [intOf]; omega⟩
              have e := H4.out.1
              rw [List.map_append, List.map_cons, List.map_nil, Nat.add_comm (g % 10) 48]
              exact e
        · have hi9' : i = 9 := by omega
          subst hi9'
          have hg0' : g = 0 := by have := hTx.2.1; simp at this; exact this
          have HF := Lib.hid (And.intro hblk (And.intro hB (And.intro hown (And.intro hmo (And.intro hTx hTe))))); clear hblk hB hown hmo hTx hTe
          have HG0 := Lib.hid hg0'; clear hg0'
          go_wp2_with fail
          go_roundg R2
          case measure => exact H3.out.2.2.2.2.2.2.2
          case rel =>
            have hT := HF.out.2.2.2.2.1
            have hTe := HF.out.2.2.2.2.2
            refine ⟨k2, k2, m', rfl, by omega, Lib.hid ⟨Nat.le_refl _, ⟨l2, _, o', H3.out.2.2.2.1, H3.out.2.2.2.2.1, HF.out.1, HF.out.2.2.1, HF.out.2.2.2.1, ?_, fun h1 h2 => ⟨by omega, (hTe h1 HG0.out).2⟩⟩, hm6', HF.out.2.1⟩⟩
            rw [HG0.out] at hT
            exact hT
    · have hk00 : k' = 0 := by omega
      subst hk00
      have hR : gk = 0 := (hN'.zero_iff (by omega)).1 hkl'.symm
      have hend := (hTe hR rfl).2
      have hD : Nrm 10 o N := ⟨by have := hTx.2.2; rw [hR] at this; simpa using this, hTx.1, .inr hend.2⟩
      have hm0 : 0 < m := by rw [hm]; exact List.length_pos_iff.2 hend.1
      obtain ⟨g1, c1, X1, rfl, hg1, hc1, hblk1, hlm⟩ := own_browX hown hm0
      have HF := Lib.hid (And.intro hD (And.intro hblk1 (And.intro hlm (And.intro hB hend.1)))); clear hD hblk1 hlm hB hend hTx hTe hkl' hN' hown hblk hm
      clear hR
      go_wp2_with fail
      refine (reverse_any g1 (o.map (· + 48)) X1 m c1 wr HF.out.2.2.1.symm HF.out.2.1 (by omega) hm0).mono ?_
      rintro e w3 ⟨rfl, hblk3, hgr⟩
      have hxs : ((o.map (· + 48)).reverse.map (fun x : Nat => (x : Int))).length = m := by simpa using HF.out.2.2.1
      have hcv := run_convert_bytes_arg (P := Try.prog) w3 99 5 Try.underlying99 Try.underlying5 g1 0 m c1 ((o.map (· + 48)).reverse.map (fun x : Nat => (x : Int))) hxs (fun i hi => by
        rw [Nat.zero_add, hblk3.cell, browX_get (by simp at hxs ⊢; omega)]
        rw [casts_getD _ (by simp at hxs ⊢; omega)]) 9 Try.underlying9
      have hstr : strOfNums ((o.map (· + 48)).reverse.map (fun x : Nat => (x : Int))) = textOf o := by
        simp only [strOfNums, textOf, if_neg HF.out.2.2.2.2, List.map_reverse, List.map_map]
        rfl
      rw [hstr] at hcv
      have hB3 := HF.out.2.2.2.1.grown hgr HF.out.2.2.2.1.size (fun q hq => by cases hq; exact hg1)
      have H3 := Lib.hid (And.intro hB3 HF.out.1); clear hB3 hgr hblk3 hxs hstr
      clear HF
      go_wp2_with fail
      go_ret
      exact ⟨o, H3.out.2, rfl, H3.out.1⟩

end Go.Proofs.Ytifnbpkcnkfanaa
