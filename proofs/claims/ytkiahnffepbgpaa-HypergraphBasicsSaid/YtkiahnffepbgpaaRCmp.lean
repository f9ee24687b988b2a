/-
  Contract of the reference's Components.
-/
import Derived.Test.YtkiahnffepbgpaaObsP
import Derived.Test.YtkiahnffepbgpaaRNbE
import Derived.Test.YtkiahnffepbgpaaMk
import Derived.Test.YtkiahnffepbgpaaHyp
import Derived.Test.YtkiahnffepbgpaaFew
namespace Go.Proofs.Ytkiahnffepbgpaa

/-- One round: the neighbours of the members so far, below k. -/
def rndTo (es : List Nat) (c : Nat) : Nat → Nat
  | 0 => c
  | k + 1 => if (rndTo es c k).testBit k then rndTo es c k ||| adj es k else rndTo es c k
def itr (es : List Nat) (n c : Nat) : Nat → Nat
  | 0 => c
  | k + 1 => rndTo es (itr es n c k) n
/-- The class of v, after n rounds. -/
def clsOf (es : List Nat) (n v : Nat) : Nat := itr es n (2 ^ v) n
section
variable {n : Nat} {es : List Nat}
theorem adj_lt2 (hb : ∀ e ∈ es, e < 2 ^ n) (v : Nat) : adj es v < 2 ^ n := by
  have : ∀ (l : List Nat) (a : Nat), (∀ e ∈ l, e < 2 ^ n) → a < 2 ^ n → l.foldl (fun a e => if e.testBit v then a ||| andn e (2 ^ v) else a) a < 2 ^ n := by
    intro l
    induction l with
    | nil => intro a _ h; exact h
    | cons e l ih =>
      intro a hl ha
      rw [List.foldl_cons]
      refine ih _ (fun x hx => hl x (by simp [hx])) ?_
      split
      · exact Nat.or_lt_two_pow ha (Nat.lt_of_le_of_lt Nat.and_le_left (hl e (by simp)))
      · exact ha
  exact this es 0 hb (pow2_pos n)
theorem rndTo_lt (hb : ∀ e ∈ es, e < 2 ^ n) {c : Nat} (hc : c < 2 ^ n) : ∀ k, rndTo es c k < 2 ^ n
  | 0 => hc
  | k + 1 => by
    rw [rndTo]
    split
    · exact Nat.or_lt_two_pow (rndTo_lt hb hc k) (adj_lt2 hb k)
    · exact rndTo_lt hb hc k
theorem rndTo_step (es : List Nat) (c : Nat) (k : Nat) : sub (rndTo es c k) (rndTo es c (k + 1)) := by
  intro u hu
  rw [rndTo]
  split
  · rw [Nat.testBit_or, hu, Bool.true_or]
  · exact hu
theorem rndTo_up (es : List Nat) (c : Nat) {k : Nat} : ∀ {m : Nat}, k ≤ m → sub (rndTo es c k) (rndTo es c m)
  | 0, h => by obtain rfl : k = 0 := by omega
               exact fun u hu => hu
  | m + 1, h => by
    rcases Nat.lt_or_ge k (m + 1) with h1 | h1
    · exact fun u hu => rndTo_step es c m u (rndTo_up es c (m := m) (by omega) u hu)
    · obtain rfl : k = m + 1 := by omega
      exact fun u hu => hu
theorem rndTo_conn (hn : n ≤ 32) (hb : ∀ e ∈ es, e < 2 ^ n) {c v : Nat} (hc : ∀ u, c.testBit u = true → u < n ∧ Conn es v u) : ∀ k, k ≤ n → ∀ u, (rndTo es c k).testBit u = true → u < n ∧ Conn es v u
  | 0, _ => hc
  | k + 1, hk => by
    intro u hu
    rw [rndTo] at hu
    split at hu
    · rename_i hbk
      rw [Nat.testBit_or, Bool.or_eq_true] at hu
      rcases hu with h | h
      · exact rndTo_conn hn hb hc k (by omega) u h
      · have h1 := rndTo_conn hn hb hc k (by omega) k hbk
        exact ⟨adj_lt_n hn hb (by omega) h, .step h1.2 h⟩
    · exact rndTo_conn hn hb hc k (by omega) u hu
theorem rnd_closed {c : Nat} (h : rndTo es c n = c) {w u : Nat} (hw : w < n) (hc : c.testBit w = true) (ha : (adj es w).testBit u = true) : c.testBit u = true := by
  have h1 := rndTo_up es c (Nat.zero_le w) w hc
  have h2 : (rndTo es c (w + 1)).testBit u = true := by
    rw [rndTo, if_pos h1, Nat.testBit_or, ha, Bool.or_true]
  have := rndTo_up es c (show w + 1 ≤ n by omega) u h2
  rwa [h] at this
theorem itr_lt (hb : ∀ e ∈ es, e < 2 ^ n) {c : Nat} (hc : c < 2 ^ n) : ∀ k, itr es n c k < 2 ^ n
  | 0 => hc
  | k + 1 => rndTo_lt hb (itr_lt hb hc k) n
theorem itr_up (es : List Nat) (n c : Nat) : ∀ k, sub c (itr es n c k)
  | 0 => fun u hu => hu
  | k + 1 => fun u hu => rndTo_up es _ (Nat.zero_le n) u (itr_up es n c k u hu)
theorem itr_stable (hb : ∀ e ∈ es, e < 2 ^ n) {v : Nat} (hv : v < n) : ∀ k, rndTo es (itr es n (2 ^ v) k) n = itr es n (2 ^ v) k ∨ k + 1 ≤ bitsOf n (itr es n (2 ^ v) k)
  | 0 => by
    right
    unfold bitsOf
    exact List.countP_pos_iff.2 ⟨v, by simpa using hv, Nat.testBit_two_pow_self⟩
  | k + 1 => by
    rcases itr_stable hb hv k with h | h
    · left
      show rndTo es (rndTo es (itr es n (2 ^ v) k) n) n = rndTo es (itr es n (2 ^ v) k) n
      rw [h, h]
    · by_cases hs : rndTo es (itr es n (2 ^ v) k) n = itr es n (2 ^ v) k
      · left
        show rndTo es (rndTo es (itr es n (2 ^ v) k) n) n = rndTo es (itr es n (2 ^ v) k) n
        rw [hs, hs]
      · right
        have hlt := itr_lt hb (show 2 ^ v < 2 ^ n from Nat.pow_lt_pow_right (by omega) hv) k
        have hsub := rndTo_up es (itr es n (2 ^ v) k) (Nat.zero_le n)
        have : ∃ u, (rndTo es (itr es n (2 ^ v) k) n).testBit u = true ∧ (itr es n (2 ^ v) k).testBit u = false := by
          refine Classical.byContradiction fun hno => hs (Nat.eq_of_testBit_eq fun u => ?_)
          cases h1 : (itr es n (2 ^ v) k).testBit u with
          | true => exact hsub u h1
          | false =>
            cases h2 : (rndTo es (itr es n (2 ^ v) k) n).testBit u with
            | false => rfl
            | true => exact absurd ⟨u, h2, h1⟩ hno
        obtain ⟨u, h1, h2⟩ := this
        have h3 : bitsOf n (itr es n (2 ^ v) k) < bitsOf n (itr es n (2 ^ v) (k + 1)) :=
          countP_lt_of _ _ _ (fun x _ hx => hsub x hx) ⟨u, by simpa using testBit_lt (rndTo_lt hb hlt n) h1, h2, h1⟩
        omega
theorem itr_conn (hn : n ≤ 32) (hb : ∀ e ∈ es, e < 2 ^ n) {v : Nat} (hv : v < n) : ∀ k, ∀ u, (itr es n (2 ^ v) k).testBit u = true → u < n ∧ Conn es v u
  | 0 => fun u hu => by
    have : u = v := by
      have h : (2 ^ v).testBit u = true := hu
      rw [Nat.testBit_two_pow, decide_eq_true_eq] at h; exact h.symm
    rw [this]; exact ⟨hv, .refl _⟩
  | k + 1 => rndTo_conn hn hb (itr_conn hn hb hv k) n (Nat.le_refl _)
theorem clsOf_is (hn : n ≤ 32) (hb : ∀ e ∈ es, e < 2 ^ n) {v : Nat} (hv : v < n) : IsCls n es v (clsOf es n v) := by
  have hst : rndTo es (clsOf es n v) n = clsOf es n v := by
    rcases itr_stable hb hv n with h | h
    · exact h
    · have := bitsOf_le n (itr es n (2 ^ v) n); omega
  intro u
  constructor
  · exact itr_conn hn hb hv n u
  · rintro ⟨_, hc⟩
    induction hc with
    | refl => exact itr_up es n (2 ^ v) n v Nat.testBit_two_pow_self
    | step h1 h2 ih =>
      have hb1 := h1.lt hn hb hv
      exact rnd_closed hst hb1 (ih hb1) h2
/-- The list so far, and the vertices met. -/
def rcm (es : List Nat) (n : Nat) : Nat → List Nat × Nat
  | 0 => ([], 0)
  | k + 1 => if (rcm es n k).2.testBit k then rcm es n k else ((rcm es n k).1 ++ [clsOf es n k], (rcm es n k).2 ||| clsOf es n k)
theorem rcm_spec (hn : n ≤ 32) (hb : ∀ e ∈ es, e < 2 ^ n) : ∀ k, k ≤ n → (∃ vs : List Nat, vs.Pairwise (· < ·) ∧ (∀ v, v ∈ vs ↔ v < k ∧ Least n es v) ∧ (rcm es n k).1.length = vs.length ∧ ∀ i, i < vs.length → IsCls n es (nth vs i) (nth (rcm es n k).1 i)) ∧ ∀ u, (rcm es n k).2.testBit u = true ↔ u < n ∧ ∃ t, t < k ∧ Conn es t u
  | 0, _ => ⟨⟨[], .nil, by simp, rfl, by simp⟩, fun u => by simp [rcm]⟩
  | k + 1, hk => by
    obtain ⟨⟨vs, h1, h2, h3, h4⟩, h5⟩ := rcm_spec hn hb k (by omega)
    have hkn : k < n := by omega
    rw [rcm]
    by_cases hm : (rcm es n k).2.testBit k = true
    · rw [if_pos hm]
      obtain ⟨_, t, ht, hc⟩ := (h5 k).1 hm
      refine ⟨⟨vs, h1, fun v => ?_, h3, h4⟩, fun u => ?_⟩
      · rw [h2]
        constructor
        · rintro ⟨a, b⟩; exact ⟨by omega, b⟩
        · rintro ⟨a, b⟩
          have : v ≠ k := fun e => by
            subst e
            have := b.2 t (by omega) (hc.symm hn hb (by omega))
            omega
          exact ⟨by omega, b⟩
      · rw [h5]
        constructor
        · rintro ⟨a, s, hs, hcs⟩; exact ⟨a, s, by omega, hcs⟩
        · rintro ⟨a, s, hs, hcs⟩
          by_cases hsk : s = k
          · subst hsk; exact ⟨a, t, ht, hc.trans hcs⟩
          · exact ⟨a, s, by omega, hcs⟩
    · rw [if_neg hm]
      have hleast : Least n es k := ⟨hkn, fun u hu hc => by
        rcases Nat.lt_or_ge u k with h6 | h6
        · exact absurd ((h5 k).2 ⟨hkn, u, h6, hc.symm hn hb hkn⟩) hm
        · exact h6⟩
      have hcls := clsOf_is hn hb hkn
      refine ⟨⟨vs ++ [k], ?_, fun v => ?_, by simp [h3], fun i hi => ?_⟩, fun u => ?_⟩
      · rw [List.pairwise_append]
        exact ⟨h1, List.pairwise_singleton _ _, fun a ha b hb2 => by
          rw [List.mem_singleton] at hb2; subst hb2
          exact ((h2 a).1 ha).1⟩
      · rw [List.mem_append, List.mem_singleton, h2]
        constructor
        · rintro (⟨a, b⟩ | rfl)
          · exact ⟨by omega, b⟩
          · exact ⟨by omega, hleast⟩
        · rintro ⟨a, b⟩
          by_cases hvk : v = k
          · exact .inr hvk
          · exact .inl ⟨by omega, b⟩
      · rw [List.length_append, List.length_singleton] at hi
        simp only [nth, List.getD]
        by_cases h6 : i < vs.length
        · rw [List.getElem?_append_left h6, List.getElem?_append_left (by omega)]; exact h4 i h6
        · obtain rfl : i = vs.length := by omega
          rw [List.getElem?_append_right (Nat.le_refl _), List.getElem?_append_right (by omega), h3]
          simpa using hcls
      · rw [Nat.testBit_or, Bool.or_eq_true, h5, hcls u]
        constructor
        · rintro (⟨a, s, hs, hcs⟩ | ⟨a, b⟩)
          · exact ⟨a, s, by omega, hcs⟩
          · exact ⟨a, k, by omega, b⟩
        · rintro ⟨a, s, hs, hcs⟩
          by_cases hsk : s = k
          · subst hsk; exact .inr ⟨a, hcs⟩
          · exact .inl ⟨a, s, by omega, hcs⟩
theorem rcm_comps (hn : n ≤ 32) (hb : ∀ e ∈ es, e < 2 ^ n) : IsComps n es (rcm es n n).1 := by
  obtain ⟨⟨vs, h1, h2, h3, h4⟩, _⟩ := rcm_spec hn hb n (Nat.le_refl _)
  exact ⟨vs, h1, fun v => (h2 v).trans ⟨fun h => h.2, fun h => ⟨h.1, h⟩⟩, h3, h4⟩
end
end Go.Proofs.Ytkiahnffepbgpaa
namespace Go.Proofs.Ytkiahnffepbgpaa
open Go.RowKit
set_option linter.unusedSimpArgs false
set_option linter.unusedVariables false

/-- What the reference's Components answers. -/
def RCmpRet (l : List Nat) (w : World) (e : Ending) (w' : World) : Prop := ∃ v, e = .returned v ∧ w'.ownsRow w.heap.size 36 1 v l.length (U32 l) ∧ Below w.heap.size w w'
set_option maxRecDepth 100000 in
set_option maxHeartbeats 4000000 in
theorem rcomps_any (n : Nat) (A : Option Addr) (es : List Nat) (len c : Nat) (w : World) (hr : Es w w.heap.size A len es) (hn : n ≤ 32) (hl : len ≤ 70) (hb : ∀ e ∈ es, e < 2 ^ n) :
    Calls Try.prog 32 #[.agg #[.int .i64 n, .slice A len c]] w (RCmpRet (rcm es n n).1 w) := by
  have HES := Lib.hid hb; clear hb
  have HR := Lib.hid hr; clear hr
  have HG := Lib.hid (GB.made w 26 (.int .i64 n) (.slice A len c))
  have HW := Lib.hid (al w (.cells #[.int .i64 n, .slice A len c] 26))
  have hlt : ∀ v k, v < n → itr es n (2 ^ v) k < 4294967296 := fun v k hv => Nat.lt_of_lt_of_le (itr_lt HES.out (Nat.pow_lt_pow_right (by omega) hv) k) (Nat.le_trans (two_pow_le (show n ≤ 32 by omega)) (by decide))
  have HLT := Lib.hid hlt; clear hlt
  go_enter Try.func32, Try.ntmps32
  go_upto_region 4 with (fail)
  have hz : w.heap.size + 1 ≤ (w.alloc (.cells #[.int .i64 n, .slice A len c] 26)).heap.size := by simp
  generalize w.alloc (.cells #[.int .i64 n, .slice A len c] 26) = W0 at *
  go_loopw [3, 4, 5] (fun ov mv iv wr => ∃ (k : Nat) (l : List Nat) (m : Nat), iv = .int .i64 k ∧ k ≤ n ∧ mv = .int .u32 m ∧ m < 4294967296 ∧ Hid ((rcm es n k = (l, m) ∧ l.length ≤ k) ∧ GB wr w.heap.size 26 (.int .i64 n) (.slice A len c) ∧ wr.ownsRow (w.heap.size + 1) 36 1 ov l.length (U32 l) ∧ Below w.heap.size w wr ∧ w.heap.size + 1 ≤ wr.heap.size)) (fun _ _ iv _ => n - (intOf iv).toNat)
  case atStart => exact ⟨0, [], 0, rfl, Nat.zero_le _, rfl, by omega, Lib.hid ⟨⟨rfl, Nat.le_refl _⟩, HG.out, own_nil _ _ _, HW.out, hz⟩⟩
  case round =>
    obtain ⟨k, l, m, rfl, hk, rfl, hm, HI⟩ := hrel
    obtain ⟨A3, c3, hv⟩ := own_form HI.out.2.2.1
    subst hv
    have g0 := HI.out.2.1.c0
    by_cases hkn : k < n
    · go_wp2_with fail
      refine (has_any m k hm _).mono ?_
      rintro e w1 ⟨rfl, rfl⟩
      cases hmk : m.testBit k with
      | true =>
        have HST := Lib.hid (show rcm es n (k + 1) = (l, m) by rw [rcm, HI.out.1.1, if_pos hmk])
        clear hmk
        go_wp2_with fail
        exact ⟨⟨k + 1, l, m, by go_num, by omega, rfl, hm, Lib.hid ⟨⟨HST.out, by have := HI.out.1.2; omega⟩, HI.out.2⟩⟩, by simp [intOf]; omega⟩
      | false =>
        have HST := Lib.hid (show rcm es n (k + 1) = (l ++ [clsOf es n k], m ||| clsOf es n k) by rw [rcm, HI.out.1.1, if_neg (by rw [hmk]; simp)])
        clear hmk
        have HLL := Lib.hid HI.out.1.2
        have HO := Lib.hid HI.out.2.2.1
        have HGB := Lib.hid HI.out.2.1
        have HBL := Lib.hid HI.out.2.2.2.1
        have hws := HI.out.2.2.2.2
        have i1 : (0 : Int) ≤ (k : Int) := by omega
        have i2 : (k : Int) < 32 := by omega
        have HSH := Lib.hid (shl_mod k (show k < 32 by omega))
        clear HI
        go_wp2_with fail
        clear g0
        obtain ⟨wo, rfl⟩ : ∃ wo : World, wo = wr := ⟨_, rfl⟩
        go_loopw [6, 7] (fun cv iv wr => ∃ (t : Nat), iv = .int .i64 t ∧ t ≤ n ∧ cv = .int .u32 (itr es n (2 ^ k) t : Nat) ∧ Hid (Below wo.heap.size wo wr)) (fun _ iv _ => n - (intOf iv).toNat)
        case atStart => exact ⟨0, rfl, Nat.zero_le _, by rw [HSH.out]; rfl, Lib.hid (Below.refl _ _)⟩
        case round =>
          obtain ⟨t, rfl, ht, rfl, HT⟩ := hrel
          have g0 := (HGB.out.new HT.out).c0
          by_cases htn : t < n
          · go_wp2_with fail
            clear g0
            obtain ⟨wo2, rfl⟩ : ∃ wo2 : World, wo2 = wr := ⟨_, rfl⟩
            go_loopw [6, 8] (fun cv iv wr => ∃ (u : Nat), iv = .int .i64 u ∧ u ≤ n ∧ cv = .int .u32 (rndTo es (itr es n (2 ^ k) t) u : Nat) ∧ Hid (Below wo.heap.size wo wr)) (fun _ iv _ => n - (intOf iv).toNat)
            case atStart => exact ⟨0, rfl, Nat.zero_le _, rfl, HT⟩
            case round =>
              obtain ⟨u, rfl, hu, rfl, HU⟩ := hrel
              have g0 := (HGB.out.new HU.out).c0
              have g1 := (HGB.out.new HU.out).c1
              have g2 := (HGB.out.new HU.out).lt
              have hc32 : rndTo es (itr es n (2 ^ k) t) u < 4294967296 := Nat.lt_of_lt_of_le (rndTo_lt HES.out (itr_lt HES.out (Nat.pow_lt_pow_right (by omega) hkn) t) u) (Nat.le_trans (two_pow_le (show n ≤ 32 by omega)) (by decide))
              by_cases hun : u < n
              · have HRS := Lib.hid (show rndTo es (itr es n (2 ^ k) t) (u + 1) = if (rndTo es (itr es n (2 ^ k) t) u).testBit u then rndTo es (itr es n (2 ^ k) t) u ||| adj es u else rndTo es (itr es n (2 ^ k) t) u from rfl)
                generalize rndTo es (itr es n (2 ^ k) t) u = x at *
                go_wp2_with fail
                refine (has_any x u hc32 _).mono ?_
                rintro e w2 ⟨rfl, rfl⟩
                cases hxu : x.testBit u with
                | false =>
                  have hrs := HRS.out
                  rw [hxu, if_neg (by simp)] at hrs
                  have HRS2 := Lib.hid hrs; clear hrs hxu
                  go_wp2_with fail
                  exact ⟨⟨u + 1, by go_num, by omega, by rw [HRS2.out], HU⟩, by simp [intOf]; omega⟩
                | true =>
                  have hrs := HRS.out
                  rw [hxu, if_pos rfl] at hrs
                  have HRS2 := Lib.hid hrs; clear hrs hxu
                  have hadj : adj es u < 4294967296 := Nat.lt_of_lt_of_le (adj_lt2 HES.out u) (Nat.le_trans (two_pow_le (show n ≤ 32 by omega)) (by decide))
                  have eor := bits_or x (adj es u) hc32 hadj
                  go_wp2_with fail
                  refine (rneighbors_any n u hn A es len c _ (HR.out.new (bthen HBL.out HU.out HBL.out.size))).mono ?_
                  rintro e w3 ⟨rfl, hb⟩
                  rw [rnb_adj hn HES.out hun]
                  have HU3 := Lib.hid (bthen HU.out hb HU.out.size); clear hb g0 g1 g2
                  go_wp2_with fail
                  exact ⟨⟨u + 1, by go_num, by omega, by rw [HRS2.out], HU3⟩, by simp [intOf]; omega⟩
              · obtain rfl : n = u := by omega
                have HRS := Lib.hid (show itr es n (2 ^ k) (t + 1) = rndTo es (itr es n (2 ^ k) t) n from rfl)
                generalize rndTo es (itr es n (2 ^ k) t) n = x at *
                go_wp2_with fail
                exact ⟨⟨t + 1, by go_num, by omega, by rw [HRS.out], HU⟩, by simp [intOf]; omega⟩
          · obtain rfl : n = t := by omega
            have HCL := Lib.hid (show itr es n (2 ^ k) n = clsOf es n k from rfl)
            have hcl32 := HLT.out k n hkn
            have eor := bits_or m (itr es n (2 ^ k) n) hm hcl32
            have HO2 := Lib.hid (own_below HO.out HT.out)
            have HGB2 := Lib.hid (HGB.out.new HT.out)
            have HBL2 := Lib.hid (bthen HBL.out HT.out HBL.out.size)
            have hws2 : w.heap.size + 1 ≤ wr.heap.size := by have := HT.out.size; omega
            have hll : l.length ≤ 32 := by have := HLL.out; omega
            have hmo : m ||| itr es n (2 ^ k) n < 4294967296 := Nat.or_lt_two_pow (n := 32) hm hcl32
            rw [← HCL.out] at HST
            generalize itr es n (2 ^ k) n = x at *
            go_wp2_with (at_builtin; refine app_u32 rfl _ _ rfl (w.heap.size + 1) (.slice A3 l.length c3) l.length l rfl (World.ownsRow.alloc HO2.out _) wr.heap.size x rfl (Blk.new _ _ _) (by omega) (by simp; try omega) ?_; intro v' w7 hown' hgr hor; obtain ⟨A7, c7, rfl⟩ := own_form hown'; have HO7 := Lib.hid hown'; have HG7 := Lib.hid (GB.appended (HGB2.out.alloc _) (World.ownsRow.alloc HO2.out _) hgr (by decide)); have HB7 := Lib.hid (Below.appended (HBL2.out.alloc (by omega) _) (World.ownsRow.alloc HO2.out _) hgr (by simp; try omega) (by omega)); have hs7 : w.heap.size + 1 ≤ w7.heap.size := Nat.le_trans (by simp; try omega) hgr.size; clear hown' hgr hor)
            exact ⟨⟨k + 1, l ++ [x], m ||| x, by go_num, by omega, rfl, hmo, Lib.hid ⟨⟨HST.out, by simp; have := HLL.out; omega⟩, HG7.out, by rw [show (l ++ [x]).length = l.length + 1 by simp]; exact HO7.out, HB7.out, hs7⟩⟩, by simp [intOf]; omega⟩
    · obtain rfl : n = k := by omega
      have HL := Lib.hid (show (rcm es n n).1 = l by rw [HI.out.1.1])
      go_wp2_with fail
      go_ret
      exact ⟨_, rfl, by rw [HL.out]; exact own_lower HI.out.2.2.1 (by omega), HI.out.2.2.2.1⟩
end Go.Proofs.Ytkiahnffepbgpaa
