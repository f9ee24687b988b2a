/-
  Contract of connex.Path.
-/
import Derived.Test.YtjofdlafblpclaaDoorCxW
namespace Go.Proofs.YtjofdlafblpclaaDoor
set_option linter.unusedVariables false

def Symm (R : List Nat) : Prop := ∀ u v, u < 32 → v < 32 → (nth R u).testBit v = true → (nth R v).testBit u = true
section
variable {R : List Nat} {inn f a : Nat}
theorem bit_lt32 {x v : Nat} (hx : x < 4294967296) (h : x.testBit v = true) : v < 32 := by
  rcases Nat.lt_or_ge v 32 with h1 | h1
  · exact h1
  · rw [Nat.testBit_lt_two_pow (Nat.lt_of_lt_of_le (show x < 2 ^ 32 by omega) (Nat.pow_le_pow_right (by decide) h1))] at h; cases h
theorem stg_succ {last k : Nat} : stg R inn last (k + 1) = orTo R (stg R inn last k) 32 &&& inn := rfl
theorem wkC_succ {S : Nat → Nat} {len k : Nat} : wkC S R len f (k + 1) = lowb (S (len - 1 - k) &&& nth R (wkC S R len f k)) := rfl
theorem and_ne {x y v : Nat} (h1 : x.testBit v = true) (h2 : y.testBit v = true) : x &&& y ≠ 0 := by
  intro h
  have := congrArg (fun z => z.testBit v) h
  simp [Nat.testBit_and, h1, h2] at this
theorem bord_inn (hb : ∀ x ∈ R, x < 4294967296) {k v : Nat} (h : (bord R inn a k).2.testBit v = true) : inn.testBit v = true := by
  cases k with
  | zero =>
    have h' : (nth R a &&& inn).testBit v = true := h
    rw [Nat.testBit_and, Bool.and_eq_true] at h'
    exact h'.2
  | succ k =>
    obtain ⟨l1, l2⟩ := bord_lt (inn := inn) (a := a) hb k
    have h' : (andn (orTo R (bord R inn a k).2 32 &&& inn) ((bord R inn a k).1 ||| (bord R inn a k).2)).testBit v = true := h
    rw [testBit_andn (Nat.or_lt_two_pow (n := 32) l1 l2) (Nat.lt_of_le_of_lt Nat.and_le_left (orTo_lt9 hb _ 32))] at h'
    simp only [Nat.testBit_and, Bool.and_eq_true] at h'
    exact h'.1.2
theorem bord_back (hb : ∀ x ∈ R, x < 4294967296) {k v : Nat} (h : (bord R inn a (k + 1)).2.testBit v = true) : (orTo R (bord R inn a k).2 32).testBit v = true := by
  obtain ⟨l1, l2⟩ := bord_lt (inn := inn) (a := a) hb k
  have h' : (andn (orTo R (bord R inn a k).2 32 &&& inn) ((bord R inn a k).1 ||| (bord R inn a k).2)).testBit v = true := h
  rw [testBit_andn (Nat.or_lt_two_pow (n := 32) l1 l2) (Nat.lt_of_le_of_lt Nat.and_le_left (orTo_lt9 hb _ 32))] at h'
  simp only [Nat.testBit_and, Bool.and_eq_true] at h'
  exact h'.1.1
/-- One step back. -/
theorem stg_next (hb : ∀ x ∈ R, x < 4294967296) (hs : Symm R) {last j B u : Nat} (hl : last < 4294967296) (hB : B < 4294967296) (hBi : ∀ v, B.testBit v = true → inn.testBit v = true) (h1 : (stg R inn last j).testBit u = true) (h2 : (orTo R B 32).testBit u = true) :
    ∃ x, (stg R inn last (j + 1)).testBit x = true ∧ B.testBit x = true := by
  obtain ⟨x, hx, hxB, hg⟩ := orTo_bit.1 h2
  have hu := bit_lt32 (stg_lt hb hl j) h1
  refine ⟨x, ?_, hxB⟩
  show (orTo R (stg R inn last j) 32 &&& inn).testBit x = true
  rw [Nat.testBit_and, hBi x hxB, Bool.and_true]
  exact orTo_bit.2 ⟨u, hu, h1, hs x u hx hu hg⟩
theorem stg_meets (hb : ∀ x ∈ R, x < 4294967296) (hs : Symm R) (hf : f ≤ 32) {k : Nat} (hk : lastF R inn f a k ≠ 0) : ∀ j, j ≤ k → ∃ x, (stg R inn (lastF R inn f a k) (j + 1)).testBit x = true ∧ (bord R inn a (k - j)).2.testBit x = true
  | 0, _ => by
    obtain ⟨u, hu⟩ := nz_bit9 hk
    have hl : lastF R inn f a k < 4294967296 := Nat.lt_of_le_of_lt Nat.and_le_left (orTo_lt9 hb _ 32)
    refine stg_next hb hs (j := 0) (u := u) hl (bord_lt hb k).2 (fun v => bord_inn hb) hu ?_
    have h' : (orTo R (bord R inn a k).2 32 &&& farF R f a).testBit u = true := hu
    rw [Nat.testBit_and, Bool.and_eq_true] at h'
    exact h'.1
  | j + 1, h => by
    obtain ⟨x, h1, h2⟩ := stg_meets hb hs hf hk j (by omega)
    have hl : lastF R inn f a k < 4294967296 := Nat.lt_of_le_of_lt Nat.and_le_left (orTo_lt9 hb _ 32)
    rw [show k - j = (k - (j + 1)) + 1 by omega] at h2
    exact stg_next hb hs hl (bord_lt hb _).2 (fun v => bord_inn hb) h1 (bord_back hb h2)
theorem walk_ok (hb : ∀ x ∈ R, x < 4294967296) (hs : Symm R) (hf : f ≤ 32) {k : Nat} (hk : lastF R inn f a k ≠ 0) : ∀ j, j < k + 2 →
    stg R inn (lastF R inn f a k) (k + 2 - 1 - j) &&& nth R (wkC (stg R inn (lastF R inn f a k)) R (k + 2) a j) ≠ 0 := by
  have hl : lastF R inn f a k < 4294967296 := Nat.lt_of_le_of_lt Nat.and_le_left (orTo_lt9 hb _ 32)
  intro j
  induction j with
  | zero =>
    intro _
    obtain ⟨x, h1, h2⟩ := stg_meets hb hs hf hk k (Nat.le_refl k)
    rw [Nat.sub_self] at h2
    have h' : (nth R a &&& inn).testBit x = true := h2
    rw [Nat.testBit_and, Bool.and_eq_true] at h'
    exact and_ne h1 h'.1
  | succ j ih =>
    intro hj
    have h0 := ih (by omega)
    rw [wkC_succ]
    obtain ⟨h1, h2, _⟩ := lowb_spec (Nat.lt_of_le_of_lt Nat.and_le_left (stg_lt hb hl _)) h0
    rw [Nat.testBit_and, Bool.and_eq_true] at h2
    have h3 := h2.1
    generalize lowb (stg R inn (lastF R inn f a k) (k + 2 - 1 - j) &&& nth R (wkC (stg R inn (lastF R inn f a k)) R (k + 2) a j)) = y0 at h1 h3 ⊢
    obtain ⟨m, hm⟩ : ∃ m, m = k + 2 - 1 - (j + 1) := ⟨_, rfl⟩
    rw [show k + 2 - 1 - j = m + 1 by omega, stg_succ, Nat.testBit_and, Bool.and_eq_true] at h3
    rw [← hm]
    obtain ⟨y, hy, hyS, hg⟩ := orTo_bit.1 h3.1
    exact and_ne hyS (hs y _ hy h1 hg)
/-- What connex.shortest has found for a first vertex. -/
theorem sh_inv (b : Nat) : ∀ j, (shTo R inn f b).2 j ≠ 0 → j < b ∧ ∃ k, resF R inn f j = some k ∧ (shTo R inn f b).1 = k + 2 ∧ (shTo R inn f b).2 j = lastF R inn f j k := by
  induction b with
  | zero => intro j h; simp [shTo] at h
  | succ b ih =>
    intro j h
    rw [shTo] at h ⊢
    revert h
    unfold shStep
    cases hr : resF R inn f b with
    | none => intro h; obtain ⟨h1, h2⟩ := ih j h; exact ⟨by omega, h2⟩
    | some k =>
      simp only
      split
      · intro h
        simp only at h ⊢
        split at h
        · rename_i e; subst e
          exact ⟨by omega, k, hr, rfl, by rw [if_pos rfl]⟩
        · exact (h rfl).elim
      · split
        · rename_i h9 h8
          intro h
          simp only at h ⊢
          split at h
          · rename_i e; subst e
            exact ⟨by omega, k, hr, h8.symm, by rw [if_pos rfl]⟩
          · rename_i e
            rw [if_neg e]
            obtain ⟨h1, h2⟩ := ih j h
            exact ⟨by omega, h2⟩
        · intro h; obtain ⟨h1, h2⟩ := ih j h; exact ⟨by omega, h2⟩
end
theorem symm_adj {n : Nat} {es : List Nat} (hn : n ≤ 32) (hb : ∀ e ∈ es, e < 2 ^ n) : Symm (adjRow n es) := by
  intro u v hu hv h
  rw [nth_adjRow hu] at h
  rw [nth_adjRow hv]
  split at h
  · rename_i hun
    have hvn := adj_lt_n hn hb hu h
    rw [if_pos hvn]
    exact adj_symm hn hb hun h
  · simp at h
end Go.Proofs.YtjofdlafblpclaaDoor
namespace Go.Proofs.YtjofdlafblpclaaDoor
open Go.RowKit
set_option linter.unusedSimpArgs false
set_option linter.unusedVariables false

def innF (n f : Nat) : Nat := andn (2 ^ n - 1) (2 ^ f - 1)
def shF (n : Nat) (es : List Nat) (f : Nat) : Nat × (Nat → Nat) := shTo (adjRow n es) (innF n f) f f
def wayF (n : Nat) (es : List Nat) (f a : Nat) : List Nat := wkL (stg (adjRow n es) (innF n f) ((shF n es f).2 a)) (adjRow n es) (shF n es f).1 a (shF n es f).1
/-- connex.Path as a function. -/
def pathF (n : Nat) (es : List Nat) (f : Nat) : Option (List Nat) := ((List.range f).find? fun a => decide ((shF n es f).2 a ≠ 0)).map (wayF n es f)
def PathRet (o : Option (List Nat)) (w : World) (e : Ending) (w' : World) : Prop :=
  ∃ v, e = .returned (.tuple #[v, .bool o.isSome]) ∧ w'.ownsRow w.heap.size 3 1 v (o.getD []).length (I64 (ints (o.getD []))) ∧ (o = none → v = .slice none 0 0) ∧ Below w.heap.size w w'
theorem pathF_none {n : Nat} {es : List Nat} {f : Nat} (h : ∀ a, a < f → (shF n es f).2 a = 0) : pathF n es f = none := by
  unfold pathF
  rw [List.find?_eq_none.2 (fun x hx => by simp [h x (by simpa using hx)])]
  rfl
theorem pathF_some {n : Nat} {es : List Nat} {f a : Nat} (ha : a < f) (h : ∀ b, b < a → (shF n es f).2 b = 0) (h1 : (shF n es f).2 a ≠ 0) : pathF n es f = some (wayF n es f a) := by
  unfold pathF
  rw [List.find?_range_eq_some.2 ⟨by simpa using h1, by simpa using ha, fun j hj => by simp [h j hj]⟩]
  rfl
theorem below_lt9 {f : Nat} (hf : f ≤ 32) : 2 ^ f - 1 < 4294967296 := by
  have h2 : 2 ^ f ≤ 2 ^ 32 := two_pow_le hf
  have := pow2_pos f
  omega
theorem adjRow_lt9 {n : Nat} {es : List Nat} (hn : n ≤ 32) (hb : ∀ e ∈ es, e < 2 ^ n) : ∀ x ∈ adjRow n es, x < 4294967296 := fun x hx => by
  have h1 := adjRow_lt hb x hx
  have h2 : 2 ^ n ≤ 2 ^ 32 := two_pow_le hn
  omega
set_option maxRecDepth 100000 in
set_option maxHeartbeats 4000000 in
theorem path_bad (n : Int) (A : Option Addr) (es : List Nat) (len c : Nat) (f : Int) (w : World) (hr : Es w w.heap.size A len es) (hc : freeCode n es f ≠ 0) :
    Calls Tryd.prog 16 #[.agg #[.int .i64 n, .slice A len c], .int .i64 f] w (PathRet none w) := by
  have HR := Lib.hid hr; clear hr
  have HW := Lib.hid (al w (.cells #[.int .i64 n, .slice A len c] 24))
  have HG := Lib.hid (GB.made w 24 (.int .i64 n) (.slice A len c))
  have t0 : (freeCode n es f != 0) = true := by simp [hc]
  go_enter Tryd.func16, Tryd.ntmps16
  have g0 := HG.out.c0; have g1 := HG.out.c1; have lg := HG.out.lt
  go_wp2_with fail
  refine (checkFree_any n A es len c f _ (HR.out.new HW.out)).mono ?_
  rintro e w1 ⟨rfl, hb⟩
  have HB1 := Lib.hid (bthen HW.out hb (by simp))
  clear hb g0 g1 lg
  go_wp2_with fail
  go_ret2
  exact ⟨_, rfl, own_nil _ _ _, fun _ => rfl, HB1.out⟩
set_option maxRecDepth 100000 in
set_option maxHeartbeats 4000000 in
theorem path_ok (n : Nat) (A : Option Addr) (es : List Nat) (len c f : Nat) (w : World) (hr : Es w w.heap.size A len es) (hcc : checkCode n es = 0) (hfn : f ≤ n) (hG : GTab w) :
    Calls Tryd.prog 16 #[.agg #[.int .i64 n, .slice A len c], .int .i64 f] w (PathRet (pathF n es f) w) := by
  obtain ⟨_, hn, hnz, hlt⟩ := checkCode_zero hcc
  have hn' : n ≤ 32 := by omega
  have hfc : freeCode n es f = 0 := by unfold freeCode; rw [hcc]; simp; omega
  have HRL := Lib.hid (adjRow_lt9 hn' (es := es) hlt)
  have HSY := Lib.hid (symm_adj hn' (es := es) hlt)
  have HGT := Lib.hid hG; clear hG
  have HFC := Lib.hid hfc; have HC := Lib.hid hcc; clear hfc
  have HR := Lib.hid hr; clear hr
  have HW := Lib.hid (al w (.cells #[.int .i64 n, .slice A len c] 24))
  have HG := Lib.hid (GB.made w 24 (.int .i64 n) (.slice A len c))
  have ei : bits .andNot .u32 ((2 ^ n - 1 : Nat) : Int) ((2 ^ f - 1 : Nat) : Int) = ((innF n f : Nat) : Int) := bits_andNot _ _ (below_lt9 hn') (below_lt9 (by omega))
  have hil : innF n f < 4294967296 := Nat.lt_of_le_of_lt Nat.and_le_left (below_lt9 hn')
  clear hlt
  go_enter Tryd.func16, Tryd.ntmps16
  have g0 := HG.out.c0; have g1 := HG.out.c1; have lg := HG.out.lt
  go_wp2_with fail
  refine (checkFree_any n A es len c f _ (HR.out.new HW.out)).mono ?_
  rintro e w1 ⟨rfl, hb⟩
  rw [HFC.out]
  have HB1 := Lib.hid (bthen HW.out hb (by simp))
  have HG1 := Lib.hid (HG.out.new hb); clear hb g0 g1 lg
  have g0 := HG1.out.c0; have g1 := HG1.out.c1; have lg := HG1.out.lt
  go_wp2_with fail
  refine (cxadj_any n A es len c _ (HR.out.new HB1.out) HC.out).mono ?_
  rintro e w2 ⟨rfl, hb⟩
  have HB2 := Lib.hid (bthen HB1.out hb HB1.out.size)
  have HG2 := Lib.hid (HG1.out.new hb); clear hb g0 g1 lg
  have hZ := Blk.new w2 58 (urow (zer 32))
  have hA2 := al w2 (.cells (urow (zer 32)) 58)
  go_upto_region 4 with (refine wpList_store_blk rfl 58 (.tmp 6) (.tmp 16) rfl w2.heap.size _ _ (urow (adjRow n es)) hZ rfl rfl (by rw [size_urow, size_urow, adjRow_length, zer_length]) (arr_size (adjRow n es) (adjRow_length n es)) (one_urow (adjRow n es)) ?_; intro w3 hR3 hg3 hs3)
  have hb3 : Below w2.heap.size w2 w3 := hA2.grown hg3 hA2.size (fun k hk => by cases hk; exact Nat.le_refl _)
  have HG3 := Lib.hid (HG2.out.new hb3)
  have HB3 := Lib.hid (bthen HB2.out hb3 HB2.out.size)
  have HR3 := Lib.hid hR3
  generalize w2.heap.size = g3 at *
  clear hg3 hs3 hb3 hR3 hZ hA2
  have g0 := HG3.out.c0; have g1 := HG3.out.c1; have lg := HG3.out.lt
  go_wp2_with (first
    | (refine (cxbelow_any n hn' _).mono ?_; rintro e wz ⟨rfl, rfl⟩)
    | (refine (cxbelow_any f (by omega) _).mono ?_; rintro e wz ⟨rfl, rfl⟩)
    | (refine wpList_load_blk rfl 58 (.tmp 6) rfl g3 _ (urow (adjRow n es)) _ HR3.out rfl Tryd.underlying58 rfl (arr_size (adjRow n es) (adjRow_length n es)) ?_))
  refine (shortest_any (adjRow n es) (innF n f) f _ (adjRow_length n es) HRL.out hil (by omega)).mono ?_
  rintro e w4 ⟨b, m, rfl, hm, hbb, hb⟩
  rw [show shTo (adjRow n es) (innF n f) f f = shF n es f from rfl] at hm ⊢
  have HB4 := Lib.hid (bthen HB3.out hb HB3.out.size)
  have HR4 := Lib.hid (HR3.out.below hb HR3.out.lt)
  have HM := Lib.hid hm
  have HGT4 := Lib.hid (HGT.out.new HB4.out)
  clear hb hm g0 g1 lg hbb
  have HIN := Lib.hid (fun a (h : (shF n es f).2 a ≠ 0) => sh_inv (R := adjRow n es) (inn := innF n f) (f := f) f a h)
  have HL := Lib.hid (sh_le (R := adjRow n es) (inn := innF n f) (f := f) f)
  rw [show shTo (adjRow n es) (innF n f) f f = shF n es f from rfl] at HIN HL
  have hml : ∀ a, (shF n es f).2 a < 4294967296 := fun a => by
    by_cases h : (shF n es f).2 a = 0
    · omega
    · obtain ⟨_, k, _, _, h3⟩ := HIN.out a h
      rw [h3]; exact Nat.lt_of_le_of_lt Nat.and_le_left (orTo_lt9 HRL.out _ 32)
  go_wp2_with fail
  go_loopw [31] (fun iv wr => ∃ a : Nat, a ≤ f ∧ iv = .int .i64 a ∧ wr = w4 ∧ Hid (∀ j, j < a → (shF n es f).2 j = 0)) (fun iv _ => f - (intOf iv).toNat)
  case atStart => exact ⟨0, Nat.zero_le _, rfl, rfl, Lib.hid fun j hj => by omega⟩
  case round =>
    obtain ⟨a, ha, rfl, rfl, HJ⟩ := hrel
    by_cases haf : a < f
    · have hea := hml a
      by_cases h0 : (shF n es f).2 a = 0
      · have t0 : ((((shF n es f).2 a : Nat) : Int) != 0) = false := by simp [h0]
        have HJ2 := Lib.hid (show ∀ j, j < a + 1 → (shF n es f).2 j = 0 from fun j hj => by
          rcases Nat.lt_or_ge j a with h | h
          · exact HJ.out j h
          · obtain rfl : j = a := by omega
            exact h0)
        clear h0
        go_wp2_with (refine wp_map_get rfl _ _ rfl rfl HM.out a (by omega) rfl ?_)
        exact ⟨⟨a + 1, by omega, by go_num, trivial, HJ2⟩, by simp [intOf]; omega⟩
      · have t0 : ((((shF n es f).2 a : Nat) : Int) != 0) = true := by simp; omega
        obtain ⟨h1, k, h2, h3, h4⟩ := HIN.out a h0
        have hP := pathF_some haf HJ.out h0
        have hk : k < 33 := by have := List.mem_of_find?_eq_some h2; simpa using this
        have hW := fun w hw => walk_any (adjRow n es) (innF n f) a ((shF n es f).2 a) (shF n es f).1 w hw (adjRow_length n es) HRL.out hil (hml a) (by omega) (by omega) (by omega) (by
          rw [h3, h4]; exact walk_ok HRL.out HSY.out (by omega) (by rw [← h4]; exact h0))
        have HWK := Lib.hid hW; have HP := Lib.hid hP
        clear hW hP h0 h1 h2 h3 h4
        go_wp2_with (first
          | (refine wp_map_get rfl _ _ rfl rfl HM.out a (by omega) rfl ?_)
          | (refine wpList_load_blk rfl 58 (.tmp 6) rfl g3 _ (urow (adjRow n es)) _ HR4.out rfl Tryd.underlying58 rfl (arr_size (adjRow n es) (adjRow_length n es)) ?_)
          | (refine (HWK.out _ HGT4.out).mono ?_; rintro e w5 ⟨v5, rfl, hown5, hb5⟩))
        go_ret2
        rw [HP.out]
        have hle : ((some (wayF n es f a)).getD []).length = (shF n es f).1 + 1 := wkL_len _ _ _ _ _
        refine ⟨v5, rfl, ?_, (fun h => by cases h), bthen HB4.out hb5 HB4.out.size⟩
        rw [hle]
        exact own_lower hown5 HB4.out.size
    · obtain rfl : a = f := by omega
      have HP := Lib.hid (pathF_none HJ.out)
      go_wp2_with fail
      go_ret2
      rw [HP.out]
      exact ⟨_, rfl, own_nil _ _ _, fun _ => rfl, HB4.out⟩
end Go.Proofs.YtjofdlafblpclaaDoor
