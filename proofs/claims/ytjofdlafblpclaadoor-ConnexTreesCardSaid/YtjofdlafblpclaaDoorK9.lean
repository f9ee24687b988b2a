/-
Contract of connex.Path.
Contract of connex.CheckPath.
Contracts of connex.Connex and law31.extended.
Contract of the reference's Inside: the place of the first edge that holds the set.
Contract of slices.Compare at int.
Contract of slices.Equal at int.
awake of layer 31 returns true.
-/
import Derived.Test.YtjofdlafblpclaaDoorK8
import Derived.Test.YtjofdlafblpclaaDoorK5
import Derived.Test.YtjofdlafblpclaaDoorK4
import Derived.Test.YtjofdlafblpclaaDoorK1
import Derived.Test.YtjofdlafblpclaaDoorK3
namespace Go.Proofs.YtjofdlafblpclaaDoor
set_option linter.unusedVariables false

def Symm (R : List Nat) : Prop := ∀ u v, u < 32 → v < 32 → (nth R u).testBit v = true → (nth R v).testBit u = true
section
variable {R : List Nat} {inn f a : Nat}
theorem bit_lt32 {x v : Nat} (hx : x < 4294967296) (h : x.testBit v = true) : v < 32 := by
  rcases Nat.lt_or_ge v 32 with h1 | h1
  · exact h1
  · rw [Nat.testBit_lt_two_pow (Nat.lt_of_lt_of_le (show x < 2 ^ 32 by omega) (Nat.pow_le_pow_right (by decide) h1))] at h; cases h
theorem stg_succ {last k : Nat} : stg R inn last (k + 1) = orTo R (stg R inn last k) 32 &&& inn := rfl
theorem wkC_succ {S : Nat → Nat} {len k : Nat} : wkC S R len f (k + 1) = lowb (S (len - 1 - k) &&& nth R (wkC S R len f k)) := rfl
theorem and_ne {x y v : Nat} (h1 : x.testBit v = true) (h2 : y.testBit v = true) : x &&& y ≠ 0 := by
  intro h
  have := congrArg (fun z => z.testBit v) h
  simp [Nat.testBit_and, h1, h2] at this
theorem bord_inn (hb : ∀ x ∈ R, x < 4294967296) {k v : Nat} (h : (bord R inn a k).2.testBit v = true) : inn.testBit v = true := by
  cases k with
  | zero =>
    have h' : (nth R a &&& inn).testBit v = true := h
    rw [Nat.testBit_and, Bool.and_eq_true] at h'
    exact h'.2
  | succ k =>
    obtain ⟨l1, l2⟩ := bord_lt (inn := inn) (a := a) hb k
    have h' : (andn (orTo R (bord R inn a k).2 32 &&& inn) ((bord R inn a k).1 ||| (bord R inn a k).2)).testBit v = true := h
    rw [testBit_andn (Nat.or_lt_two_pow (n := 32) l1 l2) (Nat.lt_of_le_of_lt Nat.and_le_left (orTo_lt9 hb _ 32))] at h'
    simp only [Nat.testBit_and, Bool.and_eq_true] at h'
    exact h'.1.2
theorem bord_back (hb : ∀ x ∈ R, x < 4294967296) {k v : Nat} (h : (bord R inn a (k + 1)).2.testBit v = true) : (orTo R (bord R inn a k).2 32).testBit v = true := by
  obtain ⟨l1, l2⟩ := bord_lt (inn := inn) (a := a) hb k
  have h' : (andn (orTo R (bord R inn a k).2 32 &&& inn) ((bord R inn a k).1 ||| (bord R inn a k).2)).testBit v = true := h
  rw [testBit_andn (Nat.or_lt_two_pow (n := 32) l1 l2) (Nat.lt_of_le_of_lt Nat.and_le_left (orTo_lt9 hb _ 32))] at h'
  simp only [Nat.testBit_and, Bool.and_eq_true] at h'
  exact h'.1.1
/-- One step back. -/
theorem stg_next (hb : ∀ x ∈ R, x < 4294967296) (hs : Symm R) {last j B u : Nat} (hl : last < 4294967296) (hB : B < 4294967296) (hBi : ∀ v, B.testBit v = true → inn.testBit v = true) (h1 : (stg R inn last j).testBit u = true) (h2 : (orTo R B 32).testBit u = true) :
    ∃ x, (stg R inn last (j + 1)).testBit x = true ∧ B.testBit x = true := by
  obtain ⟨x, hx, hxB, hg⟩ := orTo_bit.1 h2
  have hu := bit_lt32 (stg_lt hb hl j) h1
  refine ⟨x, ?_, hxB⟩
  show (orTo R (stg R inn last j) 32 &&& inn).testBit x = true
  rw [Nat.testBit_and, hBi x hxB, Bool.and_true]
  exact orTo_bit.2 ⟨u, hu, h1, hs x u hx hu hg⟩
theorem stg_meets (hb : ∀ x ∈ R, x < 4294967296) (hs : Symm R) (hf : f ≤ 32) {k : Nat} (hk : lastF R inn f a k ≠ 0) : ∀ j, j ≤ k → ∃ x, (stg R inn (lastF R inn f a k) (j + 1)).testBit x = true ∧ (bord R inn a (k - j)).2.testBit x = true
  | 0, _ => by
    obtain ⟨u, hu⟩ := nz_bit9 hk
    have hl : lastF R inn f a k < 4294967296 := Nat.lt_of_le_of_lt Nat.and_le_left (orTo_lt9 hb _ 32)
    refine stg_next hb hs (j := 0) (u := u) hl (bord_lt hb k).2 (fun v => bord_inn hb) hu ?_
    have h' : (orTo R (bord R inn a k).2 32 &&& farF R f a).testBit u = true := hu
    rw [Nat.testBit_and, Bool.and_eq_true] at h'
    exact h'.1
  | j + 1, h => by
    obtain ⟨x, h1, h2⟩ := stg_meets hb hs hf hk j (by omega)
    have hl : lastF R inn f a k < 4294967296 := Nat.lt_of_le_of_lt Nat.and_le_left (orTo_lt9 hb _ 32)
    rw [show k - j = (k - (j + 1)) + 1 by omega] at h2
    exact stg_next hb hs hl (bord_lt hb _).2 (fun v => bord_inn hb) h1 (bord_back hb h2)
theorem walk_ok (hb : ∀ x ∈ R, x < 4294967296) (hs : Symm R) (hf : f ≤ 32) {k : Nat} (hk : lastF R inn f a k ≠ 0) : ∀ j, j < k + 2 →
    stg R inn (lastF R inn f a k) (k + 2 - 1 - j) &&& nth R (wkC (stg R inn (lastF R inn f a k)) R (k + 2) a j) ≠ 0 := by
  have hl : lastF R inn f a k < 4294967296 := Nat.lt_of_le_of_lt Nat.and_le_left (orTo_lt9 hb _ 32)
  intro j
  induction j with
  | zero =>
    intro _
    obtain ⟨x, h1, h2⟩ := stg_meets hb hs hf hk k (Nat.le_refl k)
    rw [Nat.sub_self] at h2
    have h' : (nth R a &&& inn).testBit x = true := h2
    rw [Nat.testBit_and, Bool.and_eq_true] at h'
    exact and_ne h1 h'.1
  | succ j ih =>
    intro hj
    have h0 := ih (by omega)
    rw [wkC_succ]
    obtain ⟨h1, h2, _⟩ := lowb_spec (Nat.lt_of_le_of_lt Nat.and_le_left (stg_lt hb hl _)) h0
    rw [Nat.testBit_and, Bool.and_eq_true] at h2
    have h3 := h2.1
    generalize lowb (stg R inn (lastF R inn f a k) (k + 2 - 1 - j) &&& nth R (wkC (stg R inn (lastF R inn f a k)) R (k + 2) a j)) = y0 at h1 h3 ⊢
    obtain ⟨m, hm⟩ : ∃ m, m = k + 2 - 1 - (j + 1) := ⟨_, rfl⟩
    rw [show k + 2 - 1 - j = m + 1 by omega, stg_succ, Nat.testBit_and, Bool.and_eq_true] at h3
    rw [← hm]
    obtain ⟨y, hy, hyS, hg⟩ := orTo_bit.1 h3.1
    exact and_ne hyS (hs y _ hy h1 hg)
/-- What connex.shortest has found for a first vertex. -/
theorem sh_inv (b : Nat) : ∀ j, (shTo R inn f b).2 j ≠ 0 → j < b ∧ ∃ k, resF R inn f j = some k ∧ (shTo R inn f b).1 = k + 2 ∧ (shTo R inn f b).2 j = lastF R inn f j k := by
  induction b with
  | zero => intro j h; simp [shTo] at h
  | succ b ih =>
    intro j h
    rw [shTo] at h ⊢
    revert h
    unfold shStep
    cases hr : resF R inn f b with
    | none => intro h; obtain ⟨h1, h2⟩ := ih j h; exact ⟨by omega, h2⟩
    | some k =>
      simp only
      split
      · intro h
        simp only at h ⊢
        split at h
        · rename_i e; subst e
          exact ⟨by omega, k, hr, rfl, by rw [if_pos rfl]⟩
        · exact (h rfl).elim
      · split
        · rename_i h9 h8
          intro h
          simp only at h ⊢
          split at h
          · rename_i e; subst e
            exact ⟨by omega, k, hr, h8.symm, by rw [if_pos rfl]⟩
          · rename_i e
            rw [if_neg e]
            obtain ⟨h1, h2⟩ := ih j h
            exact ⟨by omega, h2⟩
        · intro h; obtain ⟨h1, h2⟩ := ih j h; exact ⟨by omega, h2⟩
end
theorem symm_adj {n : Nat} {es : List Nat} (hn : n ≤ 32) (hb : ∀ e ∈ es, e < 2 ^ n) : Symm (adjRow n es) := by
  intro u v hu hv h
  rw [nth_adjRow hu] at h
  rw [nth_adjRow hv]
  split at h
  · rename_i hun
    have hvn := adj_lt_n hn hb hu h
    rw [if_pos hvn]
    exact adj_symm hn hb hun h
  · simp at h
end Go.Proofs.YtjofdlafblpclaaDoor
namespace Go.Proofs.YtjofdlafblpclaaDoor
open Go.RowKit
set_option linter.unusedSimpArgs false
set_option linter.unusedVariables false

def innF (n f : Nat) : Nat := andn (2 ^ n - 1) (2 ^ f - 1)
def shF (n : Nat) (es : List Nat) (f : Nat) : Nat × (Nat → Nat) := shTo (adjRow n es) (innF n f) f f
def wayF (n : Nat) (es : List Nat) (f a : Nat) : List Nat := wkL (stg (adjRow n es) (innF n f) ((shF n es f).2 a)) (adjRow n es) (shF n es f).1 a (shF n es f).1
/-- connex.Path as a function. -/
def pathF (n : Nat) (es : List Nat) (f : Nat) : Option (List Nat) := ((List.range f).find? fun a => decide ((shF n es f).2 a ≠ 0)).map (wayF n es f)
def PathRet (o : Option (List Nat)) (w : World) (e : Ending) (w' : World) : Prop :=
  ∃ v, e = .returned (.tuple #[v, .bool o.isSome]) ∧ w'.ownsRow w.heap.size 3 1 v (o.getD []).length (I64 (ints (o.getD []))) ∧ (o = none → v = .slice none 0 0) ∧ Below w.heap.size w w'
theorem pathF_none {n : Nat} {es : List Nat} {f : Nat} (h : ∀ a, a < f → (shF n es f).2 a = 0) : pathF n es f = none := by
  unfold pathF
  rw [List.find?_eq_none.2 (fun x hx => by simp [h x (by simpa using hx)])]
  rfl
theorem pathF_some {n : Nat} {es : List Nat} {f a : Nat} (ha : a < f) (h : ∀ b, b < a → (shF n es f).2 b = 0) (h1 : (shF n es f).2 a ≠ 0) : pathF n es f = some (wayF n es f a) := by
  unfold pathF
  rw [List.find?_range_eq_some.2 ⟨by simpa using h1, by simpa using ha, fun j hj => by simp [h j hj]⟩]
  rfl
theorem below_lt9 {f : Nat} (hf : f ≤ 32) : 2 ^ f - 1 < 4294967296 := by
  have h2 : 2 ^ f ≤ 2 ^ 32 := two_pow_le hf
  have := pow2_pos f
  omega
theorem adjRow_lt9 {n : Nat} {es : List Nat} (hn : n ≤ 32) (hb : ∀ e ∈ es, e < 2 ^ n) : ∀ x ∈ adjRow n es, x < 4294967296 := fun x hx => by
  have h1 := adjRow_lt hb x hx
  have h2 : 2 ^ n ≤ 2 ^ 32 := two_pow_le hn
  omega
set_option maxRecDepth 100000 in
set_option maxHeartbeats 4000000 in
theorem path_bad (n : Int) (A : Option Addr) (es : List Nat) (len c : Nat) (f : Int) (w : World) (hr : Es w w.heap.size A len es) (hc : freeCode n es f ≠ 0) :
    Calls Tryd.prog 16 #[.agg #[.int .i64 n, .slice A len c], .int .i64 f] w (PathRet none w) := by
  have HR := Lib.hid hr; clear hr
  have HW := Lib.hid (al w (.cells #[.int .i64 n, .slice A len c] 24))
  have HG := Lib.hid (GB.made w 24 (.int .i64 n) (.slice A len c))
  have t0 : (freeCode n es f != 0) = true := by simp [hc]
  go_enter Tryd.func16, Tryd.ntmps16
  have g0 := HG.out.c0; have g1 := HG.out.c1; have lg := HG.out.lt
  go_wp2_with fail
  refine (checkFree_any n A es len c f _ (HR.out.new HW.out)).mono ?_
  rintro e w1 ⟨rfl, hb⟩
  have HB1 := Lib.hid (bthen HW.out hb (by simp))
  clear hb g0 g1 lg
  go_wp2_with fail
  go_ret2
  exact ⟨_, rfl, own_nil _ _ _, fun _ => rfl, HB1.out⟩
set_option maxRecDepth 100000 in
set_option maxHeartbeats 4000000 in
theorem path_ok (n : Nat) (A : Option Addr) (es : List Nat) (len c f : Nat) (w : World) (hr : Es w w.heap.size A len es) (hcc : checkCode n es = 0) (hfn : f ≤ n) (hG : GTab w) :
    Calls Tryd.prog 16 #[.agg #[.int .i64 n, .slice A len c], .int .i64 f] w (PathRet (pathF n es f) w) := by
  obtain ⟨_, hn, hnz, hlt⟩ := checkCode_zero hcc
  have hn' : n ≤ 32 := by omega
  have hfc : freeCode n es f = 0 := by unfold freeCode; rw [hcc]; simp; omega
  have HRL := Lib.hid (adjRow_lt9 hn' (es := es) hlt)
  have HSY := Lib.hid (symm_adj hn' (es := es) hlt)
  have HGT := Lib.hid hG; clear hG
  have HFC := Lib.hid hfc; have HC := Lib.hid hcc; clear hfc
  have HR := Lib.hid hr; clear hr
  have HW := Lib.hid (al w (.cells #[.int .i64 n, .slice A len c] 24))
  have HG := Lib.hid (GB.made w 24 (.int .i64 n) (.slice A len c))
  have ei : bits .andNot .u32 ((2 ^ n - 1 : Nat) : Int) ((2 ^ f - 1 : Nat) : Int) = ((innF n f : Nat) : Int) := bits_andNot _ _ (below_lt9 hn') (below_lt9 (by omega))
  have hil : innF n f < 4294967296 := Nat.lt_of_le_of_lt Nat.and_le_left (below_lt9 hn')
  clear hlt
  go_enter Tryd.func16, Tryd.ntmps16
  have g0 := HG.out.c0; have g1 := HG.out.c1; have lg := HG.out.lt
  go_wp2_with fail
  refine (checkFree_any n A es len c f _ (HR.out.new HW.out)).mono ?_
  rintro e w1 ⟨rfl, hb⟩
  rw [HFC.out]
  have HB1 := Lib.hid (bthen HW.out hb (by simp))
  have HG1 := Lib.hid (HG.out.new hb); clear hb g0 g1 lg
  have g0 := HG1.out.c0; have g1 := HG1.out.c1; have lg := HG1.out.lt
  go_wp2_with fail
  refine (cxadj_any n A es len c _ (HR.out.new HB1.out) HC.out).mono ?_
  rintro e w2 ⟨rfl, hb⟩
  have HB2 := Lib.hid (bthen HB1.out hb HB1.out.size)
  have HG2 := Lib.hid (HG1.out.new hb); clear hb g0 g1 lg
  have hZ := Blk.new w2 58 (urow (zer 32))
  have hA2 := al w2 (.cells (urow (zer 32)) 58)
  go_upto_region 4 with (refine wpList_store_blk rfl 58 (.tmp 6) (.tmp 16) rfl w2.heap.size _ _ (urow (adjRow n es)) hZ rfl rfl (by rw [size_urow, size_urow, adjRow_length, zer_length]) (arr_size (adjRow n es) (adjRow_length n es)) (one_urow (adjRow n es)) ?_; intro w3 hR3 hg3 hs3)
  have hb3 : Below w2.heap.size w2 w3 := hA2.grown hg3 hA2.size (fun k hk => by cases hk; exact Nat.le_refl _)
  have HG3 := Lib.hid (HG2.out.new hb3)
  have HB3 := Lib.hid (bthen HB2.out hb3 HB2.out.size)
  have HR3 := Lib.hid hR3
  generalize w2.heap.size = g3 at *
  clear hg3 hs3 hb3 hR3 hZ hA2
  have g0 := HG3.out.c0; have g1 := HG3.out.c1; have lg := HG3.out.lt
  go_wp2_with (first
    | (refine (cxbelow_any n hn' _).mono ?_; rintro e wz ⟨rfl, rfl⟩)
    | (refine (cxbelow_any f (by omega) _).mono ?_; rintro e wz ⟨rfl, rfl⟩)
    | (refine wpList_load_blk rfl 58 (.tmp 6) rfl g3 _ (urow (adjRow n es)) _ HR3.out rfl Tryd.underlying58 rfl (arr_size (adjRow n es) (adjRow_length n es)) ?_))
  refine (shortest_any (adjRow n es) (innF n f) f _ (adjRow_length n es) HRL.out hil (by omega)).mono ?_
  rintro e w4 ⟨b, m, rfl, hm, hbb, hb⟩
  rw [show shTo (adjRow n es) (innF n f) f f = shF n es f from rfl] at hm ⊢
  have HB4 := Lib.hid (bthen HB3.out hb HB3.out.size)
  have HR4 := Lib.hid (HR3.out.below hb HR3.out.lt)
  have HM := Lib.hid hm
  have HGT4 := Lib.hid (HGT.out.new HB4.out)
  clear hb hm g0 g1 lg hbb
  have HIN := Lib.hid (fun a (h : (shF n es f).2 a ≠ 0) => sh_inv (R := adjRow n es) (inn := innF n f) (f := f) f a h)
  have HL := Lib.hid (sh_le (R := adjRow n es) (inn := innF n f) (f := f) f)
  rw [show shTo (adjRow n es) (innF n f) f f = shF n es f from rfl] at HIN HL
  have hml : ∀ a, (shF n es f).2 a < 4294967296 := fun a => by
    by_cases h : (shF n es f).2 a = 0
    · omega
    · obtain ⟨_, k, _, _, h3⟩ := HIN.out a h
      rw [h3]; exact Nat.lt_of_le_of_lt Nat.and_le_left (orTo_lt9 HRL.out _ 32)
  go_wp2_with fail
  go_loopw [31] (fun iv wr => ∃ a : Nat, a ≤ f ∧ iv = .int .i64 a ∧ wr = w4 ∧ Hid (∀ j, j < a → (shF n es f).2 j = 0)) (fun iv _ => f - (intOf iv).toNat)
  case atStart => exact ⟨0, Nat.zero_le _, rfl, rfl, Lib.hid fun j hj => by omega⟩
  case round =>
    obtain ⟨a, ha, rfl, rfl, HJ⟩ := hrel
    by_cases haf : a < f
    · have hea := hml a
      by_cases h0 : (shF n es f).2 a = 0
      · have t0 : ((((shF n es f).2 a : Nat) : Int) != 0) = false := by simp [h0]
        have HJ2 := Lib.hid (show ∀ j, j < a + 1 → (shF n es f).2 j = 0 from fun j hj => by
          rcases Nat.lt_or_ge j a with h | h
          · exact HJ.out j h
          · obtain rfl : j = a := by omega
            exact h0)
        clear h0
        go_wp2_with (refine wp_map_get rfl _ _ rfl rfl HM.out a (by omega) rfl ?_)
        exact ⟨⟨a + 1, by omega, by go_num, trivial, HJ2⟩, by simp [intOf]; omega⟩
      · have t0 : ((((shF n es f).2 a : Nat) : Int) != 0) = true := by simp; omega
        obtain ⟨h1, k, h2, h3, h4⟩ := HIN.out a h0
        have hP := pathF_some haf HJ.out h0
        have hk : k < 33 := by have := List.mem_of_find?_eq_some h2; simpa using this
        have hW := fun w hw => walk_any (adjRow n es) (innF n f) a ((shF n es f).2 a) (shF n es f).1 w hw (adjRow_length n es) HRL.out hil (hml a) (by omega) (by omega) (by omega) (by
          rw [h3, h4]; exact walk_ok HRL.out HSY.out (by omega) (by rw [← h4]; exact h0))
        have HWK := Lib.hid hW; have HP := Lib.hid hP
        clear hW hP h0 h1 h2 h3 h4
        go_wp2_with (first
          | (refine wp_map_get rfl _ _ rfl rfl HM.out a (by omega) rfl ?_)
          | (refine wpList_load_blk rfl 58 (.tmp 6) rfl g3 _ (urow (adjRow n es)) _ HR4.out rfl Tryd.underlying58 rfl (arr_size (adjRow n es) (adjRow_length n es)) ?_)
          | (refine (HWK.out _ HGT4.out).mono ?_; rintro e w5 ⟨v5, rfl, hown5, hb5⟩))
        go_ret2
        rw [HP.out]
        have hle : ((some (wayF n es f a)).getD []).length = (shF n es f).1 + 1 := wkL_len _ _ _ _ _
        refine ⟨v5, rfl, ?_, (fun h => by cases h), bthen HB4.out hb5 HB4.out.size⟩
        rw [hle]
        exact own_lower hown5 HB4.out.size
    · obtain rfl : a = f := by omega
      have HP := Lib.hid (pathF_none HJ.out)
      go_wp2_with fail
      go_ret2
      rw [HP.out]
      exact ⟨_, rfl, own_nil _ _ _, fun _ => rfl, HB4.out⟩
end Go.Proofs.YtjofdlafblpclaaDoor
namespace Go.Proofs.YtjofdlafblpclaaDoor
open Go.RowKit
set_option linter.unusedSimpArgs false
set_option linter.unusedVariables false

def stepAt (R : List Nat) (l : List Int) (i m : Nat) : Bool := (List.range m).all fun j => linkL R l i j == decide (j + 1 = i)
def endAt (f : Nat) (l : List Int) (i : Nat) : Bool := decide (i = 0 ∨ i + 1 = l.length) == decide (inth l i < f)
def wayTo (R : List Nat) (f : Nat) (l : List Int) (k : Nat) : Bool := (List.range k).all fun i => endAt f l i && stepAt R l i i
/-- connex.CheckPath of correct arguments. -/
def chkW (R : List Nat) (n f : Nat) (l : List Int) : Bool := decide (3 ≤ l.length) && (okTo n l l.length && wayTo R f l l.length)
theorem bit_one9 (e v : Nat) (he : e < 2 ^ 32) : (bits .and .u32 ((e : Int) / 2 ^ v) 1 == 1) = e.testBit v := by
  rw [bits_and_one e v he]
  cases e.testBit v <;> rfl
theorem stepAt_succ (R : List Nat) (l : List Int) (i m : Nat) : stepAt R l i (m + 1) = (stepAt R l i m && (linkL R l i m == decide (m + 1 = i))) := all_range_succ _ _
theorem wayTo_succ (R : List Nat) (f : Nat) (l : List Int) (i : Nat) : wayTo R f l (i + 1) = (wayTo R f l i && (endAt f l i && stepAt R l i i)) := all_range_succ _ _
theorem way_bad {R : List Nat} {n f : Nat} {l : List Int} {i : Nat} (hi : i < l.length) (h : (endAt f l i && stepAt R l i i) = false) : chkW R n f l = false := by
  have : wayTo R f l l.length = false := by
    cases h2 : wayTo R f l l.length with
    | false => rfl
    | true =>
      rw [wayTo, List.all_eq_true] at h2
      rw [h2 i (by simpa using hi)] at h; cases h
  rw [chkW, this]; simp
theorem step_bad {R : List Nat} {l : List Int} {i j : Nat} (hj : j < i) (h : (linkL R l i j == decide (j + 1 = i)) = false) : stepAt R l i i = false := by
  cases h2 : stepAt R l i i with
  | false => rfl
  | true =>
    rw [stepAt, List.all_eq_true] at h2
    rw [h2 j (by simpa using hj)] at h; cases h
theorem ret_bool9 {a b : Bool} (h : b = a) : Ending.returned (.bool a) = Ending.returned (.bool b) := by rw [h]
set_option maxRecDepth 100000 in
set_option maxHeartbeats 4000000 in
theorem chkp_bad (n : Int) (A : Option Addr) (es : List Nat) (len c : Nat) (f : Int) (B : Option Addr) (m d : Nat) (w : World) (hr : Es w w.heap.size A len es) (hc : freeCode n es f ≠ 0) :
    Calls Tryd.prog 19 #[.agg #[.int .i64 n, .slice A len c], .int .i64 f, .slice B m d] w fun e w' => e = .returned (.bool false) ∧ Below w.heap.size w w' := by
  have HR := Lib.hid hr; clear hr
  have HW := Lib.hid (al w (.cells #[.int .i64 n, .slice A len c] 24))
  have HG := Lib.hid (GB.made w 24 (.int .i64 n) (.slice A len c))
  have t0 : (freeCode n es f != 0) = true := by simp [hc]
  go_enter Tryd.func19, Tryd.ntmps19
  have g0 := HG.out.c0; have g1 := HG.out.c1; have lg := HG.out.lt
  go_wp2_with fail
  refine (checkFree_any n A es len c f _ (HR.out.new HW.out)).mono ?_
  rintro e w1 ⟨rfl, hb⟩
  have HB1 := Lib.hid (bthen HW.out hb (by simp))
  clear hb g0 g1 lg
  go_wp2_with fail
  go_ret
  exact ⟨rfl, HB1.out⟩
set_option maxRecDepth 100000 in
set_option maxHeartbeats 8000000 in
theorem chkp_ok (n : Nat) (A : Option Addr) (es : List Nat) (len c f : Nat) (B : Option Addr) (xs : List Int) (m d : Nat) (w : World) (hr : Es w w.heap.size A len es) (hcc : checkCode n es = 0) (hfn : f ≤ n) (hx : Xs w w.heap.size B m xs) :
    Calls Tryd.prog 19 #[.agg #[.int .i64 n, .slice A len c], .int .i64 f, .slice B m d] w fun e w' => e = .returned (.bool (chkW (adjRow n es) n f xs)) ∧ Below w.heap.size w w' := by
  obtain ⟨_, hn, hl64, hes⟩ := checkCode_zero hcc
  have hn' : n ≤ 32 := by omega
  have hfc : freeCode n es f = 0 := by unfold freeCode; rw [hcc]; simp; omega
  have HFC := Lib.hid hfc; clear hfc
  have hes' : ∀ e ∈ es, e < 2 ^ n := by simpa using hes
  have HES := Lib.hid hes'; clear hes hes' hl64 hn
  have HRL := Lib.hid (adjRow_lt9 hn' (es := es) HES.out)
  have hm9 := hx.le
  have HML := Lib.hid hx.len
  have HX := Lib.hid hx; clear hx
  have HR := Lib.hid hr; clear hr
  have HC := Lib.hid hcc; clear hcc
  have HG := Lib.hid (GB.made w 24 (.int .i64 n) (.slice A len c))
  have HW := Lib.hid (al w (.cells #[.int .i64 n, .slice A len c] 24))
  go_enter Tryd.func19, Tryd.ntmps19
  have g0 := HG.out.c0; have g1 := HG.out.c1; have lg := HG.out.lt
  go_wp2_with fail
  refine (checkFree_any n A es len c f _ (HR.out.new HW.out)).mono ?_
  rintro e w1 ⟨rfl, hb⟩
  rw [HFC.out]
  have HB1 := Lib.hid (bthen HW.out hb (by simp))
  have HG1 := Lib.hid (HG.out.new hb)
  clear hb HG HW g0 g1 lg
  have HX1 := Lib.hid (HX.out.new HB1.out)
  have g0 := HG1.out.c0; have g1 := HG1.out.c1; have lg := HG1.out.lt
  by_cases hm3 : m < 3
  · have t3 : decide ((m : Int) < 3) = true := by simp; omega
    have HF := Lib.hid (show chkW (adjRow n es) n f xs = false by
      rw [chkW, decide_eq_false (by have := HML.out; omega)]; rfl)
    go_wp2_with fail
    go_ret
    exact ⟨ret_bool9 HF.out, HB1.out⟩
  have t3 : decide ((m : Int) < 3) = false := by simp; omega
  go_wp2_with fail
  clear g1 t3
  go_loop [7, 27] (fun sv iv => ∃ k : Nat, iv = .int .i64 k ∧ k ≤ m ∧ sv = .int .u32 (setTo xs k : Nat) ∧ Hid (okTo n xs k = true)) (fun _ iv => m - (intOf iv).toNat)
  case atStart => exact ⟨0, rfl, Nat.zero_le _, rfl, Lib.hid rfl⟩
  case round =>
    obtain ⟨k, rfl, hk, rfl, HK⟩ := hrel
    by_cases hkm : k < m
    · obtain ⟨ad, rfl, hb1, hcell⟩ := HX1.out.at_ hkm
      have hbd := HX1.out.lt hkm
      have HOKA := Lib.hid (fun h0 h1 => okAt_iff (k := k) HK.out h0 h1)
      have HBAD := Lib.hid (fun (h : okAt n xs k = false) => show chkW (adjRow n es) n f xs = false by
        have : okTo n xs xs.length = false := by
          cases h2 : okTo n xs xs.length with
          | false => rfl
          | true =>
            rw [okTo, List.all_eq_true] at h2
            rw [h2 k (by simp; have := HML.out; omega)] at h; cases h
        rw [chkW, this]; simp)
      have HNX := Lib.hid (show okTo n xs (k + 1) = (okTo n xs k && okAt n xs k) from all_range_succ _ _)
      have HST := Lib.hid (show setTo xs (k + 1) = setTo xs k ||| 2 ^ (inth xs k).toNat from rfl)
      have hs32 : setTo xs k < 4294967296 := Nat.lt_of_lt_of_le (setTo_lt HK.out) (two_pow_le hn')
      have HAT := Lib.hid (show (inth xs k < 0 ∨ (n : Int) ≤ inth xs k) → okAt n xs k = false from fun h => by
        rw [okAt]
        rcases h with h | h
        · rw [decide_eq_false (by omega)]; rfl
        · by_cases h0 : 0 ≤ inth xs k
          · rw [decide_eq_true h0, decide_eq_false (by omega)]; rfl
          · rw [decide_eq_false h0]; rfl)
      generalize inth xs k = x at *
      by_cases hx0 : x < 0
      · have t1 : decide (x < 0) = true := by simp [hx0]
        have HF := Lib.hid (HBAD.out (HAT.out (.inl hx0)))
        go_wp2_with fail
        go_ret
        exact ⟨ret_bool9 HF.out, HB1.out⟩
      · have t1 : decide (x < 0) = false := by simp; omega
        obtain ⟨y, rfl⟩ := Int.eq_ofNat_of_zero_le (show 0 ≤ x by omega)
        by_cases hyn : y < n
        · have t2 : decide ((y : Int) ≥ (n : Int)) = false := by simp; omega
          have hoa := HOKA.out (by omega) (by omega)
          rw [Int.toNat_natCast] at hoa
          have hbit := bit_one9 (setTo xs k) y hs32
          have i1 : (0 : Int) ≤ (y : Int) := by omega
          have i2 : (y : Int) < 32 := by omega
          cases hb : (setTo xs k).testBit y with
          | true =>
            rw [hb] at hbit hoa
            have HF := Lib.hid (HBAD.out (by rw [hoa]; rfl)); clear hb hoa
            go_wp2_with fail
            go_ret
            exact ⟨ret_bool9 HF.out, HB1.out⟩
          | false =>
            rw [hb] at hbit hoa
            have HN := Lib.hid (show okTo n xs (k + 1) = true by rw [HNX.out, HK.out, hoa]; rfl); clear hb hoa
            have hst := HST.out
            rw [Int.toNat_natCast] at hst
            have HST2 := Lib.hid hst; clear hst
            have hpy : 2 ^ y < 4294967296 := pow2_lt32 (by omega)
            have eor := bits_or (setTo xs k) (2 ^ y) hs32 hpy
            rw [← shl_mod y (by omega)] at eor
            generalize setTo xs k = sk at *
            go_wp2_with fail
            exact ⟨⟨k + 1, by go_num, by omega, by rw [HST2.out], HN⟩, by simp [intOf]; omega⟩
        · have t2 : decide ((y : Int) ≥ (n : Int)) = true := by simp; omega
          have HF := Lib.hid (HBAD.out (HAT.out (.inr (by omega))))
          go_wp2_with fail
          go_ret
          exact ⟨ret_bool9 HF.out, HB1.out⟩
    · obtain rfl : m = k := by omega
      clear g0 lg
      have g0 := HG1.out.c0; have g1 := HG1.out.c1; have lg := HG1.out.lt
      go_wp2_with fail
      refine (cxadj_any n A es len c _ (HR.out.new HB1.out) HC.out).mono ?_
      rintro e w2 ⟨rfl, hb⟩
      have HB2 := Lib.hid (bthen HB1.out hb HB1.out.size)
      have HG2 := Lib.hid (HG1.out.new hb); clear hb HG1 HB1 g0 g1 lg HX1
      have hZ := Blk.new w2 58 (urow (zer 32))
      have hA2 := al w2 (.cells (urow (zer 32)) 58)
      go_upto_region 12 with (refine wpList_store_blk rfl 58 (.tmp 10) (.tmp 52) rfl w2.heap.size _ _ (urow (adjRow n es)) hZ rfl rfl (by rw [size_urow, size_urow, adjRow_length, zer_length]) (arr_size (adjRow n es) (adjRow_length n es)) (one_urow (adjRow n es)) ?_; intro w3 hR3 hg3 hs3)
      have hb3 : Below w2.heap.size w2 w3 := hA2.grown hg3 hA2.size (fun k hk => by cases hk; exact Nat.le_refl _)
      have HB3 := Lib.hid (bthen HB2.out hb3 HB2.out.size)
      have HR3 := Lib.hid hR3
      have HGW := Lib.hid (show w.heap.size ≤ w2.heap.size from HB2.out.size)
      generalize w2.heap.size = g3 at *
      clear hg3 hs3 hb3 hR3 hZ hA2 HG2 HB2
      have HKL := Lib.hid (show okTo n xs xs.length = true by rw [← HML.out]; exact HK.out)
      obtain ⟨R, hRe⟩ : ∃ R, R = adjRow n es := ⟨_, rfl⟩
      have HR32 := Lib.hid (show ∀ v, nth R v < 4294967296 by
        rw [hRe]; intro v
        exact nth_lt32 HRL.out v)
      have hRlen : R.length = 32 := by rw [hRe, adjRow_length]
      rw [← hRe] at HR3
      have HRE := Lib.hid hRe; clear hRe
      rw [← HRE.out]
      clear HK
      go_wp2_with fail
      go_loopw [55] (fun iv wr => ∃ (i : Nat), iv = .int .i64 i ∧ i ≤ m ∧ Hid (wayTo R f xs i = true ∧ Below w3.heap.size w3 wr)) (fun iv _ => m - (intOf iv).toNat)
      case atStart => exact ⟨0, rfl, Nat.zero_le _, Lib.hid ⟨rfl, Below.refl _ _⟩⟩
      case round =>
        obtain ⟨i, rfl, hi, HI⟩ := hrel
        by_cases him : i < m
        · obtain ⟨yi, hyi, hyin⟩ := ok_nat HKL.out (show i < xs.length by have := HML.out; omega)
          obtain ⟨ad, rfl, hb1, hcell⟩ := (HX.out.new (bthen HB3.out HI.out.2 HB3.out.size)).at_ him
          rw [hyi] at hcell
          have HYI := Lib.hid hyi; clear hyi
          have HEND := Lib.hid (show endAt f xs i = (decide (i = 0 ∨ i + 1 = m) == decide (yi < f)) by
            rw [endAt, HYI.out, HML.out]; congr 1; rw [Bool.eq_iff_iff]; simp)
          have HILT := Lib.hid (show i < xs.length by have := HML.out; omega)
          have t4 : decide ((yi : Int) < (f : Int)) = decide (yi < f) := by rw [Bool.eq_iff_iff]; simp
          have t1 : ((i : Int) == 0) = decide (i = 0) := by rw [Bool.eq_iff_iff]; simp
          have t3 : ((i : Int) == (m : Int) - 1) = decide (i + 1 = m) := by rw [Bool.eq_iff_iff]; simp; omega
          have HOR := Lib.hid (show decide (i = 0 ∨ i + 1 = m) = (decide (i = 0) || decide (i + 1 = m)) by rw [Bool.eq_iff_iff]; simp)
          rw [HOR.out] at HEND
          clear HOR
          generalize hd1 : decide (i = 0) = d1 at *
          generalize hd3 : decide (i + 1 = m) = d3 at *
          generalize hd4 : decide (yi < f) = d4 at *
          clear hd1 hd3
          by_cases he : (d1 || d3) = d4
          · have HEN := Lib.hid (show endAt f xs i = true by rw [HEND.out, he]; simp)
            obtain ⟨wo, rfl⟩ : ∃ wo : World, wo = wr := ⟨_, rfl⟩
            clear HEND
            cases d1 <;> cases d3 <;> cases d4 <;> simp at he
            all_goals
              go_wp2_with fail
              clear hcell t1 t3 t4 hd4 hb1
              go_loopw [75] (fun jv wr => ∃ (j : Nat), jv = .int .i64 j ∧ j ≤ i ∧ Hid (stepAt R xs i j = true ∧ Below w3.heap.size w3 wr)) (fun jv _ => i - (intOf jv).toNat)
              case atStart => exact ⟨0, rfl, Nat.zero_le _, Lib.hid ⟨rfl, HI.out.2⟩⟩
              case round =>
                obtain ⟨j, rfl, hj, HJ⟩ := hrel
                by_cases hji : j < i
                · obtain ⟨yj, hyj, hyjn⟩ := ok_nat HKL.out (show j < xs.length by have := HML.out; omega)
                  obtain ⟨ad', e', hb1', hcell⟩ := (HX.out.new (bthen HB3.out HJ.out.2 HB3.out.size)).at_ (show j < m by omega)
                  injection e' with e'
                  subst e'
                  rw [hyj] at hcell
                  have HYJ := Lib.hid hyj; clear hyj
                  have cr : wr.cell? ⟨g3, yi, none⟩ = some (.int .u32 (nth R yi : Int)) := by rw [(HR3.out.below HJ.out.2 HR3.out.lt).cell, urow_get (by omega)]
                  have hR32 := HR32.out yi
                  have HLK := Lib.hid (show (nth R yi).testBit yj = linkL R xs i j by rw [linkL, HYI.out, HYJ.out]; rfl)
                  have hbit := bit_one9 (nth R yi) yj hR32
                  generalize (nth R yi).testBit yj = lb at *
                  have i1 : (0 : Int) ≤ (yi : Int) := by omega
                  have i2 : (yi : Int) < 32 := by omega
                  have i3 : (0 : Int) ≤ (yj : Int) := by omega
                  have i4 : (yj : Int) < 32 := by omega
                  have i5 : (0 : Int) ≤ (j : Int) := by omega
                  have i6 : (j : Int) < (m : Int) := by omega
                  have t1 : ((j : Int) == (i : Int) - 1) = decide (j + 1 = i) := by rw [Bool.eq_iff_iff]; simp; omega
                  have HBAD := Lib.hid (fun (h : (lb == decide (j + 1 = i)) = false) => show chkW (adjRow n es) n f xs = false from way_bad HILT.out (by rw [← HRE.out, step_bad hji (by rw [← HLK.out]; exact h)]; simp))
                  have HNX := Lib.hid (fun (h : (lb == decide (j + 1 = i)) = true) => show stepAt R xs i (j + 1) = true by rw [stepAt_succ, HJ.out.1, ← HLK.out, h]; rfl)
                  generalize hdd : decide (j + 1 = i) = d5 at *
                  clear hdd HLK
                  go_wp2_with fail
                  go_quiet (fail)
                  cases lb <;> cases d5
                  · have HN := Lib.hid (HNX.out rfl)
                    go_wp2_with fail
                    exact ⟨⟨j + 1, by go_num, by omega, Lib.hid ⟨HN.out, below_drewN HJ.out.2 _⟩⟩, by simp [intOf]; omega⟩
                  · have HF := Lib.hid (HBAD.out rfl)
                    go_wp2_with fail
                    go_ret
                    exact ⟨ret_bool9 HF.out, bthen HB3.out (below_drewN HJ.out.2 _) HB3.out.size⟩
                  · have HF := Lib.hid (HBAD.out rfl)
                    go_wp2_with fail
                    go_ret
                    exact ⟨ret_bool9 HF.out, bthen HB3.out (below_drewN HJ.out.2 _) HB3.out.size⟩
                  · have HN := Lib.hid (HNX.out rfl)
                    go_wp2_with fail
                    exact ⟨⟨j + 1, by go_num, by omega, Lib.hid ⟨HN.out, below_drewN HJ.out.2 _⟩⟩, by simp [intOf]; omega⟩
                · obtain rfl : j = i := by omega
                  have HW5 := Lib.hid (show wayTo R f xs (j + 1) = true by rw [wayTo_succ, HI.out.1, HEN.out, HJ.out.1]; rfl)
                  go_wp2_with fail
                  exact ⟨⟨j + 1, by go_num, by omega, Lib.hid ⟨HW5.out, HJ.out.2⟩⟩, by simp [intOf]; omega⟩
          · have HF := Lib.hid (show chkW (adjRow n es) n f xs = false from way_bad HILT.out (by rw [← HRE.out, HEND.out]; cases d1 <;> cases d3 <;> cases d4 <;> simp at he ⊢))
            cases d1 <;> cases d3 <;> cases d4 <;> simp at he
            all_goals
              go_wp2_with fail
              go_ret
              exact ⟨ret_bool9 HF.out, bthen HB3.out HI.out.2 HB3.out.size⟩
        · obtain rfl : m = i := by omega
          have HF := Lib.hid (show chkW (adjRow n es) n f xs = true by
            rw [← HRE.out, chkW, HKL.out, decide_eq_true (by have := HML.out; omega), ← HML.out, HI.out.1]; rfl)
          go_wp2_with fail
          go_ret
          exact ⟨ret_bool9 HF.out, bthen HB3.out HI.out.2 HB3.out.size⟩
end Go.Proofs.YtjofdlafblpclaaDoor
namespace Go.Proofs.YtjofdlafblpclaaDoor
open Go.RowKit
set_option linter.unusedSimpArgs false
set_option linter.unusedVariables false

theorem code_ok {n : Nat} {es : List Nat} (hn : n ≤ 32) (hl : es.length ≤ 64) (hb : ∀ e ∈ es, e < 2 ^ n) : checkCode n es = 0 := by
  unfold checkCode
  rw [if_neg (by omega), if_neg (by omega), if_pos (List.all_eq_true.2 fun e he => by simpa using hb e he)]
theorem below_pow {n f : Nat} (h : f ≤ n) : 2 ^ f - 1 < 2 ^ n := by
  have := pow2_pos f
  have := two_pow_le h
  omega
theorem bound_snoc {n f : Nat} {es : List Nat} (h : f ≤ n) (hb : ∀ e ∈ es, e < 2 ^ n) : ∀ e ∈ es ++ [2 ^ f - 1], e < 2 ^ n := by
  intro e he
  rw [List.mem_append, List.mem_singleton] at he
  rcases he with h1 | rfl
  · exact hb e h1
  · exact below_pow h
theorem Es.of_rowU {w : World} {base : Nat} {v : Value} {L : List Nat} (h : w.ownsRow base 42 1 v L.length (U32 L)) (hb : ∀ e ∈ L, e < 4294967296) : ∃ A c, v = .slice A L.length c ∧ Es w w.heap.size A L.length L := by
  obtain ⟨A, c, rfl⟩ := own_form h
  exact ⟨A, c, rfl, Reads.of_own h, ⟨rfl, own_le h⟩, hb⟩
/-- Connex: acyclic, and acyclic with the edge of the free vertices. -/
def FreeCon (n : Nat) (es : List Nat) (f : Nat) : Prop := Acyc n es ∧ Acyc n (es ++ [2 ^ f - 1])
def ConRet (n : Nat) (es : List Nat) (f : Nat) (w : World) (e : Ending) (w' : World) : Prop := ∃ b : Bool, (b = true ↔ FreeCon n es f) ∧ e = .returned (.tuple #[.bool b, .int .i64 0]) ∧ Below w.heap.size w w'
set_option maxRecDepth 100000 in
set_option maxHeartbeats 2000000 in
theorem connex_ok (n f : Nat) (A : Option Addr) (es : List Nat) (len c : Nat) (w : World) (hr : Es w w.heap.size A len es) (hcc : checkCode n es = 0) (hf : f ≤ n) (hl : len ≤ 60) :
    Calls Tryd.prog 12 #[.agg #[.int .i64 n, .slice A len c], .int .i64 f] w (ConRet n es f w) := by
  obtain ⟨_, hn, _, hes⟩ := checkCode_zero hcc
  have hn' : n ≤ 32 := by omega
  have hes' : ∀ e ∈ es, e < 2 ^ n := by simpa using hes
  have HES := Lib.hid hes'; clear hes hes' hn
  have HLE := Lib.hid hr.len
  have HR := Lib.hid hr; clear hr
  have HC := Lib.hid hcc; clear hcc
  have HFC := Lib.hid (show freeCode n es f = 0 by rw [freeCode, if_pos HC.out, if_neg (by omega)])
  have HG := Lib.hid (GB.made w 24 (.int .i64 n) (.slice A len c))
  have HW := Lib.hid (al w (.cells #[.int .i64 n, .slice A len c] 24))
  go_enter Tryd.func12, Tryd.ntmps12
  go_wp2_with fail
  refine (checkFree_any n A es len c f _ (HR.out.new HW.out)).mono ?_
  rintro e w1 ⟨rfl, hb⟩
  rw [HFC.out]
  replace HG := Lib.hid (HG.out.new hb)
  have HB := Lib.hid (bthen HW.out hb (by simp)); clear hb HW
  have g0 := HG.out.c0; have g1 := HG.out.c1; have gl := HG.out.lt
  go_wp2_with fail
  refine (acyclic_ok n A es len c _ (HR.out.new HB.out) HC.out).mono ?_
  rintro e w2 ⟨b, hb0, rfl, hb⟩
  have HAC := Lib.hid hb0; clear hb0
  replace HG := Lib.hid (HG.out.new hb)
  replace HB := Lib.hid (bthen HB.out hb HB.out.size); clear hb g0 g1 gl
  have g0 := HG.out.c0; have g1 := HG.out.c1; have gl := HG.out.lt
  cases b with
  | false =>
    have HF := Lib.hid (show (false = true ↔ FreeCon n es f) from ⟨fun h => (by cases h), fun h => absurd (HAC.out.2 h.1) (by simp)⟩)
    go_wp2_with fail
    go_ret2
    exact ⟨false, HF.out, rfl, HB.out⟩
  | true =>
    go_wp2_with fail
    refine (cxext_any n A es len c f _ (HR.out.new HB.out) (by omega) (by omega)).mono ?_
    rintro e w3 ⟨v, u, rfl, hown, _, hb⟩
    have hbd : ∀ e ∈ keptE es ++ [2 ^ f - 1], e < 2 ^ n := bound_snoc hf fun e he => HES.out e (keptE_mem e he)
    have hkl := keptE_len (es := es)
    have hacc : checkCode n (keptE es ++ [2 ^ f - 1]) = 0 := code_ok hn' (by simp; have := HLE.out; omega) hbd
    obtain ⟨A2, c2, rfl, hx⟩ := Es.of_rowU hown (fun e he => Nat.lt_of_lt_of_le (hbd e he) (Nat.le_trans (two_pow_le hn') (by decide)))
    have HX := Lib.hid hx
    have HAK := Lib.hid (acyc_kept hn' HES.out (below_pow hf))
    have HACC := Lib.hid hacc
    replace HB := Lib.hid (bthen HB.out hb HB.out.size); clear hb hx hown hbd hacc hkl g0 g1 gl
    generalize keptE es ++ [2 ^ f - 1] = L at *
    go_wp2_with fail
    refine (acyclic_ok n A2 L L.length c2 _ (HX.out.new (al _ _)) HACC.out).mono ?_
    rintro e w4 ⟨b, hb0, rfl, hb⟩
    have hb' := bthen (al w3 (.cells #[.int .i64 n, .slice A2 L.length c2] 24)) hb (by simp)
    replace HB := Lib.hid (bthen HB.out hb' HB.out.size)
    have HF := Lib.hid (show (b = true ↔ FreeCon n es f) by rw [hb0, HAK.out]; exact ⟨fun h => ⟨HAC.out.1 (by simp), h⟩, fun h => h.2⟩)
    clear hb hb' hb0
    go_wp2_with fail
    go_ret2
    exact ⟨b, HF.out, rfl, HB.out⟩
set_option maxHeartbeats 1000000 in
theorem connex_bad (n f : Int) (A : Option Addr) (es : List Nat) (len c : Nat) (w : World) (hr : Es w w.heap.size A len es) (hfc : freeCode n es f ≠ 0) :
    Calls Tryd.prog 12 #[.agg #[.int .i64 n, .slice A len c], .int .i64 f] w fun e w' => e = .returned (.tuple #[.bool false, .int .i64 (freeCode n es f)]) ∧ Below w.heap.size w w' := by
  have HR := Lib.hid hr; clear hr
  have HW := Lib.hid (al w (.cells #[.int .i64 n, .slice A len c] 24))
  go_enter Tryd.func12, Tryd.ntmps12
  go_wp2_with fail
  refine (checkFree_any n A es len c f _ (HR.out.new HW.out)).mono ?_
  rintro e w1 ⟨rfl, hb⟩
  obtain ⟨fc, hfe⟩ : ∃ x, x = freeCode n es f := ⟨_, rfl⟩
  rw [← hfe] at hfc ⊢
  have HFE := Lib.hid hfe; clear hfe
  have t0 : (fc != 0) = true := by simpa using hfc
  have HB := Lib.hid (bthen HW.out hb (by simp)); clear hb HW hfc
  go_wp2_with fail
  go_ret2
  exact ⟨by rw [← HFE.out]; rfl, HB.out⟩
def ExtRet (n : Int) (L : List Nat) (w : World) (e : Ending) (w' : World) : Prop := ∃ v, e = .returned (.agg #[.int .i64 n, v]) ∧ w'.ownsRow w.heap.size 42 1 v L.length (U32 L) ∧ Below w.heap.size w w'
set_option maxRecDepth 100000 in
set_option maxHeartbeats 4000000 in
theorem lext_any (n : Int) (f : Nat) (A : Option Addr) (es : List Nat) (len c : Nat) (w : World) (hr : Es w w.heap.size A len es) (hf : f ≤ 32) (hl : len ≤ 70) :
    Calls Tryd.prog 15 #[.agg #[.int .i64 n, .slice A len c], .int .i64 f] w (ExtRet n (es ++ [2 ^ f - 1]) w) := by
  have hlen := hr.len
  subst hlen
  have HR := Lib.hid hr; clear hr
  have hg0 := (GB.made w 24 (.int .i64 n) (.slice A es.length c)).alloc (.cells #[.int .i64 0, .slice none 0 0] 24)
  have hg1 : GB ((w.alloc (.cells #[.int .i64 n, .slice A es.length c] 24)).alloc (.cells #[.int .i64 0, .slice none 0 0] 24)) (w.heap.size + 1) 24 (.int .i64 0) (.slice none 0 0) := by
    simpa using GB.made (w.alloc (.cells #[.int .i64 n, .slice A es.length c] 24)) 24 (.int .i64 0) (.slice none 0 0)
  have H0 := Lib.hid hg0; have H1 := Lib.hid hg1
  have HB := Lib.hid (show Below w.heap.size w ((w.alloc (.cells #[.int .i64 n, .slice A es.length c] 24)).alloc (.cells #[.int .i64 0, .slice none 0 0] 24)) from bthen (al w _) (al _ _) (by simp))
  have hsz : w.heap.size + 2 = ((w.alloc (.cells #[.int .i64 n, .slice A es.length c] 24)).alloc (.cells #[.int .i64 0, .slice none 0 0] 24)).heap.size := by simp
  have e1 : IntKind.u32.wrap (IntKind.u32.wrap (2 ^ f) - 1) = ((2 ^ f - 1 : Nat) : Int) := by
    have h3 := pow2_pos f
    have hw : ∀ x : Int, IntKind.u32.wrap x = x % 4294967296 := fun x => by simp [IntKind.wrap, IntKind.bits, IntKind.signed]
    rw [hw, hw]
    by_cases h : f = 32
    · subst h; decide
    · have h2 : (2 : Nat) ^ f < 4294967296 := pow2_lt32 (by omega)
      have e3 : ((2 : Int) ^ f) = ((2 ^ f : Nat) : Int) := by simp
      rw [e3]; omega
  clear hg0 hg1
  go_enter Tryd.func15, Tryd.ntmps15
  go_upto_region 1 with (fail)
  generalize ((w.alloc (.cells #[.int .i64 n, .slice A es.length c] 24)).alloc (.cells #[.int .i64 0, .slice none 0 0] 24)) = W0 at *
  have c0 := H0.out.c0; have c1 := H0.out.c1; have d0 := H1.out.c0; have d1 := H1.out.c1; have f0 := H1.out.f0; have f1 := H1.out.f1; have l4 := H1.out.lt; have l2 := H0.out.lt
  have HE := Lib.hid (HR.out.new HB.out)
  have j0 : (0 : Int) ≤ (f : Int) := by omega
  have hsz2 : w.heap.size + 1 ≤ W0.heap.size := by omega
  have hle2 : es.length ≤ 1000000 := by omega
  have hD : Below W0.heap.size W0 W0.drew := Below.drew (Below.refl _ _)
  have HD := Lib.hid hD; clear hD
  have HDA := Lib.hid (show Below W0.heap.size W0 (W0.drew.alloc (.cells #[.int .u32 ((2 ^ f - 1 : Nat) : Int)] 42)) from (Below.drew (Below.refl _ _)).alloc (Nat.le_refl _) _)
  have HBK := Lib.hid (show Blk (W0.drew.alloc (.cells #[.int .u32 ((2 ^ f - 1 : Nat) : Int)] 42)) W0.heap.size 42 #[.int .u32 ((2 ^ f - 1 : Nat) : Int)] from Blk.new W0.drew _ _)
  go_region_held3 (fun w' => (w'.cell? ⟨w.heap.size, 0, none⟩ = some (.int .i64 n) ∧ w'.cell? ⟨w.heap.size, 1, none⟩ = some (.slice A es.length c)) ∧ Below (w.heap.size + 1) W0 w')
    ((refine keepG4 H0.out (Nat.lt_succ_self _) ?_; first | exact (Hid.out HBA) | exact (Hid.out HBA).setCell (p := ⟨w.heap.size + 1, 1, none⟩) (Nat.le_refl _) _ | exact ((Hid.out HBA).setCell (p := ⟨w.heap.size + 1, 0, none⟩) (Nat.le_refl _) _).setCell (p := ⟨w.heap.size + 1, 1, none⟩) (Nat.le_refl _) _ | exact (Hid.out HBC).mono hsz2 | exact ((Hid.out HBC).alloc (Hid.out HBC).size _).mono hsz2 | exact (Hid.out HDA).mono hsz2 | exact (Hid.out HD).mono hsz2))
    (first
    | ((refine step_app_u32c rfl _ _ rfl W0.heap.size (.slice A5 es.length c5) es rfl (World.ownsRow.alloc HO5.out _) w5.heap.size (2 ^ f - 1) rfl (Blk.new _ _ _) hle2 (by have := HBC.out.size; simp; omega) ?_; intro v' w7 hown' hgr hor; obtain ⟨A7, c7, rfl⟩ := own_form hown'; have HO7 := Lib.hid hown'; have HBA := Lib.hid (show Below (w.heap.size + 1) W0 w7 from (Below.appended (HBC.out.alloc HBC.out.size _) (World.ownsRow.alloc HO5.out _) hgr (by have := HBC.out.size; simp; omega) (Nat.le_refl _)).mono hsz2); have h7 := GB.appended ((H1.out.new HBC.out).alloc _) (World.ownsRow.alloc HO5.out _) hgr (by decide); have d0 := h7.c0; have d1 := h7.c1; have f0 := h7.f0; have f1 := h7.f1; have l7 := h7.lt; have H7 := Lib.hid h7; clear hown' hgr hor h7))
    | ((refine step_app_u32c rfl _ _ rfl W0.heap.size (.slice A5 es.length c5) es rfl HO5.out W0.heap.size (2 ^ f - 1) rfl HK5.out hle2 (by have := HBC.out.size; omega) ?_; intro v' w7 hown' hgr hor; obtain ⟨A7, c7, rfl⟩ := own_form hown'; have HO7 := Lib.hid hown'; have HBA := Lib.hid (show Below (w.heap.size + 1) W0 w7 from (Below.appended HBC.out HO5.out hgr HBC.out.size (Nat.le_refl _)).mono hsz2); have h7 := GB.appended (H1.out.new HBC.out) HO5.out hgr (by decide); have d0 := h7.c0; have d1 := h7.c1; have f0 := h7.f0; have f1 := h7.f1; have l7 := h7.lt; have H7 := Lib.hid h7; clear hown' hgr hor h7))
    | (go_at_call 31; refine (clone_u32 A es es.length c W0.drew (HE.out.new HD.out) hle2).mono ?_; rintro e w5 ⟨A5, c5, rfl, hown, hb⟩; have HO5 := Lib.hid (own_lower (base' := W0.heap.size) hown (Nat.le_refl _)); have HBC := Lib.hid (bthen HD.out hb HD.out.size); clear hown hb)
    | (go_at_call 31; refine (clone_u32 A es es.length c (W0.drew.alloc (.cells #[.int .u32 ((2 ^ f - 1 : Nat) : Int)] 42)) (HE.out.new HDA.out) hle2).mono ?_; rintro e w5 ⟨A5, c5, rfl, hown, hb⟩; have HO5 := Lib.hid (own_lower (base' := W0.heap.size) hown HDA.out.size); have HBC := Lib.hid (bthen HDA.out hb HDA.out.size); have HK5 := Lib.hid (HBK.out.below hb HBK.out.lt); clear hown hb))
  all_goals
    have HB7 := Lib.hid (show Below w.heap.size w w7 from HB.out.trans (HBA.out.mono (Nat.le_succ _)))
    go_wp2_with fail
    have hl9 : (es ++ [(2 ^ f - 1 : Nat)] : List Nat).length = es.length + 1 := by simp
    have h9 := HO7.out
    rw [hl9] at h9
    refine bodyPost_ret (v := .agg #[.int .i64 n, .slice A7 (es.length + 1) c7]) ?_ rfl ⟨.slice A7 (es.length + 1) c7, rfl, ?_, two_below HB7.out (by omega) _ _⟩
    · exact results_cell_row Tryd.results15 _ _ _ _ _ (0, 0) _ rfl ((H7.out.set0 (.int .i64 n)).set1 (.slice A7 (es.length + 1) c7)).blk Tryd.underlying24 rfl (graph_size _ _)
    · rw [hl9]
      exact own_lower (own_far (own_far h9 H7.out.blk (by decide) 0 _) (H7.out.set0 _).blk (by decide) 1 _) (by omega)
end Go.Proofs.YtjofdlafblpclaaDoor
namespace Go.Proofs.YtjofdlafblpclaaDoor
open Go.RowKit

end Go.Proofs.YtjofdlafblpclaaDoor
namespace Go.Proofs.YtjofdlafblpclaaDoor
open Go.RowKit

end Go.Proofs.YtjofdlafblpclaaDoor
namespace Go.Proofs.YtjofdlafblpclaaDoor
open Go.RowKit

/-- How two numbers compare. -/
def cmpI (x y : Int) : Int := if x < y then -1 else if y < x then 1 else 0
end Go.Proofs.YtjofdlafblpclaaDoor
namespace Go.Proofs.YtjofdlafblpclaaDoor
open Go.RowKit

/-- How two lists compare. -/
def cmpL : List Int → List Int → Int
  | [], [] => 0
  | [], _ :: _ => -1
  | _ :: _, [] => 1
  | x :: xs, y :: ys => if x < y then -1 else if y < x then 1 else cmpL xs ys
theorem drop_inth {l : List Int} {k : Nat} (h : k < l.length) : l.drop k = inth l k :: l.drop (k + 1) := by
  rw [inth_eq h]; exact List.drop_eq_getElem_cons h
theorem cmpL_step {xs ys : List Int} {k : Nat} (h1 : k < xs.length) (h2 : k < ys.length) : cmpL (xs.drop k) (ys.drop k) = if cmpI (inth xs k) (inth ys k) = 0 then cmpL (xs.drop (k + 1)) (ys.drop (k + 1)) else cmpI (inth xs k) (inth ys k) := by
  rw [drop_inth h1, drop_inth h2]
  unfold cmpI
  rw [cmpL]
  by_cases ha : inth xs k < inth ys k
  · simp [ha]
  · by_cases hb : inth ys k < inth xs k
    · simp [ha, hb]
    · simp [ha, hb]
theorem cmpL_long {xs ys : List Int} {k : Nat} (h1 : k < xs.length) (h2 : ys.length ≤ k) : cmpL (xs.drop k) (ys.drop k) = 1 := by
  rw [drop_inth h1, List.drop_of_length_le h2]; rfl
theorem cmpL_short {xs ys : List Int} {k : Nat} (h1 : xs.length ≤ k) (h2 : k < ys.length) : cmpL (xs.drop k) (ys.drop k) = -1 := by
  rw [drop_inth h2, List.drop_of_length_le h1]; rfl
theorem cmpL_both {xs ys : List Int} {k : Nat} (h1 : xs.length ≤ k) (h2 : ys.length ≤ k) : cmpL (xs.drop k) (ys.drop k) = 0 := by
  rw [List.drop_of_length_le h1, List.drop_of_length_le h2]; rfl

end Go.Proofs.YtjofdlafblpclaaDoor
namespace Go.Proofs.YtjofdlafblpclaaDoor
open Go.RowKit
set_option maxHeartbeats 2000000 in
theorem equal_int (A B : Option Addr) (xs ys : List Int) (n m c d : Nat) (w : World) (hx : Xs w w.heap.size A n xs) (hy : Xs w w.heap.size B m ys) :
    Calls Tryd.prog 18 #[.slice A n c, .slice B m d] w fun e w' => e = .returned (.bool (xs == ys)) ∧ Below w.heap.size w w' := by
  have hle := hx.le
  have hle2 := hy.le
  have HX := Lib.hid hx; clear hx
  have HY := Lib.hid hy; clear hy
  by_cases hnm : n = m
  · have hbq : ((n : Int) != (m : Int)) = false := by simp [hnm]
    have hm := Lib.hid hnm; clear hnm
    go_enter Tryd.func18, Tryd.ntmps18
    go_wp2_with fail
    go_loopw [5, 13] (fun _ i wr => ∃ k : Nat, k ≤ n ∧ i = .int .i64 k ∧ xs.take k = ys.take k ∧ Below w.heap.size w wr) (fun _ i _ => n - (intOf i).toNat)
    case atStart => exact ⟨0, Nat.zero_le _, rfl, rfl, Below.refl _ _⟩
    case round =>
      obtain ⟨k, hk, rfl, ha, hbl⟩ := hrel
      have HA := Lib.hid ha; clear ha
      by_cases hlt : k < n
      · have hlt2 : k < m := by have := hm.out; omega
        obtain ⟨ad, rfl, hb1, hcell⟩ := (HX.out.below hbl).at_ hlt
        obtain ⟨ad2, rfl, hb2, hcell2⟩ := (HY.out.below hbl).at_ hlt2
        go_wp2_with fail
        go_quiet (fail)
        go_wp2_with fail
        · go_ret
          have ht : ((inth xs k : Int) != (inth ys k : Int)) = true := by assumption
          refine ⟨ret_bool ?_, below_drewN hbl _⟩
          have : xs ≠ ys := by
            rintro rfl
            simp at ht
          simp [this]
        · have ht : ((inth xs k : Int) != (inth ys k : Int)) = false := by assumption
          refine ⟨⟨k + 1, by omega, by go_num, ?_, below_drewN hbl _⟩, by simp [intOf]; omega⟩
          have h1 := HX.out.len
          have h2 := HY.out.len
          rw [List.take_succ_eq_append_getElem (by omega), List.take_succ_eq_append_getElem (by omega), HA.out, ← inth_eq (by omega), ← inth_eq (by omega)]
          have : inth xs k = inth ys k := by
            simp at ht
            omega
          rw [this]
      · go_wp2_with fail
        go_ret
        refine ⟨ret_bool ?_, hbl⟩
        have h1 := HX.out.len
        have h2 := HY.out.len
        have h3 := HA.out
        have h4 := hm.out
        rw [List.take_of_length_le (by omega), List.take_of_length_le (by omega)] at h3
        simp [h3]
  · have hbq : ((n : Int) != (m : Int)) = true := by simp; omega
    go_enter Tryd.func18, Tryd.ntmps18
    go_wp2_with fail
    go_ret
    refine ⟨ret_bool ?_, Below.refl _ _⟩
    have h1 := HX.out.len
    have h2 := HY.out.len
    have : xs ≠ ys := by
      rintro rfl
      omega
    simp [this]

end Go.Proofs.YtjofdlafblpclaaDoor
namespace Go.Proofs.YtjofdlafblpclaaDoor

theorem aw1 : checkCode (3 : Nat) [5, 6] = 0 := by decide
theorem aw2 : Acyc 3 [5, 6] := by
  have h0 : Run 3 [5, 6] (List.replicate 2 false) [] [5, 6] [false, false] := .nil
  have h1 := h0.iso (absN_spec (by decide +kernel)) (isoT_spec (e := 0) (v := 0) (by decide +kernel))
  have h2 := h1.abs (absT_spec (e := 0) (f := 1) (by decide +kernel))
  have h3 := h2.iso (absN_spec (by decide +kernel)) (isoT_spec (e := 1) (v := 1) (by decide +kernel))
  have h4 := h3.iso (absN_spec (by decide +kernel)) (isoT_spec (e := 1) (v := 2) (by decide +kernel))
  exact ⟨_, _, _, h4, ⟨absN_spec (by decide +kernel), isoN_spec (by decide +kernel)⟩, by decide⟩
theorem aw3 : Acyc 3 [5, 6, 1] := by
  have h0 : Run 3 [5, 6, 1] (List.replicate 3 false) [] [5, 6, 1] [false, false, false] := .nil
  have h9 := h0.abs (absT_spec (e := 2) (f := 0) (by decide +kernel))
  have h1 := h9.iso (absN_spec (by decide +kernel)) (isoT_spec (e := 0) (v := 0) (by decide +kernel))
  have h2 := h1.abs (absT_spec (e := 0) (f := 1) (by decide +kernel))
  have h3 := h2.iso (absN_spec (by decide +kernel)) (isoT_spec (e := 1) (v := 1) (by decide +kernel))
  have h4 := h3.iso (absN_spec (by decide +kernel)) (isoT_spec (e := 1) (v := 2) (by decide +kernel))
  exact ⟨_, _, _, h4, ⟨absN_spec (by decide +kernel), isoN_spec (by decide +kernel)⟩, by decide⟩
theorem aw4 : ¬ Acyc 3 [5, 6, 3] := by
  rintro ⟨l, r, g, h1, h2, h3⟩
  have h0 : Run 3 [5, 6, 3] (List.replicate 3 false) [] [5, 6, 3] [false, false, false] := .nil
  obtain ⟨_, rfl, _⟩ := Run.final h1 h2 h0 ⟨absN_spec (by decide +kernel), isoN_spec (by decide +kernel)⟩
  exact absurd (h3 5 (by simp)) (by decide)
theorem aw5 : FreeCon 3 [5, 6] 1 := ⟨aw2, aw3⟩
theorem aw6 : ¬ FreeCon 3 [5, 6] 2 := fun h => aw4 h.2
theorem aw7 : pathF 3 [5, 6] 2 = some [0, 2, 1] := by decide +kernel
theorem aw8 : chkW (adjRow 3 [5, 6]) 3 2 [0, 2, 1] = true := by decide +kernel
end Go.Proofs.YtjofdlafblpclaaDoor
namespace Go.Proofs.YtjofdlafblpclaaDoor
open Go.RowKit
set_option linter.unusedSimpArgs false
set_option linter.unusedVariables false

theorem own_some9 {w : World} {base : Nat} {e : TypeId} {n : Nat} {v : Value} {xs : List Value} (h : w.ownsRow base e 1 v n xs) (hn : 0 < n) : ∃ g c, v = .slice (some ⟨g, 0, none⟩) n c ∧ base ≤ g := by
  rcases h.2 with ⟨_, h0⟩ | ⟨g, cap, cur, rfl, h1, _⟩
  · omega
  · exact ⟨g, cap, rfl, h1⟩
theorem Xs.of_own9 {w : World} {base c n : Nat} {A : Option Addr} {e : TypeId} {l : List Nat} (hn : n ≤ 32) (hl : ∀ x ∈ l, x < n) (h : w.ownsRow base e 1 (.slice A l.length c) l.length (I64 (ints l))) : Xs w w.heap.size A l.length (ints l) := by
  obtain ⟨A', c', e1, hx⟩ := Xs.of_own (L := ints l) h (fun x hx => by
    simp only [ints, List.mem_map] at hx
    obtain ⟨y, hy, rfl⟩ := hx
    have := hl y hy
    omega)
  injection e1 with e2 _ _
  rw [e2]; exact hx
set_option maxRecDepth 100000 in
set_option maxHeartbeats 8000000 in
theorem awake31_any (w : World) (hG0 : GTab w) : Calls Tryd.prog 11 #[] w fun e w' => e = .returned (.bool true) ∧ Below w.heap.size w w' := by
  have HGT := Lib.hid hG0; clear hG0
  go_enter Tryd.func11, Tryd.ntmps11
  go_wp2_with fail
  have hE : Es ((w.alloc (.cells #[.int .u32 5, .int .u32 6] 42)).alloc (.cells #[.int .i64 3, .slice (some ⟨w.heap.size, 0, none⟩) 2 2] 24)) ((w.alloc (.cells #[.int .u32 5, .int .u32 6] 42)).alloc (.cells #[.int .i64 3, .slice (some ⟨w.heap.size, 0, none⟩) 2 2] 24)).heap.size (some ⟨w.heap.size, 0, none⟩) 2 [5, 6] :=
    Es.of_blk (l := [5, 6]) (Blk.alloc (Blk.new w 42 (urow [5, 6])) _) (by decide) (by decide)
  have hG : GB ((w.alloc (.cells #[.int .u32 5, .int .u32 6] 42)).alloc (.cells #[.int .i64 3, .slice (some ⟨w.heap.size, 0, none⟩) 2 2] 24)) (w.heap.size + 1) 24 (.int .i64 3) (.slice (some ⟨w.heap.size, 0, none⟩) 2 2) := by
    simpa using GB.made (w.alloc (.cells #[.int .u32 5, .int .u32 6] 42)) 24 (.int .i64 3) (.slice (some ⟨w.heap.size, 0, none⟩) 2 2)
  have hB : Below w.heap.size w ((w.alloc (.cells #[.int .u32 5, .int .u32 6] 42)).alloc (.cells #[.int .i64 3, .slice (some ⟨w.heap.size, 0, none⟩) 2 2] 24)) := bthen (al w _) (al _ _) (by simp)
  have HE := Lib.hid hE; have HG := Lib.hid hG; have HB := Lib.hid hB
  refine (connex_ok 3 2 _ [5, 6] 2 2 _ hE aw1 (by decide) (by decide)).mono ?_
  clear hE hG hB
  rintro e w1 ⟨b, hb0, rfl, hb⟩
  obtain rfl : b = false := by cases b with
    | false => rfl
    | true => exact absurd (hb0.1 rfl) aw6
  replace HE := Lib.hid (HE.out.new hb)
  replace HG := Lib.hid (HG.out.new hb)
  replace HB := Lib.hid (bthen HB.out hb HB.out.size)
  clear hb hb0
  have c0 := HG.out.c0; have c1' := HG.out.c1; have hgl := HG.out.lt
  go_wp2_with fail
  refine (connex_ok 3 1 _ [5, 6] 2 2 _ HE.out aw1 (by decide) (by decide)).mono ?_
  rintro e w2 ⟨b, hb0, rfl, hb⟩
  obtain rfl : b = true := hb0.2 aw5
  replace HE := Lib.hid (HE.out.new hb)
  replace HG := Lib.hid (HG.out.new hb)
  replace HB := Lib.hid (bthen HB.out hb HB.out.size)
  clear hb hb0 c0 c1' hgl
  have c0 := HG.out.c0; have c1' := HG.out.c1; have hgl := HG.out.lt
  go_wp2_with fail
  refine (path_ok 3 _ [5, 6] 2 2 2 _ HE.out aw1 (by decide) (HGT.out.new HB.out)).mono ?_
  rintro e w3 ⟨v3, rfl, hown3, _, hb⟩
  rw [aw7] at hown3 ⊢
  obtain ⟨g3, c3, rfl, hg3⟩ := own_some9 hown3 (by decide)
  replace HE := Lib.hid (HE.out.new hb)
  replace HG := Lib.hid (HG.out.new hb)
  replace HB := Lib.hid (bthen HB.out hb HB.out.size)
  have HO3 := Lib.hid hown3
  clear hb hown3 c0 c1' hgl
  have c0 := HG.out.c0; have c1' := HG.out.c1; have hgl := HG.out.lt
  go_wp2_with fail
  refine (equal_int _ _ [0, 2, 1] [0, 2, 1] 3 3 c3 3 _ (Xs.of_own9 (n := 32) (l := [0, 2, 1]) (Nat.le_refl _) (by decide) (World.ownsRow.alloc HO3.out _)) ?_).mono ?_
  · exact Xs.of_blk (l := [0, 2, 1]) (Blk.new w3 3 (irow [0, 2, 1])) (by decide) (by decide)
  rintro e w5 ⟨rfl, hb⟩
  rw [show (([0, 2, 1] : List Int) == [0, 2, 1]) = true from by decide]
  have hx := bthen (al w3 (.cells #[.int .i64 0, .int .i64 2, .int .i64 1] 3)) hb (by simp)
  replace HE := Lib.hid (HE.out.new hx)
  replace HG := Lib.hid (HG.out.new hx)
  replace HO3 := Lib.hid (own_below HO3.out hx)
  replace HB := Lib.hid (bthen HB.out hx HB.out.size)
  clear hx hb c0 c1' hgl
  have c0 := HG.out.c0; have c1' := HG.out.c1; have hgl := HG.out.lt
  go_wp2_with fail
  refine (chkp_ok 3 _ [5, 6] 2 2 2 _ [0, 2, 1] 3 c3 _ HE.out aw1 (by decide) (Xs.of_own9 (n := 32) (l := [0, 2, 1]) (Nat.le_refl _) (by decide) HO3.out)).mono ?_
  rintro e w6 ⟨rfl, hb⟩
  rw [aw8]
  replace HB := Lib.hid (bthen HB.out hb HB.out.size)
  clear hb
  go_wp2_with fail
  go_ret
  exact ⟨rfl, HB.out⟩
end Go.Proofs.YtjofdlafblpclaaDoor
