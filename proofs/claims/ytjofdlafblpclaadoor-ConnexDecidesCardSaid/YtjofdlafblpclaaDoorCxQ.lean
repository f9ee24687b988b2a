/-
  Contract of connex.Path.
-/
import Derived.Test.YtjofdlafblpclaaDoorCxH
namespace Go.Proofs.YtjofdlafblpclaaDoor
open Go.RowKit
set_option linter.unusedSimpArgs false
set_option linter.unusedVariables false

def innF (n f : Nat) : Nat := andn (2 ^ n - 1) (2 ^ f - 1)
def shF (n : Nat) (es : List Nat) (f : Nat) : Nat × (Nat → Nat) := shTo (adjRow n es) (innF n f) f f
def wayF (n : Nat) (es : List Nat) (f a : Nat) : List Nat := wkL (stg (adjRow n es) (innF n f) ((shF n es f).2 a)) (adjRow n es) (shF n es f).1 a (shF n es f).1
/-- connex.Path as a function. -/
def pathF (n : Nat) (es : List Nat) (f : Nat) : Option (List Nat) := ((List.range f).find? fun a => decide ((shF n es f).2 a ≠ 0)).map (wayF n es f)
def PathRet (o : Option (List Nat)) (w : World) (e : Ending) (w' : World) : Prop :=
  ∃ v, e = .returned (.tuple #[v, .bool o.isSome]) ∧ w'.ownsRow w.heap.size 3 1 v (o.getD []).length (I64 (ints (o.getD []))) ∧ (o = none → v = .slice none 0 0) ∧ Below w.heap.size w w'
theorem pathF_none {n : Nat} {es : List Nat} {f : Nat} (h : ∀ a, a < f → (shF n es f).2 a = 0) : pathF n es f = none := by
  unfold pathF
  rw [List.find?_eq_none.2 (fun x hx => by simp [h x (by simpa using hx)])]
  rfl
theorem pathF_some {n : Nat} {es : List Nat} {f a : Nat} (ha : a < f) (h : ∀ b, b < a → (shF n es f).2 b = 0) (h1 : (shF n es f).2 a ≠ 0) : pathF n es f = some (wayF n es f a) := by
  unfold pathF
  rw [List.find?_range_eq_some.2 ⟨by simpa using h1, by simpa using ha, fun j hj => by simp [h j hj]⟩]
  rfl
theorem below_lt9 {f : Nat} (hf : f ≤ 32) : 2 ^ f - 1 < 4294967296 := by
  have h2 : 2 ^ f ≤ 2 ^ 32 := two_pow_le hf
  have := pow2_pos f
  omega
theorem adjRow_lt9 {n : Nat} {es : List Nat} (hn : n ≤ 32) (hb : ∀ e ∈ es, e < 2 ^ n) : ∀ x ∈ adjRow n es, x < 4294967296 := fun x hx => by
  have h1 := adjRow_lt hb x hx
  have h2 : 2 ^ n ≤ 2 ^ 32 := two_pow_le hn
  omega
set_option maxRecDepth 100000 in
set_option maxHeartbeats 4000000 in
theorem path_bad (n : Int) (A : Option Addr) (es : List Nat) (len c : Nat) (f : Int) (w : World) (hr : Es w w.heap.size A len es) (hc : freeCode n es f ≠ 0) :
    Calls Tryd.prog 16 #[.agg #[.int .i64 n, .slice A len c], .int .i64 f] w (PathRet none w) := by
  have HR := Lib.hid hr; clear hr
  have HW := Lib.hid (al w (.cells #[.int .i64 n, .slice A len c] 24))
  have HG := Lib.hid (GB.made w 24 (.int .i64 n) (.slice A len c))
  have t0 : (freeCode n es f != 0) = true := by simp [hc]
  go_enter Tryd.func16, Tryd.ntmps16
  have g0 := HG.out.c0; have g1 := HG.out.c1; have lg := HG.out.lt
  go_wp2_with fail
  refine (checkFree_any n A es len c f _ (HR.out.new HW.out)).mono ?_
  rintro e w1 ⟨rfl, hb⟩
  have HB1 := Lib.hid (bthen HW.out hb (by simp))
  clear hb g0 g1 lg
  go_wp2_with fail
  go_ret2
  exact ⟨_, rfl, own_nil _ _ _, fun _ => rfl, HB1.out⟩
set_option maxRecDepth 100000 in
set_option maxHeartbeats 4000000 in
theorem path_ok (n : Nat) (A : Option Addr) (es : List Nat) (len c f : Nat) (w : World) (hr : Es w w.heap.size A len es) (hcc : checkCode n es = 0) (hfn : f ≤ n) (hG : GTab w) :
    Calls Tryd.prog 16 #[.agg #[.int .i64 n, .slice A len c], .int .i64 f] w (PathRet (pathF n es f) w) := by
  obtain ⟨_, hn, hnz, hlt⟩ := checkCode_zero hcc
  have hn' : n ≤ 32 := by omega
  have hfc : freeCode n es f = 0 := by unfold freeCode; rw [hcc]; simp; omega
  have HRL := Lib.hid (adjRow_lt9 hn' (es := es) hlt)
  have HSY := Lib.hid (symm_adj hn' (es := es) hlt)
  have HGT := Lib.hid hG; clear hG
  have HFC := Lib.hid hfc; have HC := Lib.hid hcc; clear hfc
  have HR := Lib.hid hr; clear hr
  have HW := Lib.hid (al w (.cells #[.int .i64 n, .slice A len c] 24))
  have HG := Lib.hid (GB.made w 24 (.int .i64 n) (.slice A len c))
  have ei : bits .andNot .u32 ((2 ^ n - 1 : Nat) : Int) ((2 ^ f - 1 : Nat) : Int) = ((innF n f : Nat) : Int) := bits_andNot _ _ (below_lt9 hn') (below_lt9 (by omega))
  have hil : innF n f < 4294967296 := Nat.lt_of_le_of_lt Nat.and_le_left (below_lt9 hn')
  clear hlt
  go_enter Tryd.func16, Tryd.ntmps16
  have g0 := HG.out.c0; have g1 := HG.out.c1; have lg := HG.out.lt
  go_wp2_with fail
  refine (checkFree_any n A es len c f _ (HR.out.new HW.out)).mono ?_
  rintro e w1 ⟨rfl, hb⟩
  rw [HFC.out]
  have HB1 := Lib.hid (bthen HW.out hb (by simp))
  have HG1 := Lib.hid (HG.out.new hb); clear hb g0 g1 lg
  have g0 := HG1.out.c0; have g1 := HG1.out.c1; have lg := HG1.out.lt
  go_wp2_with fail
  refine (cxadj_any n A es len c _ (HR.out.new HB1.out) HC.out).mono ?_
  rintro e w2 ⟨rfl, hb⟩
  have HB2 := Lib.hid (bthen HB1.out hb HB1.out.size)
  have HG2 := Lib.hid (HG1.out.new hb); clear hb g0 g1 lg
  have hZ := Blk.new w2 58 (urow (zer 32))
  have hA2 := al w2 (.cells (urow (zer 32)) 58)
  go_upto_region 4 with (refine wpList_store_blk rfl 58 (.tmp 6) (.tmp 16) rfl w2.heap.size _ _ (urow (adjRow n es)) hZ rfl rfl (by rw [size_urow, size_urow, adjRow_length, zer_length]) (arr_size (adjRow n es) (adjRow_length n es)) (one_urow (adjRow n es)) ?_; intro w3 hR3 hg3 hs3)
  have hb3 : Below w2.heap.size w2 w3 := hA2.grown hg3 hA2.size (fun k hk => by cases hk; exact Nat.le_refl _)
  have HG3 := Lib.hid (HG2.out.new hb3)
  have HB3 := Lib.hid (bthen HB2.out hb3 HB2.out.size)
  have HR3 := Lib.hid hR3
  generalize w2.heap.size = g3 at *
  clear hg3 hs3 hb3 hR3 hZ hA2
  have g0 := HG3.out.c0; have g1 := HG3.out.c1; have lg := HG3.out.lt
  go_wp2_with (first
    | (refine (cxbelow_any n hn' _).mono ?_; rintro e wz ⟨rfl, rfl⟩)
    | (refine (cxbelow_any f (by omega) _).mono ?_; rintro e wz ⟨rfl, rfl⟩)
    | (refine wpList_load_blk rfl 58 (.tmp 6) rfl g3 _ (urow (adjRow n es)) _ HR3.out rfl Tryd.underlying58 rfl (arr_size (adjRow n es) (adjRow_length n es)) ?_))
  refine (shortest_any (adjRow n es) (innF n f) f _ (adjRow_length n es) HRL.out hil (by omega)).mono ?_
  rintro e w4 ⟨b, m, rfl, hm, hbb, hb⟩
  rw [show shTo (adjRow n es) (innF n f) f f = shF n es f from rfl] at hm ⊢
  have HB4 := Lib.hid (bthen HB3.out hb HB3.out.size)
  have HR4 := Lib.hid (HR3.out.below hb HR3.out.lt)
  have HM := Lib.hid hm
  have HGT4 := Lib.hid (HGT.out.new HB4.out)
  clear hb hm g0 g1 lg hbb
  have HIN := Lib.hid (fun a (h : (shF n es f).2 a ≠ 0) => sh_inv (R := adjRow n es) (inn := innF n f) (f := f) f a h)
  have HL := Lib.hid (sh_le (R := adjRow n es) (inn := innF n f) (f := f) f)
  rw [show shTo (adjRow n es) (innF n f) f f = shF n es f from rfl] at HIN HL
  have hml : ∀ a, (shF n es f).2 a < 4294967296 := fun a => by
    by_cases h : (shF n es f).2 a = 0
    · omega
    · obtain ⟨_, k, _, _, h3⟩ := HIN.out a h
      rw [h3]; exact Nat.lt_of_le_of_lt Nat.and_le_left (orTo_lt9 HRL.out _ 32)
  go_wp2_with fail
  go_loopw [31] (fun iv wr => ∃ a : Nat, a ≤ f ∧ iv = .int .i64 a ∧ wr = w4 ∧ Hid (∀ j, j < a → (shF n es f).2 j = 0)) (fun iv _ => f - (intOf iv).toNat)
  case atStart => exact ⟨0, Nat.zero_le _, rfl, rfl, Lib.hid fun j hj => by omega⟩
  case round =>
    obtain ⟨a, ha, rfl, rfl, HJ⟩ := hrel
    by_cases haf : a < f
    · have hea := hml a
      by_cases h0 : (shF n es f).2 a = 0
      · have t0 : ((((shF n es f).2 a : Nat) : Int) != 0) = false := by simp [h0]
        have HJ2 := Lib.hid (show ∀ j, j < a + 1 → (shF n es f).2 j = 0 from fun j hj => by
          rcases Nat.lt_or_ge j a with h | h
          · exact HJ.out j h
          · obtain rfl : j = a := by omega
            exact h0)
        clear h0
        go_wp2_with (refine wp_map_get rfl _ _ rfl rfl HM.out a (by omega) rfl ?_)
        exact ⟨⟨a + 1, by omega, by go_num, trivial, HJ2⟩, by simp [intOf]; omega⟩
      · have t0 : ((((shF n es f).2 a : Nat) : Int) != 0) = true := by simp; omega
        obtain ⟨h1, k, h2, h3, h4⟩ := HIN.out a h0
        have hP := pathF_some haf HJ.out h0
        have hk : k < 33 := by have := List.mem_of_find?_eq_some h2; simpa using this
        have hW := fun w hw => walk_any (adjRow n es) (innF n f) a ((shF n es f).2 a) (shF n es f).1 w hw (adjRow_length n es) HRL.out hil (hml a) (by omega) (by omega) (by omega) (by
          rw [h3, h4]; exact walk_ok HRL.out HSY.out (by omega) (by rw [← h4]; exact h0))
        have HWK := Lib.hid hW; have HP := Lib.hid hP
        clear hW hP h0 h1 h2 h3 h4
        go_wp2_with (first
          | (refine wp_map_get rfl _ _ rfl rfl HM.out a (by omega) rfl ?_)
          | (refine wpList_load_blk rfl 58 (.tmp 6) rfl g3 _ (urow (adjRow n es)) _ HR4.out rfl Tryd.underlying58 rfl (arr_size (adjRow n es) (adjRow_length n es)) ?_)
          | (refine (HWK.out _ HGT4.out).mono ?_; rintro e w5 ⟨v5, rfl, hown5, hb5⟩))
        go_ret2
        rw [HP.out]
        have hle : ((some (wayF n es f a)).getD []).length = (shF n es f).1 + 1 := wkL_len _ _ _ _ _
        refine ⟨v5, rfl, ?_, (fun h => by cases h), bthen HB4.out hb5 HB4.out.size⟩
        rw [hle]
        exact own_lower hown5 HB4.out.size
    · obtain rfl : a = f := by omega
      have HP := Lib.hid (pathF_none HJ.out)
      go_wp2_with fail
      go_ret2
      rw [HP.out]
      exact ⟨_, rfl, own_nil _ _ _, fun _ => rfl, HB4.out⟩
end Go.Proofs.YtjofdlafblpclaaDoor
