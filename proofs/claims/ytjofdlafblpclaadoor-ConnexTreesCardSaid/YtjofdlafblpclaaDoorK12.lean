/-
Contract of connex.Tree.
Contracts of jointree.Separator, Check and Root (trees whose parents are a rooted tree).
-/
import Derived.Test.YtjofdlafblpclaaDoorK11
import Derived.Test.YtjofdlafblpclaaDoorK9
namespace Go.Proofs.YtjofdlafblpclaaDoor
open Go.RowKit
set_option linter.unusedSimpArgs false
set_option linter.unusedVariables false

/-- The boxes of the arguments and of the result. -/
def TrSt (w : World) (n : Int) (A : Option Addr) (len c : Nat) (wr : World) : Prop :=
  GB wr w.heap.size 24 (.int .i64 n) (.slice A len c) ∧ Blk wr (w.heap.size + 1) 44 #[.slice none 0 0] ∧ Below w.heap.size w wr ∧ w.heap.size + 2 ≤ wr.heap.size
theorem TrSt.start (w : World) (n : Int) (A : Option Addr) (len c : Nat) : TrSt w n A len c ((w.alloc (.cells #[.int .i64 n, .slice A len c] 24)).alloc (.cells #[.slice none 0 0] 44)) := by
  refine ⟨(GB.made _ _ _ _).alloc _, ?_, bthen (al w _) (al _ _) (by simp), by simp⟩
  have h := Blk.new (w.alloc (.cells #[.int .i64 n, .slice A len c] 24)) 44 #[Value.slice none 0 0]
  rwa [World.size_alloc] at h
theorem TrSt.new {w : World} {n : Int} {A : Option Addr} {len c : Nat} {wr w' : World} (h : TrSt w n A len c wr) (hb : Below wr.heap.size wr w') : TrSt w n A len c w' :=
  ⟨h.1.new hb, h.2.1.below hb h.2.1.lt, bthen h.2.2.1 hb h.2.2.1.size, Nat.le_trans h.2.2.2 hb.size⟩
set_option maxRecDepth 100000 in
set_option maxHeartbeats 2000000 in
theorem tree_bad (n f : Int) (A : Option Addr) (es : List Nat) (len c : Nat) (w : World) (hr : Es w w.heap.size A len es) (hfc : freeCode n es f ≠ 0) :
    Calls Tryd.prog 22 #[.agg #[.int .i64 n, .slice A len c], .int .i64 f] w fun e w' => e = .returned (.tuple #[.agg #[.slice none 0 0], .int .i64 (freeCode n es f)]) ∧ Below w.heap.size w w' := by
  have HR := Lib.hid hr; clear hr
  have H0 := Lib.hid (TrSt.start w n A len c)
  go_enter Tryd.func22, Tryd.ntmps22
  go_wp2_with fail
  generalize (w.alloc (.cells #[.int .i64 n, .slice A len c] 24)).alloc (.cells #[.slice none 0 0] 44) = W0 at *
  have g0 := H0.out.1.c0; have g1 := H0.out.1.c1; have gl := H0.out.1.lt
  go_wp2_with fail
  refine (checkFree_any n A es len c f _ (HR.out.new H0.out.2.2.1)).mono ?_
  rintro e w1 ⟨rfl, hb⟩
  obtain ⟨fc, hfe⟩ : ∃ x, x = freeCode n es f := ⟨_, rfl⟩
  rw [← hfe] at hfc ⊢
  have HFE := Lib.hid hfe; clear hfe
  have t0 : (fc != 0) = true := by simpa using hfc
  replace H0 := Lib.hid (H0.out.new hb); clear hb hfc g0 g1 gl
  have z0 := TB.c0 H0.out.2.1; have zl := H0.out.2.1.lt; have zf := H0.out.2.1.frozen 0
  go_wp2_with fail
  refine bodyPost_ret (v := .tuple #[.agg #[.slice none 0 0], .int .i64 fc]) ?_ rfl ⟨by rw [HFE.out], ?_⟩
  · exact results_step Tryd.results22 _ _ _ _ _ (0, 0) _ rfl (H0.out.2.1.set_ 0 (.slice none 0 0)) Tryd.underlying44 rfl (tree_size _)
  · exact H0.out.2.2.1.setCell (p := ⟨w.heap.size + 1, 0, none⟩) (by show w.heap.size ≤ w.heap.size + 1; omega) _
set_option maxRecDepth 100000 in
set_option maxHeartbeats 2000000 in
theorem tree_cyc (n f : Nat) (A : Option Addr) (es : List Nat) (len c : Nat) (w : World) (hr : Es w w.heap.size A len es) (hcc : checkCode n es = 0) (hf : f ≤ n) (ha : ¬ Acyc n es) :
    Calls Tryd.prog 22 #[.agg #[.int .i64 n, .slice A len c], .int .i64 f] w fun e w' => e = .returned (.tuple #[.agg #[.slice none 0 0], .int .i64 24]) ∧ Below w.heap.size w w' := by
  have HR := Lib.hid hr; clear hr
  have HC := Lib.hid hcc; clear hcc
  have HFC := Lib.hid (show freeCode n es f = 0 by rw [freeCode, if_pos HC.out, if_neg (by omega)])
  have H0 := Lib.hid (TrSt.start w n A len c)
  go_enter Tryd.func22, Tryd.ntmps22
  go_wp2_with fail
  generalize (w.alloc (.cells #[.int .i64 n, .slice A len c] 24)).alloc (.cells #[.slice none 0 0] 44) = W0 at *
  have g0 := H0.out.1.c0; have g1 := H0.out.1.c1; have gl := H0.out.1.lt
  go_wp2_with fail
  refine (checkFree_any n A es len c f _ (HR.out.new H0.out.2.2.1)).mono ?_
  rintro e w1 ⟨rfl, hb⟩
  rw [HFC.out]
  replace H0 := Lib.hid (H0.out.new hb); clear hb g0 g1 gl
  have g0 := H0.out.1.c0; have g1 := H0.out.1.c1; have gl := H0.out.1.lt
  go_wp2_with fail
  refine (acyclic_ok n A es len c _ (HR.out.new H0.out.2.2.1) HC.out).mono ?_
  rintro e w2 ⟨b, hb0, rfl, hb⟩
  obtain rfl : b = false := by
    cases b with
    | false => rfl
    | true => exact absurd (hb0.1 rfl) ha
  replace H0 := Lib.hid (H0.out.new hb); clear hb hb0 g0 g1 gl
  have z0 := TB.c0 H0.out.2.1; have zl := H0.out.2.1.lt; have zf := H0.out.2.1.frozen 0
  go_wp2_with fail
  refine bodyPost_ret (v := .tuple #[.agg #[.slice none 0 0], .int .i64 24]) ?_ rfl ⟨rfl, ?_⟩
  · exact results_step Tryd.results22 _ _ _ _ _ (0, 0) _ rfl (H0.out.2.1.set_ 0 (.slice none 0 0)) Tryd.underlying44 rfl (tree_size _)
  · exact H0.out.2.2.1.setCell (p := ⟨w.heap.size + 1, 0, none⟩) (by show w.heap.size ≤ w.heap.size + 1; omega) _
set_option maxRecDepth 100000 in
set_option maxHeartbeats 2000000 in
theorem tree_path (n f : Nat) (A : Option Addr) (es : List Nat) (len c : Nat) (w : World) (hr : Es w w.heap.size A len es) (hcc : checkCode n es = 0) (hf : f ≤ n) (hl : len ≤ 60) (ha : Acyc n es) (hx : ¬ Acyc n (es ++ [2 ^ f - 1])) :
    Calls Tryd.prog 22 #[.agg #[.int .i64 n, .slice A len c], .int .i64 f] w fun e w' => e = .returned (.tuple #[.agg #[.slice none 0 0], .int .i64 25]) ∧ Below w.heap.size w w' := by
  obtain ⟨_, hn, _, hes⟩ := checkCode_zero hcc
  have hn' : n ≤ 32 := by omega
  have hes' : ∀ e ∈ es, e < 2 ^ n := by simpa using hes
  have HES := Lib.hid hes'; clear hes hes' hn
  have HLE := Lib.hid hr.len
  have HR := Lib.hid hr; clear hr
  have HC := Lib.hid hcc; clear hcc
  have HFC := Lib.hid (show freeCode n es f = 0 by rw [freeCode, if_pos HC.out, if_neg (by omega)])
  have H0 := Lib.hid (TrSt.start w n A len c)
  go_enter Tryd.func22, Tryd.ntmps22
  go_wp2_with fail
  generalize (w.alloc (.cells #[.int .i64 n, .slice A len c] 24)).alloc (.cells #[.slice none 0 0] 44) = W0 at *
  have g0 := H0.out.1.c0; have g1 := H0.out.1.c1; have gl := H0.out.1.lt
  go_wp2_with fail
  refine (checkFree_any n A es len c f _ (HR.out.new H0.out.2.2.1)).mono ?_
  rintro e w1 ⟨rfl, hb⟩
  rw [HFC.out]
  replace H0 := Lib.hid (H0.out.new hb); clear hb g0 g1 gl
  have g0 := H0.out.1.c0; have g1 := H0.out.1.c1; have gl := H0.out.1.lt
  go_wp2_with fail
  refine (acyclic_ok n A es len c _ (HR.out.new H0.out.2.2.1) HC.out).mono ?_
  rintro e w2 ⟨b, hb0, rfl, hb⟩
  obtain rfl : b = true := hb0.2 ha
  replace H0 := Lib.hid (H0.out.new hb); clear hb hb0 g0 g1 gl
  have g0 := H0.out.1.c0; have g1 := H0.out.1.c1; have gl := H0.out.1.lt
  go_wp2_with fail
  refine (cxext_any n A es len c f _ (HR.out.new H0.out.2.2.1) (by omega) (by omega)).mono ?_
  rintro e w3 ⟨v, u, rfl, hown, _, hb⟩
  have hbd : ∀ e ∈ keptE es ++ [2 ^ f - 1], e < 2 ^ n := bound_snoc hf fun e he => HES.out e (keptE_mem e he)
  have hkl := keptE_len (es := es)
  have hacc : checkCode n (keptE es ++ [2 ^ f - 1]) = 0 := code_ok hn' (by simp; have := HLE.out; omega) hbd
  obtain ⟨A2, c2, rfl, hx2⟩ := Es.of_rowU hown (fun e he => Nat.lt_of_lt_of_le (hbd e he) (Nat.le_trans (two_pow_le hn') (by decide)))
  have HX := Lib.hid hx2
  have HAK := Lib.hid (acyc_kept hn' HES.out (below_pow hf))
  have HACC := Lib.hid hacc
  have HNO := Lib.hid hx
  replace H0 := Lib.hid (H0.out.new hb); clear hb hx2 hown hbd hacc hkl g0 g1 gl hx
  generalize keptE es ++ [2 ^ f - 1] = L at *
  go_wp2_with fail
  refine (acyclic_ok n A2 L L.length c2 _ (HX.out.new (al _ _)) HACC.out).mono ?_
  rintro e w4 ⟨b, hb0, rfl, hb⟩
  obtain rfl : b = false := by
    cases b with
    | false => rfl
    | true => exact absurd (HAK.out.1 (hb0.1 rfl)) HNO.out
  have hb' := bthen (al w3 (.cells #[.int .i64 n, .slice A2 L.length c2] 24)) hb (by simp)
  replace H0 := Lib.hid (H0.out.new hb'); clear hb hb' hb0
  have z0 := TB.c0 H0.out.2.1; have zl := H0.out.2.1.lt; have zf := H0.out.2.1.frozen 0
  go_wp2_with fail
  refine bodyPost_ret (v := .tuple #[.agg #[.slice none 0 0], .int .i64 25]) ?_ rfl ⟨rfl, ?_⟩
  · exact results_step Tryd.results22 _ _ _ _ _ (0, 0) _ rfl (H0.out.2.1.set_ 0 (.slice none 0 0)) Tryd.underlying44 rfl (tree_size _)
  · exact H0.out.2.2.1.setCell (p := ⟨w.heap.size + 1, 0, none⟩) (by show w.heap.size ≤ w.heap.size + 1; omega) _
def TrRet (n : Nat) (es : List Nat) (f : Nat) (w : World) (e : Ending) (w' : World) : Prop := ∃ (F : List Int) (A : Option Addr) (c : Nat), PTree F (es.length + 1) es.length ∧ JoinT (es ++ [2 ^ f - 1]) F (es.length + 1) ∧ e = .returned (.tuple #[.agg #[.slice A (es.length + 1) c], .int .i64 0]) ∧ Xs w' w'.heap.size A (es.length + 1) F ∧ Below w.heap.size w w'
/-- What stands while the parents are laid. -/
def FSt (w : World) (n : Int) (A : Option Addr) (len c g9 : Nat) (A6 : Option Addr) (m c6 : Nat) (A11 : Option Addr) (Q : List Int) (N : List Nat) (g12 : Nat) (F : List Int) (wr : World) : Prop :=
  TrSt w n A len c wr ∧ Blk wr g9 44 #[.slice A6 m c6] ∧ (Xs wr g12 A6 m Q ∧ Xs wr g12 A11 m (ints N)) ∧ (Blk wr g12 3 (irow F) ∧ F.length = len + 1) ∧ w.heap.size + 2 ≤ g9 ∧ g9 < g12
section
variable {w wr : World} {n : Int} {A A6 A11 : Option Addr} {len c g9 m c6 g12 : Nat} {Q F : List Int} {N : List Nat}
theorem Xs.setCell {w : World} {B k : Nat} {A : Option Addr} {xs : List Int} (h : Xs w B A k xs) {p : Addr} (hB : B ≤ p.block) (u : Value) : Xs (w.setCell p u) B A k xs := ⟨h.1.setCell hB u, h.2⟩
theorem FSt.set_ (h : FSt w n A len c g9 A6 m c6 A11 Q N g12 F wr) (k : Nat) (x : Int) : FSt w n A len c g9 A6 m c6 A11 Q N g12 (F.set k x) (wr.setCell ⟨g12, k, none⟩ (.int .i64 x)) := by
  obtain ⟨⟨t1, t2, t3, t4⟩, h2, ⟨q1, q2⟩, ⟨b1, b2⟩, l1, l2⟩ := h
  have hb := b1.set_ k (.int .i64 x)
  rw [irow_set] at hb
  refine ⟨⟨t1.far (p := ⟨g12, k, none⟩) (by show w.heap.size ≠ g12; omega) _, t2.far (p := ⟨g12, k, none⟩) (by show w.heap.size + 1 ≠ g12; omega) _, t3.setCell (p := ⟨g12, k, none⟩) (by show w.heap.size ≤ g12; omega) _, by simpa [World.setCell] using t4⟩, h2.far (p := ⟨g12, k, none⟩) (by show g9 ≠ g12; omega) _, ⟨q1.setCell (p := ⟨g12, k, none⟩) (Nat.le_refl _) _, q2.setCell (p := ⟨g12, k, none⟩) (Nat.le_refl _) _⟩, ⟨hb, by rw [List.length_set]; exact b2⟩, l1, l2⟩
theorem FSt.new {w' : World} (h : FSt w n A len c g9 A6 m c6 A11 Q N g12 F wr) (hb : Below wr.heap.size wr w') : FSt w n A len c g9 A6 m c6 A11 Q N g12 F w' := by
  obtain ⟨t, h2, ⟨q1, q2⟩, ⟨b1, b2⟩, l1, l2⟩ := h
  have hm : Below g12 wr w' := hb.mono (Nat.le_of_lt b1.lt)
  exact ⟨t.new hb, h2.below hb h2.lt, ⟨q1.below hm, q2.below hm⟩, ⟨b1.below hb b1.lt, b2⟩, l1, l2⟩
end
theorem own_blk_lt {a : World} {base : Nat} {e : TypeId} {size n : Nat} {v : Value} {xs : List Value} (h : a.ownsRow base e size v n xs) : ∀ k, v.ownBlock = some k → k < a.heap.size := by
  intro k hk
  rcases h.2 with ⟨rfl, _⟩ | ⟨g, cap, cur, rfl, _, h2, _⟩
  · simp [Value.ownBlock] at hk
  · simp [Value.ownBlock] at hk; subst hk; exact Blk.lt' h2
/-- A row of later blocks is kept where an older row grows. -/
theorem own_other {w w' : World} {base : Nat} {e : TypeId} {size n : Nat} {v u : Value} {xs : List Value} (h : w.ownsRow base e size v n xs) (hu : ∀ k, u.ownBlock = some k → k < base) (hg : w.grownBy w' u.ownBlock) : w'.ownsRow base e size v n xs := by
  refine ⟨h.1, ?_⟩
  rcases h.2 with h0 | ⟨g', cap, cur, rfl, h1, h2, h3⟩
  · exact .inl h0
  · exact .inr ⟨g', cap, cur, rfl, h1, (hg.block g' (Blk.lt' h2) (fun he => by have := hu g' he.symm; omega)).trans h2, h3⟩
set_option maxRecDepth 100000 in
set_option maxHeartbeats 8000000 in
theorem tree_ok (n f : Nat) (A : Option Addr) (es : List Nat) (len c : Nat) (w : World) (hr : Es w w.heap.size A len es) (hcc : checkCode n es = 0) (hf : f ≤ n) (hl : len ≤ 60) (ha : Acyc n es) (hx : Acyc n (es ++ [2 ^ f - 1])) :
    Calls Tryd.prog 22 #[.agg #[.int .i64 n, .slice A len c], .int .i64 f] w (TrRet n es f w) := by
  obtain ⟨_, hn, _, hes⟩ := checkCode_zero hcc
  have hn' : n ≤ 32 := by omega
  have hes' : ∀ e ∈ es, e < 2 ^ n := by simpa using hes
  have HES := Lib.hid hes'; clear hes hes' hn
  have hlen := hr.len
  subst hlen
  have HR := Lib.hid hr; clear hr
  have HC := Lib.hid hcc; clear hcc
  have HFC := Lib.hid (show freeCode n es f = 0 by rw [freeCode, if_pos HC.out, if_neg (by omega)])
  have H0 := Lib.hid (TrSt.start w n A es.length c)
  go_enter Tryd.func22, Tryd.ntmps22
  go_wp2_with fail
  generalize (w.alloc (.cells #[.int .i64 n, .slice A es.length c] 24)).alloc (.cells #[.slice none 0 0] 44) = W0 at *
  have g0 := H0.out.1.c0; have g1 := H0.out.1.c1; have gl := H0.out.1.lt
  go_wp2_with fail
  refine (checkFree_any n A es es.length c f _ (HR.out.new H0.out.2.2.1)).mono ?_
  rintro e w1 ⟨rfl, hb⟩
  rw [HFC.out]
  replace H0 := Lib.hid (H0.out.new hb); clear hb g0 g1 gl
  have g0 := H0.out.1.c0; have g1 := H0.out.1.c1; have gl := H0.out.1.lt
  go_wp2_with fail
  refine (acyclic_ok n A es es.length c _ (HR.out.new H0.out.2.2.1) HC.out).mono ?_
  rintro e w2 ⟨b, hb0, rfl, hb⟩
  obtain rfl : b = true := hb0.2 ha
  replace H0 := Lib.hid (H0.out.new hb); clear hb hb0 g0 g1 gl
  have g0 := H0.out.1.c0; have g1 := H0.out.1.c1; have gl := H0.out.1.lt
  go_wp2_with fail
  refine (cxext_any n A es es.length c f _ (HR.out.new H0.out.2.2.1) (by omega) (by omega)).mono ?_
  rintro e w3 ⟨v, u, rfl, hown, hownK, hb⟩
  have hbd : ∀ e ∈ keptE es ++ [2 ^ f - 1], e < 2 ^ n := bound_snoc hf fun e he => HES.out e (keptE_mem e he)
  have hkl := keptE_len (es := es)
  have hacc : checkCode n (keptE es ++ [2 ^ f - 1]) = 0 := code_ok hn' (by simp; omega) hbd
  obtain ⟨A2, c2, rfl, hx2⟩ := Es.of_rowU hown (fun e he => Nat.lt_of_lt_of_le (hbd e he) (Nat.le_trans (two_pow_le hn') (by decide)))
  obtain ⟨A8, c8, rfl⟩ := own_form hownK
  have HX := Lib.hid hx2
  have HAX := Lib.hid ((acyc_kept hn' HES.out (below_pow hf)).2 hx)
  have HACC := Lib.hid hacc
  have HLK := Lib.hid (show (keptE es ++ [2 ^ f - 1]).length = (keptI es).length + 1 by simp [keptE])
  have hkI := keptI_len (es := es)
  have hz2 : w.heap.size + 2 ≤ w2.heap.size := H0.out.2.2.2
  have HOK := Lib.hid (own_lower hownK hz2)
  have HBL := Lib.hid (own_blk_lt hownK)
  replace H0 := Lib.hid (H0.out.new hb); clear hb hx2 hown hbd hacc hkl g0 g1 gl hx ha hownK
  have HJN := Lib.hid (show ∀ sm F, FinT es sm F → PTree sm ((keptI es).length + 1) (keptI es).length → JoinT (keptE es ++ [2 ^ f - 1]) sm ((keptI es).length + 1) → JoinT (es ++ [2 ^ f - 1]) F (es.length + 1) from fun _ _ h1 h2 h3 => h1.join (lt32_of hn' HES.out) h2 h3)
  generalize hL : keptE es ++ [2 ^ f - 1] = L at *
  clear hL
  go_wp2_with fail
  have HGX := Lib.hid (GB.made w3 24 (.int .i64 n) (.slice A2 L.length c2))
  refine (acyclic_ok n A2 L L.length c2 _ (HX.out.new (al _ _)) HACC.out).mono ?_
  rintro e w4 ⟨b, hb0, rfl, hb⟩
  obtain rfl : b = true := hb0.2 HAX.out
  have hb' := bthen (al w3 (.cells #[.int .i64 n, .slice A2 L.length c2] 24)) hb (by simp)
  replace HGX := Lib.hid (HGX.out.new hb)
  replace HX := Lib.hid (HX.out.new hb')
  replace HOK := Lib.hid (own_below HOK.out hb')
  have hb4 := hb'
  replace H0 := Lib.hid (H0.out.new hb'); clear hb hb' hb0
  have H35 := Lib.hid hb4
  clear hb4
  have x0 := HGX.out.c0; have x1 := HGX.out.c1; have xl := HGX.out.lt
  go_wp2_with fail
  refine (build_any n A2 L L.length c2 _ HX.out HACC.out (by have := HLK.out; omega) HAX.out).mono ?_
  rintro e w5 ⟨P, rt, A5, c5, hpt, hjt, rfl, hxp, hb⟩
  rw [HLK.out] at hpt hjt hxp ⊢
  have HPT := Lib.hid hpt; have HJT := Lib.hid hjt; have HXP := Lib.hid hxp
  replace HOK := Lib.hid (own_below HOK.out hb)
  replace H35 := Lib.hid (bthen H35.out hb H35.out.size)
  replace H0 := Lib.hid (H0.out.new hb); clear hb hpt hjt hxp x0 x1 xl HGX
  have HT9 := Lib.hid (Blk.new w5 44 #[Value.slice A5 ((keptI es).length + 1) c5])
  have hz5 : w.heap.size + 2 ≤ w5.heap.size := H0.out.2.2.2
  have k0 := TB.c0 HT9.out; have kl := HT9.out.lt
  have HKL := Lib.hid hkI
  generalize hKe : (keptI es).length = K at *
  have HKE := Lib.hid hKe
  clear hKe
  go_wp2_with fail
  refine (reroot_any A5 P (K + 1) c5 rt K _ (HXP.out.new (al _ _)) HPT.out (by have := HKL.out; omega) (by omega)).mono ?_
  rintro e w6 ⟨Q, A6, c6, hpq, htq, rfl, hoq, hb⟩
  have hb' := bthen (al w5 (.cells #[.slice A5 (K + 1) c5] 44)) hb (by simp)
  have hz6 : w5.heap.size + 1 ≤ w6.heap.size := by have := hb.size; simp at this; omega
  replace HOK := Lib.hid (own_below HOK.out hb')
  replace H0 := Lib.hid (H0.out.new hb')
  replace HT9 := Lib.hid (HT9.out.below hb HT9.out.lt)
  rw [World.size_alloc] at hoq
  have HOQ := Lib.hid hoq
  have hz35 : w3.heap.size ≤ w5.heap.size := by have := H35.out.size; omega
  have HPQ := Lib.hid hpq
  have HTQ := Lib.hid htq
  clear hb hb' k0 kl hpq htq hoq HPT HXP
  have k9 := HT9.out.frozen 0; have k0 := TB.c0 HT9.out; have kl := HT9.out.lt
  have hz6' : w.heap.size + 2 ≤ w6.heap.size := by omega
  -- the smaller tree is stored
  have HT9s := Lib.hid (HT9.out.set_ 0 (.slice A6 (K + 1) c6))
  have H0s := Lib.hid (show TrSt w n A es.length c (w6.setCell ⟨w5.heap.size, 0, none⟩ (.slice A6 (K + 1) c6)) from ⟨H0.out.1.far (p := ⟨w5.heap.size, 0, none⟩) (by show w.heap.size ≠ w5.heap.size; omega) _, H0.out.2.1.far (p := ⟨w5.heap.size, 0, none⟩) (by show w.heap.size + 1 ≠ w5.heap.size; omega) _, H0.out.2.2.1.setCell (p := ⟨w5.heap.size, 0, none⟩) (by show w.heap.size ≤ w5.heap.size; omega) _, by simpa [World.setCell] using hz6'⟩)
  have HOKs := Lib.hid (own_far HOK.out HT9.out (by decide) 0 (.slice A6 (K + 1) c6))
  have HOQs := Lib.hid (own_far HOQ.out HT9.out (by decide) 0 (.slice A6 (K + 1) c6))
  have hszs : (w6.setCell ⟨w5.heap.size, 0, none⟩ (.slice A6 (K + 1) c6)).heap.size = w6.heap.size := by simp [World.setCell]
  generalize hws : w6.setCell ⟨w5.heap.size, 0, none⟩ (.slice A6 (K + 1) c6) = ws at *
  have HWS := Lib.hid hws
  clear hws
  have hKl := HKL.out
  have HBLs := Lib.hid (fun k h => Nat.lt_of_lt_of_le (HBL.out k h) (show w3.heap.size ≤ w5.heap.size + 1 by omega))
  go_upto_region 15 with (fail)
  rw [HWS.out]
  clear k9 k0 kl HOK H0 HT9 HOQ HWS hszs
  have g0 := H0s.out.1.c0; have g1 := H0s.out.1.c1; have gl := H0s.out.1.lt
  have hmk := mk_int (es.length + 1) (by omega)
  simp only [Int.natCast_add, Int.natCast_one] at hmk
  have hzs : w.heap.size + 2 ≤ ws.heap.size := H0s.out.2.2.2
  go_upto_region 16 with (at_builtin; refine app_int rfl _ _ rfl (w.heap.size + 2) (Value.slice A8 K c8) K (ints (keptI es)) rfl (World.ownsRow.alloc HOKs.out _) ws.heap.size (es.length : Int) rfl (Blk.new _ _ _) (by omega) (by simp; omega) ?_; intro v' w7 hown' hgr hor; obtain ⟨A11, c11, rfl⟩ := own_form hown'; clear hor)
  have hal := al ws (.cells #[.int .i64 (es.length : Int)] 3)
  have H7 := Lib.hid (show TrSt w n A es.length c w7 from ⟨(H0s.out.new hal).1.appended (World.ownsRow.alloc HOKs.out _) hgr (by decide), (H0s.out.new hal).2.1.appended (World.ownsRow.alloc HOKs.out _) hgr (by decide), Below.appended (H0s.out.new hal).2.2.1 (World.ownsRow.alloc HOKs.out _) hgr (H0s.out.new hal).2.2.1.size (by omega), by have := hgr.size; simp at this; omega⟩)
  have HT7 := Lib.hid ((HT9s.out.alloc (.cells #[.int .i64 (es.length : Int)] 3)).appended (World.ownsRow.alloc HOKs.out _) hgr (by decide))
  have HQ7 := Lib.hid (own_other (World.ownsRow.alloc HOQs.out _) HBLs.out hgr)
  have HN7 := Lib.hid hown'
  clear hown' hgr hal g0 g1 gl HOKs HOQs HT9s H0s
  have g0 := H7.out.1.c0; have g1 := H7.out.1.c1; have gl := H7.out.1.lt
  have hbQ := ptree_int HPQ.out (by omega)
  have HXQ := Lib.hid (show Xs w7 w7.heap.size A6 (K + 1) Q from ⟨Reads.of_own HQ7.out, ⟨HPQ.out.len.symm, by omega⟩, hbQ⟩)
  have HXN := Lib.hid (show Xs w7 w7.heap.size A11 (K + 1) (ints (keptI es ++ [es.length])) from ⟨by have h := Reads.of_own HN7.out; rwa [← ints_snoc] at h, ⟨by rw [ints_length]; simp; exact HKE.out.symm, by omega⟩, by
    intro x hx
    rw [ints, List.mem_map] at hx
    obtain ⟨u, hu, rfl⟩ := hx
    rw [List.mem_append, List.mem_singleton] at hu
    rcases hu with h1 | rfl
    · have := (keptI_mem.1 h1).1; omega
    · omega⟩)
  have hg9 : w5.heap.size < w7.heap.size := HT7.out.lt
  have HF := Lib.hid (show FSt w n A es.length c w5.heap.size A6 (K + 1) c6 A11 Q (keptI es ++ [es.length]) w7.heap.size (List.replicate (es.length + 1) 0) (w7.alloc (.cells (irow (List.replicate (es.length + 1) 0)) 3)) from
    ⟨H7.out.new (al _ _), HT7.out.alloc _, ⟨HXQ.out.alloc (Nat.le_refl _) _, HXN.out.alloc (Nat.le_refl _) _⟩, ⟨Blk.new _ _ _, by simp⟩, hz5, hg9⟩)
  clear hbQ HXQ HXN HQ7 HN7
  go_upto_region 17 with (fail)
  clear hmk g0 g1 gl
  have g0 := HF.out.1.1.c0; have g1 := HF.out.1.1.c1; have gl := HF.out.1.1.lt
  go_wp2_with fail
  clear g0 g1 gl
  go_loopw [72] (fun i wr => ∃ (k : Nat) (F : List Int), i = .int .i64 k ∧ k ≤ es.length ∧ Hid (FSt w n A es.length c w5.heap.size A6 (K + 1) c6 A11 Q (keptI es ++ [es.length]) w7.heap.size F wr ∧ ∀ j, j < k → inth F j = (contF es j : Nat))) (fun i _ => es.length - (intOf i).toNat)
  case atStart => exact ⟨0, _, rfl, Nat.zero_le _, Lib.hid ⟨HF.out, fun j hj => absurd hj (by omega)⟩⟩
  case round =>
    obtain ⟨k, F, rfl, hk, HI⟩ := hrel
    by_cases hkl : k < es.length
    · have g0 := HI.out.1.1.1.c0; have g1 := HI.out.1.1.1.c1; have gl := HI.out.1.1.1.lt
      have i1 : (0 : Int) ≤ (k : Int) := by omega
      have i2 : (k : Int) < (es.length : Int) + 1 := by omega
      go_wp2_with fail
      refine (container_any n A es es.length c k _ (HR.out.new HI.out.1.1.2.2.1) hkl).mono ?_
      rintro e w8 ⟨rfl, hb⟩
      have H8 := Lib.hid (HI.out.1.new hb)
      clear hb g0 g1 gl
      have x1 : w8.cell? ⟨w7.heap.size, k, none⟩ = some (.int .i64 (inth F k)) := by
        rw [H8.out.2.2.2.1.1.cell, irow_get (by rw [H8.out.2.2.2.1.2]; omega)]
      have x2 := H8.out.2.2.2.1.1.frozen k
      go_wp2_with fail
      refine ⟨⟨k + 1, F.set k (contF es k : Nat), by go_num, by omega, Lib.hid ⟨H8.out.set_ k _, fun j hj => ?_⟩⟩, by simp [intOf]; omega⟩
      rw [inth_set (by rw [H8.out.2.2.2.1.2]; omega)]
      split
      · rename_i h; rw [h]
      · exact HI.out.2 j (by omega)
    · obtain ⟨m, hm⟩ : ∃ m, m = es.length := ⟨_, rfl⟩
      have HM := Lib.hid hm
      have hkm : k = m := by omega
      subst hkm
      clear hkl
      have HC0 := Lib.hid HI.out.2
      have HF0 := Lib.hid HI.out.1
      clear HI
      go_wp2_with fail
      go_loopw [84] (fun i wr => ∃ (j : Nat) (F : List Int), i = .int .i64 j ∧ j ≤ K + 1 ∧ Hid (FSt w n A es.length c w5.heap.size A6 (K + 1) c6 A11 Q (keptI es ++ [es.length]) w7.heap.size F wr ∧ (∀ i, i < es.length → (∀ q, q < j → ndF es q ≠ i) → inth F i = (contF es i : Nat)) ∧ (∀ q, q < j → inth F (ndF es q) = if 0 ≤ inth Q q then ((ndF es (inth Q q).toNat : Nat) : Int) else -1))) (fun i _ => K + 1 - (intOf i).toNat)
      case atStart => exact ⟨0, F, rfl, Nat.zero_le _, Lib.hid ⟨HF0.out, fun i hi _ => HC0.out i (by have := HM.out; omega), fun q hq => absurd hq (by omega)⟩⟩
      case round =>
        obtain ⟨j, F, rfl, hj, HJ⟩ := hrel
        by_cases hjl : j < K + 1
        · have hnl : ndF es j < es.length + 1 := ndF_le (by rw [HKE.out]; exact hjl)
          obtain ⟨a11, rfl, hb11, c11⟩ := HJ.out.1.2.2.1.2.at_ hjl
          rw [inth_ints (by simp [HKE.out]; exact hjl)] at c11
          obtain ⟨u, hu⟩ : ∃ u, u = ndF es j := ⟨_, rfl⟩
          have HU := Lib.hid hu
          rw [show nth (keptI es ++ [es.length]) j = u by rw [hu]; rfl] at c11
          rw [← hu] at hnl
          clear hu
          have x1 : wr.cell? ⟨w7.heap.size, u, none⟩ = some (.int .i64 (inth F u)) := by
            rw [HJ.out.1.2.2.2.1.1.cell, irow_get (by rw [HJ.out.1.2.2.2.1.2]; exact hnl)]
          have x2 := HJ.out.1.2.2.2.1.1.frozen u
          have i1 : (0 : Int) ≤ (u : Int) := by omega
          have i2 : (u : Int) < (es.length : Int) + 1 := by omega
          go_upto_region 26 with (fail)
          have HS1 := Lib.hid (HJ.out.1.set_ u (-1))
          obtain ⟨wb, hwb⟩ : ∃ wb : World, wb = wr.setCell ⟨w7.heap.size, u, none⟩ (.int .i64 (-1)) := ⟨_, rfl⟩
          rw [← hwb] at HS1 ⊢
          clear hwb x1 x2 c11
          have k0 := TB.c0 HS1.out.2.1; have kl := HS1.out.2.1.lt
          have y1 : wb.cell? ⟨w7.heap.size, u, none⟩ = some (.int .i64 (-1)) := by
            rw [HS1.out.2.2.2.1.1.cell, irow_get (by rw [HS1.out.2.2.2.1.2]; exact hnl), inth_set (by rw [HJ.out.1.2.2.2.1.2]; exact hnl), if_pos rfl]
          have y2 := HS1.out.2.2.2.1.1.frozen u
          obtain ⟨a6, rfl, hb6, c6'⟩ := HS1.out.2.2.1.1.at_ hjl
          have hFl : u < F.length := by rw [HJ.out.1.2.2.2.1.2]; exact hnl
          have hold : ∀ (x : Int) (i : Nat), i < es.length → (∀ q, q < j + 1 → ndF es q ≠ i) → inth (F.set u x) i = (contF es i : Nat) := fun x i hi hq => by
            rw [inth_set hFl, if_neg (by intro h; exact hq j (by omega) (by rw [← HU.out, h]))]
            exact HJ.out.2.1 i hi (fun q hq' => hq q (by omega))
          have hset : ∀ (x : Int), (x = if 0 ≤ inth Q j then ((ndF es (inth Q j).toNat : Nat) : Int) else -1) → ∀ q, q < j + 1 → inth (F.set u x) (ndF es q) = if 0 ≤ inth Q q then ((ndF es (inth Q q).toNat : Nat) : Int) else -1 := fun x hx q hq => by
            rw [inth_set hFl]
            by_cases hqj : q = j
            · rw [hqj, if_pos HU.out.symm]; exact hx
            · rw [if_neg (by rw [HU.out]; intro h; exact hqj (ndF_inj (by rw [HKE.out]; omega) (by rw [HKE.out]; omega) h))]
              exact HJ.out.2.2 q (by omega)
          have HOLD := Lib.hid hold; have HSET := Lib.hid hset; clear hold hset
          rcases HPQ.out.up hjl with ⟨-, hq⟩ | ⟨-, p, hpl, -, hq⟩
          · have HV := Lib.hid (show (-1 : Int) = if 0 ≤ inth Q j then ((ndF es (inth Q j).toNat : Nat) : Int) else -1 by rw [hq, if_neg (by omega)])
            rw [hq] at c6'
            clear hq
            go_wp2_with fail
            exact ⟨⟨j + 1, F.set u (-1), by go_num, by omega, Lib.hid ⟨HS1.out, HOLD.out _, HSET.out _ HV.out⟩⟩, by simp [intOf]; omega⟩
          · have HV := Lib.hid (show (ndF es p : Int) = if 0 ≤ inth Q j then ((ndF es (inth Q j).toNat : Nat) : Int) else -1 by rw [hq, if_pos (by omega)]; simp)
            rw [hq] at c6'
            clear hq
            obtain ⟨a11', ha11, hb11', d11⟩ := HS1.out.2.2.1.2.at_ hpl
            injection ha11 with ha11
            subst ha11
            rw [inth_ints (by simp [HKE.out]; exact hpl)] at d11
            rw [show nth (keptI es ++ [es.length]) p = ndF es p from rfl] at d11
            have t9 : decide ((p : Int) ≥ 0) = true := by simp
            generalize ndF es p = np at *
            go_wp2_with fail
            refine ⟨⟨j + 1, F.set u (np : Int), by go_num, by omega, Lib.hid ⟨?_, HOLD.out _, HSET.out _ HV.out⟩⟩, by simp [intOf]; omega⟩
            have h := HS1.out.set_ u (np : Int)
            rwa [List.set_set] at h
        · have hje : j = K + 1 := by omega
          subst hje
          clear hjl
          have HFT := Lib.hid (show FinT es Q F from ⟨HJ.out.1.2.2.2.1.2, fun i hi hk => HJ.out.2.1 i hi (fun q hq he => hk (by
              rw [HKE.out.symm] at hq
              rw [← he]
              by_cases hql : q < (keptI es).length
              · exact (ndF_lt hql).1
              · have hqe : q = (keptI es).length := by omega
                rw [hqe, ndF_last] at he; omega)), fun q hq => HJ.out.2.2 q (by rw [← HKE.out]; exact hq)⟩)
          have HPQ2 := Lib.hid (show PTree Q ((keptI es).length + 1) (keptI es).length by rw [HKE.out]; exact HPQ.out)
          have HFP := Lib.hid (HFT.out.tree (lt32_of hn' HES.out) HPQ2.out)
          have HFJ := Lib.hid (HJN.out Q F HFT.out HPQ.out (fun x => by rw [HTQ.out]; exact HJT.out x))
          have z0 := TB.c0 HJ.out.1.1.2.1; have zl := HJ.out.1.1.2.1.lt; have zf := HJ.out.1.1.2.1.frozen 0
          go_wp2_with fail
          refine bodyPost_ret (v := .tuple #[.agg #[.slice (some ⟨w7.heap.size, 0, none⟩) (es.length + 1) (es.length + 1)], .int .i64 0]) ?_ rfl ⟨F, _, _, HFP.out, HFJ.out, rfl, ?_, ?_⟩
          · exact results_step Tryd.results22 _ _ _ _ _ (0, 0) _ rfl (HJ.out.1.1.2.1.set_ 0 _) Tryd.underlying44 rfl (tree_size _)
          · have h := (HJ.out.1.2.2.2.1.1.far (p := ⟨w.heap.size + 1, 0, none⟩) (by show w7.heap.size ≠ w.heap.size + 1; omega) (.slice (some ⟨w7.heap.size, 0, none⟩) (es.length + 1) (es.length + 1)))
            have hx := Xs.of_blk h (by rw [HJ.out.1.2.2.2.1.2]; omega) (ptree_int HFP.out (by omega))
            rwa [HJ.out.1.2.2.2.1.2] at hx
          · exact HJ.out.1.1.2.2.1.setCell (p := ⟨w.heap.size + 1, 0, none⟩) (by show w.heap.size ≤ w.heap.size + 1; omega) _
end Go.Proofs.YtjofdlafblpclaaDoor
namespace Go.Proofs.YtjofdlafblpclaaDoor
open Go.RowKit
set_option linter.unusedSimpArgs false
set_option linter.unusedVariables false

/-- The common vertices of a node and its parent. -/
def sepF (es : List Nat) (P : List Int) (u : Nat) : Nat := if 0 ≤ inth P u then nth es u &&& nth es (inth P u).toNat else 0
def topF (es : List Nat) (P : List Int) (u : Nat) : Nat := andn (nth es u) (sepF es P u)
theorem sepF_lt {es : List Nat} (hb : ∀ e ∈ es, e < 2 ^ 32) (P : List Int) {u : Nat} (hu : u < es.length) : sepF es P u < 2 ^ 32 := by
  unfold sepF
  split
  · exact Nat.lt_of_le_of_lt Nat.and_le_left (hb _ (nth_mem hu))
  · decide
theorem topF_lt {es : List Nat} (hb : ∀ e ∈ es, e < 2 ^ 32) (P : List Int) {u : Nat} (hu : u < es.length) : topF es P u < 2 ^ 32 := andn_lt (hb _ (nth_mem hu))
theorem topF_bit {es : List Nat} (hb : ∀ e ∈ es, e < 2 ^ 32) {P : List Int} {u x : Nat} (hu : u < es.length) : (topF es P u).testBit x = topAt es P u x := by
  unfold topF topAt
  rw [testBit_andn (sepF_lt hb P hu) (hb _ (nth_mem hu))]
  unfold sepF
  by_cases h : 0 ≤ inth P u
  · rw [if_pos h, decide_eq_true h, Nat.testBit_and]
    cases (nth es u).testBit x <;> simp
  · rw [if_neg h, decide_eq_false h]; simp
def topsTo (es : List Nat) (P : List Int) : Nat → Nat
  | 0 => 0
  | k + 1 => topsTo es P k ||| topF es P k
theorem topsTo_lt {es : List Nat} (hb : ∀ e ∈ es, e < 2 ^ 32) (P : List Int) : ∀ k, k ≤ es.length → topsTo es P k < 2 ^ 32
  | 0, _ => by show 0 < 2 ^ 32; decide
  | k + 1, h => Nat.or_lt_two_pow (topsTo_lt hb P k (by omega)) (topF_lt hb P (by omega))
theorem topsTo_bit {es : List Nat} (hb : ∀ e ∈ es, e < 2 ^ 32) {P : List Int} {x : Nat} : ∀ k, k ≤ es.length → ((topsTo es P k).testBit x = true ↔ ∃ j, j < k ∧ topAt es P j x = true)
  | 0, _ => by simp [topsTo]
  | k + 1, h => by
    rw [topsTo, Nat.testBit_or, Bool.or_eq_true, topsTo_bit hb k (by omega), topF_bit hb (by omega)]
    constructor
    · rintro (⟨j, h1, h2⟩ | h1)
      · exact ⟨j, by omega, h2⟩
      · exact ⟨k, by omega, h1⟩
    · rintro ⟨j, h1, h2⟩
      by_cases hj : j = k
      · subst hj; exact .inr h2
      · exact .inl ⟨j, by omega, h2⟩
theorem tops_apart {es : List Nat} (hb : ∀ e ∈ es, e < 2 ^ 32) {P : List Int} (hj : JoinT es P es.length) {k : Nat} (hk : k < es.length) : topsTo es P k &&& topF es P k = 0 := by
  apply Nat.eq_of_testBit_eq
  intro x
  rw [Nat.testBit_and, Nat.zero_testBit, topF_bit hb hk]
  cases h : topAt es P k x with
  | false => simp
  | true =>
    cases h2 : (topsTo es P k).testBit x with
    | false => rfl
    | true =>
      obtain ⟨j, h3, h4⟩ := (topsTo_bit hb k (by omega)).1 h2
      have := cnt_one (p := fun u => topAt es P u x) (show j < es.length by omega) hk h4 h (hj x)
      omega

/-- The boxes of a graph and a tree. -/
def SpSt (w : World) (n : Int) (A : Option Addr) (len c : Nat) (B : Option Addr) (d : Nat) (wr : World) : Prop :=
  GB wr w.heap.size 24 (.int .i64 n) (.slice A len c) ∧ Blk wr (w.heap.size + 1) 44 #[.slice B len d] ∧ Below w.heap.size w wr
theorem SpSt.start (w : World) (n : Int) (A : Option Addr) (len c : Nat) (B : Option Addr) (d : Nat) : SpSt w n A len c B d ((w.alloc (.cells #[.int .i64 n, .slice A len c] 24)).alloc (.cells #[.slice B len d] 44)) := by
  refine ⟨(GB.made _ _ _ _).alloc _, ?_, bthen (al w _) (al _ _) (by simp)⟩
  have h := Blk.new (w.alloc (.cells #[.int .i64 n, .slice A len c] 24)) 44 #[Value.slice B len d]
  rwa [World.size_alloc] at h
theorem SpSt.new {w : World} {n : Int} {A : Option Addr} {len c : Nat} {B : Option Addr} {d : Nat} {wr w' : World} (h : SpSt w n A len c B d wr) (hb : Below wr.heap.size wr w') : SpSt w n A len c B d w' :=
  ⟨h.1.new hb, h.2.1.below hb h.2.1.lt, bthen h.2.2 hb h.2.2.size⟩
set_option maxRecDepth 100000 in
set_option maxHeartbeats 4000000 in
theorem sep_any (n : Int) (A : Option Addr) (es : List Nat) (len c : Nat) (B : Option Addr) (P : List Int) (d rt u : Nat) (w : World) (hr : Es w w.heap.size A len es) (hp : Xs w w.heap.size B len P) (hP : PTree P len rt) (hu : u < len) :
    Calls Tryd.prog 44 #[.agg #[.int .i64 n, .slice A len c], .agg #[.slice B len d], .int .i64 u] w fun e w' => e = .returned (.int .u32 (sepF es P u : Nat)) ∧ Below w.heap.size w w' := by
  have hle := hr.le
  have HR := Lib.hid hr; have HX := Lib.hid hp
  have HSE := Lib.hid (show sepF es P u = if 0 ≤ inth P u then nth es u &&& nth es (inth P u).toNat else 0 from rfl)
  have hup := hP.up hu
  clear hr hp hP
  have H0 := Lib.hid (SpSt.start w n A len c B d)
  have t1 : decide ((u : Int) < 0) = false := by simp
  have t2 : decide ((u : Int) ≥ (len : Int)) = false := by simp; omega
  have t2' : decide (len ≤ u) = false := by simp; omega
  have i1 : (0 : Int) ≤ (u : Int) := by omega
  have i2 : (u : Int) < (len : Int) := by omega
  go_enter Tryd.func44, Tryd.ntmps44
  go_upto_region 1 with (fail)
  generalize (w.alloc (.cells #[.int .i64 n, .slice A len c] 24)).alloc (.cells #[.slice B len d] 44) = W0 at *
  have g0 := H0.out.1.c0; have g1 := H0.out.1.c1; have gl := H0.out.1.lt
  have k0 := TB.c0 H0.out.2.1; have kl := H0.out.2.1.lt
  obtain ⟨bd, rfl, hb1, cb⟩ := (HX.out.new H0.out.2.2).at_ hu
  obtain ⟨ad, rfl, ha1, ca⟩ := (HR.out.new H0.out.2.2).at_ hu
  have hxu := HR.out.lt hu
  have i1 : (0 : Int) ≤ (u : Int) := by omega
  have i2 : (u : Int) < (len : Int) := by omega
  rcases hup with ⟨-, hq⟩ | ⟨-, p, hpl, -, hq⟩
  · rw [hq] at cb
    have HS := Lib.hid (show sepF es P u = 0 by rw [HSE.out, hq, if_neg (by omega)])
    clear hq
    go_wp2_with fail
    go_ret
    rw [HS.out]
    exact ⟨rfl, H0.out.2.2⟩
  · rw [hq] at cb
    have HS := Lib.hid (show sepF es P u = nth es u &&& nth es p by rw [HSE.out, hq, if_pos (by omega)]; simp)
    clear hq
    have t3 : decide ((p : Int) < 0) = false := by simp
    have t4 : decide ((p : Int) ≥ (len : Int)) = false := by simp; omega
    have t4' : decide (len ≤ p) = false := by simp; omega
    obtain ⟨ad', he, _, cp⟩ := (HR.out.new H0.out.2.2).at_ hpl
    injection he with he; subst he
    have hxp := HR.out.lt hpl
    have j1 : (0 : Int) ≤ (p : Int) := by omega
    have j2 : (p : Int) < (len : Int) := by omega
    have hand := bits_and _ _ hxu hxp
    generalize nth es u = x at *
    generalize nth es p = y at *
    go_upto_region 6 with (fail)
    go_quiet (fail)
    go_wp2_with fail
    go_ret
    rw [HS.out, ← hand]
    exact ⟨rfl, below_drewN H0.out.2.2 _⟩
set_option maxRecDepth 100000 in
set_option maxHeartbeats 4000000 in
theorem jcheck_any (n : Nat) (A : Option Addr) (es : List Nat) (len c : Nat) (B : Option Addr) (P : List Int) (d rt : Nat) (w : World) (hr : Es w w.heap.size A len es) (hp : Xs w w.heap.size B len P) (hcc : checkCode n es = 0) (hP : PTree P len rt) (hJ : JoinT es P len) :
    Calls Tryd.prog 23 #[.agg #[.int .i64 n, .slice A len c], .agg #[.slice B len d]] w fun e w' => e = .returned (.int .i64 0) ∧ Below w.heap.size w w' := by
  obtain ⟨_, hn, hl64, _⟩ := checkCode_zero hcc
  have hlen := hr.len
  have hle := hr.le
  subst hlen
  have HR := Lib.hid hr; have HX := Lib.hid hp; have HC := Lib.hid hcc; have HP := Lib.hid hP; have HJ := Lib.hid hJ
  clear hr hp hcc hP hJ
  have H0 := Lib.hid (SpSt.start w n A es.length c B d)
  go_enter Tryd.func23, Tryd.ntmps23
  go_wp2_with fail
  generalize (w.alloc (.cells #[.int .i64 n, .slice A es.length c] 24)).alloc (.cells #[.slice B es.length d] 44) = W0 at *
  have g0 := H0.out.1.c0; have g1 := H0.out.1.c1; have gl := H0.out.1.lt
  have k0 := TB.c0 H0.out.2.1; have kl := H0.out.2.1.lt
  go_wp2_with fail
  refine (check_any n A es es.length c _ (HR.out.new H0.out.2.2)).mono ?_
  rintro e w1 ⟨rfl, hb⟩
  rw [HC.out]
  replace H0 := Lib.hid (H0.out.new hb)
  clear hb g0 g1 gl k0 kl
  have g0 := H0.out.1.c0; have g1 := H0.out.1.c1; have gl := H0.out.1.lt
  have k0 := TB.c0 H0.out.2.1; have kl := H0.out.2.1.lt
  go_wp2_with fail
  refine (rooted_any B P es.length d rt _ (HX.out.new H0.out.2.2) HP.out (by omega)).mono ?_
  rintro e w2 ⟨rfl, hb⟩
  replace H0 := Lib.hid (H0.out.new hb)
  clear hb g0 g1 gl k0 kl
  have g0 := H0.out.1.c0; have g1 := H0.out.1.c1; have gl := H0.out.1.lt
  go_wp2_with fail
  clear g0 g1 gl
  go_loopw [6, 28] (fun sv iv wr => ∃ k : Nat, iv = .int .i64 k ∧ k ≤ es.length ∧ sv = .int .u32 (topsTo es P k : Nat) ∧ Hid (SpSt w n A es.length c B d wr)) (fun _ iv _ => es.length - (intOf iv).toNat)
  case atStart => exact ⟨0, rfl, Nat.zero_le _, rfl, H0⟩
  case round =>
    obtain ⟨k, rfl, hk, rfl, HI⟩ := hrel
    by_cases hkl : k < es.length
    · obtain ⟨ad, rfl, ha1, ca⟩ := (HR.out.new HI.out.2.2).at_ hkl
      have g0 := HI.out.1.c0; have g1 := HI.out.1.c1; have gl := HI.out.1.lt
      have k0 := TB.c0 HI.out.2.1; have kl := HI.out.2.1.lt
      have hxk := HR.out.lt hkl
      have hsk := sepF_lt HR.out.2.2 P hkl
      have hand := bits_andNot _ _ hxk hsk
      have HTE := Lib.hid (show topF es P k = andn (nth es k) (sepF es P k) from rfl)
      rw [← HTE.out] at hand
      have hts := topsTo_lt HR.out.2.2 P k (by omega)
      have htk := topF_lt HR.out.2.2 P hkl
      have hap := bits_and _ _ hts htk
      rw [tops_apart HR.out.2.2 HJ.out hkl] at hap
      have hor := bits_or _ _ hts htk
      have HST := Lib.hid (show topsTo es P (k + 1) = topsTo es P k ||| topF es P k from rfl)
      go_wp2_with fail
      refine (sep_any n (some ad) es es.length c B P d rt k _ (HR.out.new HI.out.2.2) (HX.out.new HI.out.2.2) HP.out hkl).mono ?_
      rintro e w3 ⟨rfl, hb⟩
      have H3 := Lib.hid (HI.out.new hb)
      clear hb g0 g1 gl k0 kl
      generalize sepF es P k = s at *
      generalize topF es P k = t at *
      generalize topsTo es P k = q at *
      generalize nth es k = x at *
      go_wp2_with fail
      exact ⟨⟨k + 1, by go_num, by omega, by rw [HST.out], H3⟩, by simp [intOf]; omega⟩
    · go_wp2_with fail
      go_ret
      exact ⟨rfl, HI.out.2.2⟩
set_option maxRecDepth 100000 in
set_option maxHeartbeats 4000000 in
theorem root_any (B : Option Addr) (P : List Int) (len d rt : Nat) (w : World) (hp : Xs w w.heap.size B len P) (hP : PTree P len rt) :
    Calls Tryd.prog 24 #[.agg #[.slice B len d]] w fun e w' => e = .returned (.int .i64 rt) ∧ Below w.heap.size w w' := by
  have HX := Lib.hid hp; have HP := Lib.hid hP
  have hle := hp.le
  clear hp hP
  have key : ∀ W, Xs W W.heap.size B len P → Calls Tryd.prog 45 #[.slice B len d, .int .i64 (-1)] W fun e w' => e = .returned (.int .i64 rt) ∧ W = w' := by
    intro W hX
    have HXW := Lib.hid hX; clear hX
    go_enter Tryd.func45, Tryd.ntmps45
    go_wp2_with fail
    go_loop [5, 8] (fun _ i => ∃ k : Nat, k ≤ rt ∧ i = .int .i64 k) (fun _ i => len - (intOf i).toNat)
    case atStart => exact ⟨0, Nat.zero_le _, rfl⟩
    case round =>
      obtain ⟨k, hk, rfl⟩ := hrel
      have hrl := HP.out.lt
      have hkl : k < len := by omega
      obtain ⟨ad, rfl, hb1, hc⟩ := HXW.out.at_ hkl
      rcases HP.out.up hkl with ⟨hkr, hq⟩ | ⟨hne, p, hpl, -, hq⟩
      · rw [hq] at hc
        have HKR := Lib.hid hkr
        clear hkr hq
        go_wp2_with fail
        go_ret
        exact ⟨by rw [← HKR.out]; rfl, rfl⟩
      · rw [hq] at hc
        have ht : ((-1 : Int) == (p : Int)) = false := by rw [beq_eq_false_iff_ne]; omega
        have hk1 : k + 1 ≤ rt := by omega
        clear hq hne
        go_wp2_with fail
        exact ⟨⟨k + 1, hk1, by go_num⟩, by simp [intOf]; omega⟩
  have H0 := Lib.hid (Blk.new w 44 #[Value.slice B len d])
  have k0 := TB.c0 H0.out; have kl := H0.out.lt
  go_enter Tryd.func24, Tryd.ntmps24
  go_wp2_with fail
  refine (key _ (HX.out.new (al w _))).mono ?_
  rintro e w1 ⟨rfl, rfl⟩
  go_wp2_with fail
  go_ret
  exact ⟨rfl, al w _⟩
end Go.Proofs.YtjofdlafblpclaaDoor
