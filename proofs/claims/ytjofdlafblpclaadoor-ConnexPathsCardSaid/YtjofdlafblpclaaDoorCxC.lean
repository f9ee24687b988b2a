/-
  Contracts of connex.Connex and law31.extended.
-/
import Derived.Test.YtjofdlafblpclaaDoorCxE
namespace Go.Proofs.YtjofdlafblpclaaDoor
open Go.RowKit
set_option linter.unusedSimpArgs false
set_option linter.unusedVariables false

theorem code_ok {n : Nat} {es : List Nat} (hn : n ≤ 32) (hl : es.length ≤ 64) (hb : ∀ e ∈ es, e < 2 ^ n) : checkCode n es = 0 := by
  unfold checkCode
  rw [if_neg (by omega), if_neg (by omega), if_pos (List.all_eq_true.2 fun e he => by simpa using hb e he)]
theorem below_pow {n f : Nat} (h : f ≤ n) : 2 ^ f - 1 < 2 ^ n := by
  have := pow2_pos f
  have := two_pow_le h
  omega
theorem bound_snoc {n f : Nat} {es : List Nat} (h : f ≤ n) (hb : ∀ e ∈ es, e < 2 ^ n) : ∀ e ∈ es ++ [2 ^ f - 1], e < 2 ^ n := by
  intro e he
  rw [List.mem_append, List.mem_singleton] at he
  rcases he with h1 | rfl
  · exact hb e h1
  · exact below_pow h
theorem Es.of_rowU {w : World} {base : Nat} {v : Value} {L : List Nat} (h : w.ownsRow base 42 1 v L.length (U32 L)) (hb : ∀ e ∈ L, e < 4294967296) : ∃ A c, v = .slice A L.length c ∧ Es w w.heap.size A L.length L := by
  obtain ⟨A, c, rfl⟩ := own_form h
  exact ⟨A, c, rfl, Reads.of_own h, ⟨rfl, own_le h⟩, hb⟩
/-- Connex: acyclic, and acyclic with the edge of the free vertices. -/
def FreeCon (n : Nat) (es : List Nat) (f : Nat) : Prop := Acyc n es ∧ Acyc n (es ++ [2 ^ f - 1])
def ConRet (n : Nat) (es : List Nat) (f : Nat) (w : World) (e : Ending) (w' : World) : Prop := ∃ b : Bool, (b = true ↔ FreeCon n es f) ∧ e = .returned (.tuple #[.bool b, .int .i64 0]) ∧ Below w.heap.size w w'
set_option maxRecDepth 100000 in
set_option maxHeartbeats 2000000 in
theorem connex_ok (n f : Nat) (A : Option Addr) (es : List Nat) (len c : Nat) (w : World) (hr : Es w w.heap.size A len es) (hcc : checkCode n es = 0) (hf : f ≤ n) (hl : len ≤ 60) :
    Calls Tryd.prog 12 #[.agg #[.int .i64 n, .slice A len c], .int .i64 f] w (ConRet n es f w) := by
  obtain ⟨_, hn, _, hes⟩ := checkCode_zero hcc
  have hn' : n ≤ 32 := by omega
  have hes' : ∀ e ∈ es, e < 2 ^ n := by simpa using hes
  have HES := Lib.hid hes'; clear hes hes' hn
  have HLE := Lib.hid hr.len
  have HR := Lib.hid hr; clear hr
  have HC := Lib.hid hcc; clear hcc
  have HFC := Lib.hid (show freeCode n es f = 0 by rw [freeCode, if_pos HC.out, if_neg (by omega)])
  have HG := Lib.hid (GB.made w 24 (.int .i64 n) (.slice A len c))
  have HW := Lib.hid (al w (.cells #[.int .i64 n, .slice A len c] 24))
  go_enter Tryd.func12, Tryd.ntmps12
  go_wp2_with fail
  refine (checkFree_any n A es len c f _ (HR.out.new HW.out)).mono ?_
  rintro e w1 ⟨rfl, hb⟩
  rw [HFC.out]
  replace HG := Lib.hid (HG.out.new hb)
  have HB := Lib.hid (bthen HW.out hb (by simp)); clear hb HW
  have g0 := HG.out.c0; have g1 := HG.out.c1; have gl := HG.out.lt
  go_wp2_with fail
  refine (acyclic_ok n A es len c _ (HR.out.new HB.out) HC.out).mono ?_
  rintro e w2 ⟨b, hb0, rfl, hb⟩
  have HAC := Lib.hid hb0; clear hb0
  replace HG := Lib.hid (HG.out.new hb)
  replace HB := Lib.hid (bthen HB.out hb HB.out.size); clear hb g0 g1 gl
  have g0 := HG.out.c0; have g1 := HG.out.c1; have gl := HG.out.lt
  cases b with
  | false =>
    have HF := Lib.hid (show (false = true ↔ FreeCon n es f) from ⟨fun h => (by cases h), fun h => absurd (HAC.out.2 h.1) (by simp)⟩)
    go_wp2_with fail
    go_ret2
    exact ⟨false, HF.out, rfl, HB.out⟩
  | true =>
    go_wp2_with fail
    refine (cxext_any n A es len c f _ (HR.out.new HB.out) (by omega) (by omega)).mono ?_
    rintro e w3 ⟨v, u, rfl, hown, _, hb⟩
    have hbd : ∀ e ∈ keptE es ++ [2 ^ f - 1], e < 2 ^ n := bound_snoc hf fun e he => HES.out e (keptE_mem e he)
    have hkl := keptE_len (es := es)
    have hacc : checkCode n (keptE es ++ [2 ^ f - 1]) = 0 := code_ok hn' (by simp; have := HLE.out; omega) hbd
    obtain ⟨A2, c2, rfl, hx⟩ := Es.of_rowU hown (fun e he => Nat.lt_of_lt_of_le (hbd e he) (Nat.le_trans (two_pow_le hn') (by decide)))
    have HX := Lib.hid hx
    have HAK := Lib.hid (acyc_kept hn' HES.out (below_pow hf))
    have HACC := Lib.hid hacc
    replace HB := Lib.hid (bthen HB.out hb HB.out.size); clear hb hx hown hbd hacc hkl g0 g1 gl
    generalize keptE es ++ [2 ^ f - 1] = L at *
    go_wp2_with fail
    refine (acyclic_ok n A2 L L.length c2 _ (HX.out.new (al _ _)) HACC.out).mono ?_
    rintro e w4 ⟨b, hb0, rfl, hb⟩
    have hb' := bthen (al w3 (.cells #[.int .i64 n, .slice A2 L.length c2] 24)) hb (by simp)
    replace HB := Lib.hid (bthen HB.out hb' HB.out.size)
    have HF := Lib.hid (show (b = true ↔ FreeCon n es f) by rw [hb0, HAK.out]; exact ⟨fun h => ⟨HAC.out.1 (by simp), h⟩, fun h => h.2⟩)
    clear hb hb' hb0
    go_wp2_with fail
    go_ret2
    exact ⟨b, HF.out, rfl, HB.out⟩
set_option maxHeartbeats 1000000 in
theorem connex_bad (n f : Int) (A : Option Addr) (es : List Nat) (len c : Nat) (w : World) (hr : Es w w.heap.size A len es) (hfc : freeCode n es f ≠ 0) :
    Calls Tryd.prog 12 #[.agg #[.int .i64 n, .slice A len c], .int .i64 f] w fun e w' => e = .returned (.tuple #[.bool false, .int .i64 (freeCode n es f)]) ∧ Below w.heap.size w w' := by
  have HR := Lib.hid hr; clear hr
  have HW := Lib.hid (al w (.cells #[.int .i64 n, .slice A len c] 24))
  go_enter Tryd.func12, Tryd.ntmps12
  go_wp2_with fail
  refine (checkFree_any n A es len c f _ (HR.out.new HW.out)).mono ?_
  rintro e w1 ⟨rfl, hb⟩
  obtain ⟨fc, hfe⟩ : ∃ x, x = freeCode n es f := ⟨_, rfl⟩
  rw [← hfe] at hfc ⊢
  have HFE := Lib.hid hfe; clear hfe
  have t0 : (fc != 0) = true := by simpa using hfc
  have HB := Lib.hid (bthen HW.out hb (by simp)); clear hb HW hfc
  go_wp2_with fail
  go_ret2
  exact ⟨by rw [← HFE.out]; rfl, HB.out⟩
def ExtRet (n : Int) (L : List Nat) (w : World) (e : Ending) (w' : World) : Prop := ∃ v, e = .returned (.agg #[.int .i64 n, v]) ∧ w'.ownsRow w.heap.size 42 1 v L.length (U32 L) ∧ Below w.heap.size w w'
set_option maxRecDepth 100000 in
set_option maxHeartbeats 4000000 in
theorem lext_any (n : Int) (f : Nat) (A : Option Addr) (es : List Nat) (len c : Nat) (w : World) (hr : Es w w.heap.size A len es) (hf : f ≤ 32) (hl : len ≤ 70) :
    Calls Tryd.prog 15 #[.agg #[.int .i64 n, .slice A len c], .int .i64 f] w (ExtRet n (es ++ [2 ^ f - 1]) w) := by
  have hlen := hr.len
  subst hlen
  have HR := Lib.hid hr; clear hr
  have hg0 := (GB.made w 24 (.int .i64 n) (.slice A es.length c)).alloc (.cells #[.int .i64 0, .slice none 0 0] 24)
  have hg1 : GB ((w.alloc (.cells #[.int .i64 n, .slice A es.length c] 24)).alloc (.cells #[.int .i64 0, .slice none 0 0] 24)) (w.heap.size + 1) 24 (.int .i64 0) (.slice none 0 0) := by
    simpa using GB.made (w.alloc (.cells #[.int .i64 n, .slice A es.length c] 24)) 24 (.int .i64 0) (.slice none 0 0)
  have H0 := Lib.hid hg0; have H1 := Lib.hid hg1
  have HB := Lib.hid (show Below w.heap.size w ((w.alloc (.cells #[.int .i64 n, .slice A es.length c] 24)).alloc (.cells #[.int .i64 0, .slice none 0 0] 24)) from bthen (al w _) (al _ _) (by simp))
  have hsz : w.heap.size + 2 = ((w.alloc (.cells #[.int .i64 n, .slice A es.length c] 24)).alloc (.cells #[.int .i64 0, .slice none 0 0] 24)).heap.size := by simp
  have e1 : IntKind.u32.wrap (IntKind.u32.wrap (2 ^ f) - 1) = ((2 ^ f - 1 : Nat) : Int) := by
    have h3 := pow2_pos f
    have hw : ∀ x : Int, IntKind.u32.wrap x = x % 4294967296 := fun x => by simp [IntKind.wrap, IntKind.bits, IntKind.signed]
    rw [hw, hw]
    by_cases h : f = 32
    · subst h; decide
    · have h2 : (2 : Nat) ^ f < 4294967296 := pow2_lt32 (by omega)
      have e3 : ((2 : Int) ^ f) = ((2 ^ f : Nat) : Int) := by simp
      rw [e3]; omega
  clear hg0 hg1
  go_enter Tryd.func15, Tryd.ntmps15
  go_upto_region 1 with (fail)
  generalize ((w.alloc (.cells #[.int .i64 n, .slice A es.length c] 24)).alloc (.cells #[.int .i64 0, .slice none 0 0] 24)) = W0 at *
  have c0 := H0.out.c0; have c1 := H0.out.c1; have d0 := H1.out.c0; have d1 := H1.out.c1; have f0 := H1.out.f0; have f1 := H1.out.f1; have l4 := H1.out.lt; have l2 := H0.out.lt
  have HE := Lib.hid (HR.out.new HB.out)
  have j0 : (0 : Int) ≤ (f : Int) := by omega
  have hsz2 : w.heap.size + 1 ≤ W0.heap.size := by omega
  have hle2 : es.length ≤ 1000000 := by omega
  have hD : Below W0.heap.size W0 W0.drew := Below.drew (Below.refl _ _)
  have HD := Lib.hid hD; clear hD
  have HDA := Lib.hid (show Below W0.heap.size W0 (W0.drew.alloc (.cells #[.int .u32 ((2 ^ f - 1 : Nat) : Int)] 42)) from (Below.drew (Below.refl _ _)).alloc (Nat.le_refl _) _)
  have HBK := Lib.hid (show Blk (W0.drew.alloc (.cells #[.int .u32 ((2 ^ f - 1 : Nat) : Int)] 42)) W0.heap.size 42 #[.int .u32 ((2 ^ f - 1 : Nat) : Int)] from Blk.new W0.drew _ _)
  go_region_held3 (fun w' => (w'.cell? ⟨w.heap.size, 0, none⟩ = some (.int .i64 n) ∧ w'.cell? ⟨w.heap.size, 1, none⟩ = some (.slice A es.length c)) ∧ Below (w.heap.size + 1) W0 w')
    ((refine keepG4 H0.out (Nat.lt_succ_self _) ?_; first | exact (Hid.out HBA) | exact (Hid.out HBA).setCell (p := ⟨w.heap.size + 1, 1, none⟩) (Nat.le_refl _) _ | exact ((Hid.out HBA).setCell (p := ⟨w.heap.size + 1, 0, none⟩) (Nat.le_refl _) _).setCell (p := ⟨w.heap.size + 1, 1, none⟩) (Nat.le_refl _) _ | exact (Hid.out HBC).mono hsz2 | exact ((Hid.out HBC).alloc (Hid.out HBC).size _).mono hsz2 | exact (Hid.out HDA).mono hsz2 | exact (Hid.out HD).mono hsz2))
    (first
    | ((refine step_app_u32c rfl _ _ rfl W0.heap.size (.slice A5 es.length c5) es rfl (World.ownsRow.alloc HO5.out _) w5.heap.size (2 ^ f - 1) rfl (Blk.new _ _ _) hle2 (by have := HBC.out.size; simp; omega) ?_; intro v' w7 hown' hgr hor; obtain ⟨A7, c7, rfl⟩ := own_form hown'; have HO7 := Lib.hid hown'; have HBA := Lib.hid (show Below (w.heap.size + 1) W0 w7 from (Below.appended (HBC.out.alloc HBC.out.size _) (World.ownsRow.alloc HO5.out _) hgr (by have := HBC.out.size; simp; omega) (Nat.le_refl _)).mono hsz2); have h7 := GB.appended ((H1.out.new HBC.out).alloc _) (World.ownsRow.alloc HO5.out _) hgr (by decide); have d0 := h7.c0; have d1 := h7.c1; have f0 := h7.f0; have f1 := h7.f1; have l7 := h7.lt; have H7 := Lib.hid h7; clear hown' hgr hor h7))
    | ((refine step_app_u32c rfl _ _ rfl W0.heap.size (.slice A5 es.length c5) es rfl HO5.out W0.heap.size (2 ^ f - 1) rfl HK5.out hle2 (by have := HBC.out.size; omega) ?_; intro v' w7 hown' hgr hor; obtain ⟨A7, c7, rfl⟩ := own_form hown'; have HO7 := Lib.hid hown'; have HBA := Lib.hid (show Below (w.heap.size + 1) W0 w7 from (Below.appended HBC.out HO5.out hgr HBC.out.size (Nat.le_refl _)).mono hsz2); have h7 := GB.appended (H1.out.new HBC.out) HO5.out hgr (by decide); have d0 := h7.c0; have d1 := h7.c1; have f0 := h7.f0; have f1 := h7.f1; have l7 := h7.lt; have H7 := Lib.hid h7; clear hown' hgr hor h7))
    | (go_at_call 31; refine (clone_u32 A es es.length c W0.drew (HE.out.new HD.out) hle2).mono ?_; rintro e w5 ⟨A5, c5, rfl, hown, hb⟩; have HO5 := Lib.hid (own_lower (base' := W0.heap.size) hown (Nat.le_refl _)); have HBC := Lib.hid (bthen HD.out hb HD.out.size); clear hown hb)
    | (go_at_call 31; refine (clone_u32 A es es.length c (W0.drew.alloc (.cells #[.int .u32 ((2 ^ f - 1 : Nat) : Int)] 42)) (HE.out.new HDA.out) hle2).mono ?_; rintro e w5 ⟨A5, c5, rfl, hown, hb⟩; have HO5 := Lib.hid (own_lower (base' := W0.heap.size) hown HDA.out.size); have HBC := Lib.hid (bthen HDA.out hb HDA.out.size); have HK5 := Lib.hid (HBK.out.below hb HBK.out.lt); clear hown hb))
  all_goals
    have HB7 := Lib.hid (show Below w.heap.size w w7 from HB.out.trans (HBA.out.mono (Nat.le_succ _)))
    go_wp2_with fail
    have hl9 : (es ++ [(2 ^ f - 1 : Nat)] : List Nat).length = es.length + 1 := by simp
    have h9 := HO7.out
    rw [hl9] at h9
    refine bodyPost_ret (v := .agg #[.int .i64 n, .slice A7 (es.length + 1) c7]) ?_ rfl ⟨.slice A7 (es.length + 1) c7, rfl, ?_, two_below HB7.out (by omega) _ _⟩
    · exact results_cell_row Tryd.results15 _ _ _ _ _ (0, 0) _ rfl ((H7.out.set0 (.int .i64 n)).set1 (.slice A7 (es.length + 1) c7)).blk Tryd.underlying24 rfl (graph_size _ _)
    · rw [hl9]
      exact own_lower (own_far (own_far h9 H7.out.blk (by decide) 0 _) (H7.out.set0 _).blk (by decide) 1 _) (by omega)
end Go.Proofs.YtjofdlafblpclaaDoor
