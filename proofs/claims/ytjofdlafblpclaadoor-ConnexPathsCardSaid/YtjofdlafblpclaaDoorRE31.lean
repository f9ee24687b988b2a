/-
  Contracts of the reference of layer 31: extend, Path.
-/
import Derived.Test.YtjofdlafblpclaaDoorCxZ
import Derived.Test.YtjofdlafblpclaaDoorFew
import Derived.Test.YtjofdlafblpclaaDoorMk
namespace Go.Proofs.YtjofdlafblpclaaDoor
open Go.RowKit
set_option linter.unusedSimpArgs false
set_option linter.unusedVariables false

theorem mem_nth31 {l : List Nat} {y : Nat} (h : y ∈ l) : ∃ j, j < l.length ∧ nth l j = y := by
  obtain ⟨i, hi, rfl⟩ := List.getElem_of_mem h
  exact ⟨i, hi, nth_eq hi⟩
def GB31 (es : List Nat) (f : Nat) (l : List Nat) : Bool := isB es f (ints l)
theorem prune31 {n f : Nat} {es : List Nat} (hn : n ≤ 32) (hb : ∀ e ∈ es, e < 2 ^ n) {p : List Nat} (hp : ∀ i, i < p.length → nth p i < n) (h0 : 0 < p.length) {v : Nat} (hv : v < n) (h : adj31 es (nth p (p.length - 1)) v = false) (k : Nat) : srchF (GB31 es f) n k (p ++ [v]) = none := by
  refine srch_none k _ (fun l hl hlt he _ => ?_) (fun i hi => ?_)
  · cases h9 : GB31 es f l with
    | false => rfl
    | true =>
      have hF := (isB_iff hn hb hlt).1 h9
      rw [List.length_append, List.length_singleton] at hl
      have e1 := he p.length (by simp)
      rw [nth_snoc, if_neg (by omega), if_pos rfl] at e1
      have e2 := he (p.length - 1) (by simp; omega)
      rw [nth_snoc, if_pos (by omega)] at e2
      have h1 := (hF.link p.length (p.length - 1) (by omega) (by omega)).2 (by omega)
      have h2 := symm_adj hn hb _ _ (by have := hF.lt p.length (by omega); omega) (by have := hF.lt (p.length - 1) (by omega); omega) h1
      rw [e1, e2] at h2
      have h3 := (adj31_iff hn hb (hp (p.length - 1) (by omega))).2 h2
      rw [h3] at h; cases h
  · rw [nth_snoc]
    split
    · exact hp i (by assumption)
    · split
      · exact hv
      · omega
def ExtR (o : Option (List Nat)) (w : World) (e : Ending) (w' : World) : Prop := (match o with
  | some l => ∃ A c, e = .returned (.slice A l.length c) ∧ Xs w' w'.heap.size A l.length (ints l) ∧ 3 ≤ l.length
  | none => e = .returned (.slice none 0 0)) ∧ Below w.heap.size w w'
theorem range_ints {n : Nat} {p : List Nat} (hp : ∀ i, i < p.length → nth p i < n) : rangeTo n (ints p) (ints p).length = true := by
  rw [rangeTo, List.all_eq_true]
  intro k hk
  rw [ints_length, List.mem_range] at hk
  rw [inth_ints hk]
  have := hp k hk
  simp
  omega
set_option maxRecDepth 100000 in
set_option maxHeartbeats 8000000 in
theorem ext31_any (n fr : Nat) (A : Option Addr) (es : List Nat) (len c : Nat) (hn : n ≤ 32) (hes : ∀ e ∈ es, e < 2 ^ n) : ∀ (f : Nat) (p : List Nat) (B : Option Addr) (d L : Nat) (w : World) (hr : Es w w.heap.size A len es) (hx : Xs w w.heap.size B p.length (ints p)) (hp : ∀ i, i < p.length → nth p i < n) (hL : p.length + f = L) (hLn : L ≤ 1000),
    Calls Tryd.prog 36 #[.int .i64 n, .slice A len c, .int .i64 fr, .slice B p.length d, .int .i64 L] w (ExtR (srchF (GB31 es fr) n f p) w)
  | 0, p, B, d, L, w, hr, hx, hp, hL, _ => by
    obtain rfl : L = p.length := by omega
    have HX := Lib.hid hx; clear hx
    have HR := Lib.hid hr; clear hr
    have HRG := Lib.hid (range_ints hp); clear hp
    have HES := Lib.hid hes; clear hes
    have hlp := HX.out.le
    have HGE := Lib.hid (show srchF (GB31 es fr) n 0 p = if isB es fr (ints p) then some p else none from rfl)
    have HLE := Lib.hid (show isB es fr (ints p) = true → 3 ≤ p.length from fun h => by
      rw [isB, Bool.and_eq_true] at h
      have := of_decide_eq_true h.1
      rwa [ints_length] at this)
    go_enter Tryd.func36, Tryd.ntmps36
    go_wp2_with fail
    refine (is31_any n fr A es len c B (ints p) p.length d _ HR.out HX.out HRG.out hn).mono ?_
    rintro e w1 ⟨rfl, hb⟩
    have HB := Lib.hid hb; clear hb
    cases hcb : isB es fr (ints p) with
    | false =>
      have HF := Lib.hid (show srchF (GB31 es fr) n 0 p = none by rw [HGE.out, hcb]; rfl); clear hcb
      go_wp2_with fail
      go_ret
      rw [HF.out]
      exact ⟨rfl, HB.out⟩
    | true =>
      have HF := Lib.hid (show srchF (GB31 es fr) n 0 p = some p by rw [HGE.out, hcb]; rfl)
      have H3 := Lib.hid (HLE.out hcb); clear hcb
      go_wp2_with fail
      go_ret
      rw [HF.out]
      exact ⟨⟨B, d, rfl, HX.out.new HB.out, H3.out⟩, HB.out⟩
  | f + 1, p, B, d, L, w, hr, hx, hp, hL, hLn => by
    have IH := Lib.hid (fun p B d w hr hx hp hL => ext31_any n fr A es len c hn hes f p B d L w hr hx hp hL hLn)
    have HX := Lib.hid hx; clear hx
    have HR := Lib.hid hr; clear hr
    have HP := Lib.hid hp; clear hp
    have HPR := Lib.hid (fun h0 v (hv : v < n) h => prune31 (f := fr) hn hes HP.out h0 hv h f)
    clear hes
    have t0 : ((p.length : Int) == (L : Int)) = false := by simp; omega
    obtain ⟨G, hG⟩ : ∃ G, G = GB31 es fr := ⟨_, rfl⟩
    rw [← hG] at IH HPR ⊢
    clear hG
    have HSF := Lib.hid (show srchF G n (f + 1) p = (List.range n).findSome? fun v => srchF G n f (p ++ [v]) from rfl)
    have hlp : p.length ≤ 1000 := by omega
    go_enter Tryd.func36, Tryd.ntmps36
    go_wp2_with fail
    go_loopw [11] (fun iv wr => ∃ k : Nat, iv = .int .i64 k ∧ k ≤ n ∧ Hid ((∀ u, u < k → srchF G n f (p ++ [u]) = none) ∧ Below w.heap.size w wr)) (fun iv _ => n - (intOf iv).toNat)
    case atStart => exact ⟨0, rfl, Nat.zero_le _, Lib.hid ⟨fun u hu => by omega, Below.refl _ _⟩⟩
    case round =>
      obtain ⟨k, rfl, hk, HK⟩ := hrel
      by_cases hkn : k < n
      · obtain ⟨i, hi, hz, hs1, hby⟩ := info_parts info_int
        have HXr := Lib.hid (HX.out.new HK.out.2)
        have hwb : w.heap.size ≤ wr.heap.size := HK.out.2.size
        have HIH := Lib.hid (fun (v' : Value) (W : World) (hb : Below wr.heap.size wr W) (ho : W.ownsRow wr.heap.size 3 1 v' (p.length + 1) (I64 (ints p ++ [(k : Int)]))) => show Calls Tryd.prog 36 #[.int .i64 n, .slice A len c, .int .i64 fr, v', .int .i64 L] W (ExtR (srchF G n f (p ++ [k])) W) by
          have hpk : ∀ i, i < (p ++ [k]).length → nth (p ++ [k]) i < n := by
            intro i hi
            rw [List.length_append, List.length_singleton] at hi
            rw [nth_snoc]
            split
            · exact HP.out i (by assumption)
            · rw [if_pos (by omega)]; exact hkn
          rw [← ints_snoc, show p.length + 1 = (p ++ [k]).length by simp, show (p ++ [k]).length = (ints (p ++ [k])).length by rw [ints_length]] at ho
          obtain ⟨A8, c8, rfl, hx8⟩ := Xs.of_own ho (fun x hx => by
            obtain ⟨y, hy, rfl⟩ := List.mem_map.1 hx
            obtain ⟨j, hj, rfl⟩ := mem_nth31 hy
            have := hpk j hj; omega)
          rw [ints_length] at hx8 ⊢
          exact IH.out (p ++ [k]) A8 c8 W (HR.out.new (HK.out.2.trans (hb.mono hwb))) hx8 hpk (by simp; omega))
        by_cases h0 : 0 < p.length
        · have t1 : decide ((p.length : Int) > 0) = true := by simp; omega
          obtain ⟨ad, hB, hb1, hcell⟩ := HXr.out.at_ (k := p.length - 1) (by omega)
          rw [inth_ints (by omega)] at hcell
          have hla := HP.out (p.length - 1) (by omega)
          have hq : ((p.length : Int) - 1) = ((p.length - 1 : Nat) : Int) := by omega
          have HPK := Lib.hid (HPR.out h0 k hkn)
          have HAD := Lib.hid (adj31_any (nth p (p.length - 1)) k A es len c wr (HR.out.new HK.out.2) (by omega) (by omega))
          generalize nth p (p.length - 1) = la at *
          subst hB
          have i3 : (0 : Int) ≤ ((p.length - 1 : Nat) : Int) := by omega
          have i4 : ((p.length - 1 : Nat) : Int) < (p.length : Int) := by omega
          generalize p.length - 1 = lm at *
          go_wp2_with fail
          refine HAD.out.mono ?_
          rintro e wz ⟨rfl, rfl⟩
          cases had : adj31 es la k with
          | false =>
            have HNO := Lib.hid (HPK.out had); clear had
            go_wp2_with fail
            exact ⟨⟨k + 1, by go_num, by omega, Lib.hid ⟨fun u hu => by
              rcases Nat.lt_or_ge u k with h | h
              · exact HK.out.1 u h
              · obtain rfl : u = k := by omega
                exact HNO.out, HK.out.2⟩⟩, by simp [intOf]; omega⟩
          | true =>
            clear had hcell hq
            go_wp2_with (at_builtin; first
              | (refine wpList_append_any _ rfl _ _ 33 rfl wr.heap.size 3 i _ 1 8 Tryd.underlying33 hi hz hs1 hby rfl (by omega) (.slice none 0 0) 0 [] rfl (own_nil _ _ _) wr.heap.size (some ad) p.length d (I64 (ints p)) rfl HXr.out.1 (one_I64 _) (by simp only [maxLen]; omega) (by omega) (Nat.le_refl _) ?_; intro v' w5 hown' hgr hor; rw [Nat.zero_add, List.nil_append] at hown'; obtain ⟨A7, c7, rfl⟩ := own_form hown'; have HO5 := Lib.hid hown'; have HB5 := Lib.hid (show Below wr.heap.size wr w5 from Below.appended (Below.refl _ _) (own_nil wr wr.heap.size 3) hgr (Nat.le_refl _) (Nat.le_refl _)); clear hown' hgr hor)
              | (refine app_int rfl _ _ rfl wr.heap.size (.slice A7 p.length c7) p.length (ints p) rfl (World.ownsRow.alloc HO5.out _) w5.heap.size (k : Int) rfl (Blk.new _ _ _) (by omega) (by have := HB5.out.size; simp; omega) ?_; intro v' w6 hown' hgr hor; have HW6 := Lib.hid hown'; have HBA := Lib.hid (show Below wr.heap.size wr w6 from Below.appended ((HB5.out).alloc HB5.out.size _) (World.ownsRow.alloc HO5.out _) hgr (by have := HB5.out.size; simp; omega) (Nat.le_refl _)); clear hown' hgr hor))
            refine (HIH.out _ _ HBA.out HW6.out).mono ?_
            cases hsr : srchF G n f (p ++ [k]) with
            | some l' =>
              have HF := Lib.hid (show srchF G n (f + 1) p = some l' by rw [HSF.out]; exact findSome_at (fun u hu => HK.out.1 u hu) hsr hkn); clear hsr
              rintro e w7 ⟨⟨A9, c9, rfl, hx9, h39⟩, hb7⟩
              have HX9 := Lib.hid hx9
              have H39 := Lib.hid h39
              have HB7 := Lib.hid (HK.out.2.trans ((HBA.out.trans (hb7.mono HBA.out.size)).mono hwb))
              have t9 : decide ((l'.length : Int) > 0) = true := decide_eq_true (by omega)
              have t8 : decide (0 < l'.length) = true := decide_eq_true (by omega)
              have t7 : 0 < l'.length := by omega
              clear hx9 h39 hb7
              go_wp2_with fail
              go_ret
              rw [HF.out]
              exact ⟨⟨A9, c9, rfl, HX9.out, H39.out⟩, HB7.out⟩
            | none =>
              have HNO := Lib.hid hsr; clear hsr
              rintro e w7 ⟨rfl, hb7⟩
              have HB7 := Lib.hid (HK.out.2.trans ((HBA.out.trans (hb7.mono HBA.out.size)).mono hwb))
              clear hb7
              go_wp2_with fail
              exact ⟨⟨k + 1, by go_num, by omega, Lib.hid ⟨fun u hu => by
                rcases Nat.lt_or_ge u k with h | h
                · exact HK.out.1 u h
                · obtain rfl : u = k := by omega
                  exact HNO.out, HB7.out⟩⟩, by simp [intOf]; omega⟩
        · have t1 : decide ((p.length : Int) > 0) = false := decide_eq_false (by omega)
          have t2 : decide (0 < p.length) = false := decide_eq_false (by omega)
          go_wp2_with (at_builtin; first
            | (refine wpList_append_any _ rfl _ _ 33 rfl wr.heap.size 3 i _ 1 8 Tryd.underlying33 hi hz hs1 hby rfl (by omega) (.slice none 0 0) 0 [] rfl (own_nil _ _ _) wr.heap.size B p.length d (I64 (ints p)) rfl HXr.out.1 (one_I64 _) (by simp only [maxLen]; omega) (by omega) (Nat.le_refl _) ?_; intro v' w5 hown' hgr hor; rw [Nat.zero_add, List.nil_append] at hown'; obtain ⟨A7, c7, rfl⟩ := own_form hown'; have HO5 := Lib.hid hown'; have HB5 := Lib.hid (show Below wr.heap.size wr w5 from Below.appended (Below.refl _ _) (own_nil wr wr.heap.size 3) hgr (Nat.le_refl _) (Nat.le_refl _)); clear hown' hgr hor)
            | (refine app_int rfl _ _ rfl wr.heap.size (.slice A7 p.length c7) p.length (ints p) rfl (World.ownsRow.alloc HO5.out _) w5.heap.size (k : Int) rfl (Blk.new _ _ _) (by omega) (by have := HB5.out.size; simp; omega) ?_; intro v' w6 hown' hgr hor; have HW6 := Lib.hid hown'; have HBA := Lib.hid (show Below wr.heap.size wr w6 from Below.appended ((HB5.out).alloc HB5.out.size _) (World.ownsRow.alloc HO5.out _) hgr (by have := HB5.out.size; simp; omega) (Nat.le_refl _)); clear hown' hgr hor))
          refine (HIH.out _ _ HBA.out HW6.out).mono ?_
          cases hsr : srchF G n f (p ++ [k]) with
          | some l' =>
            have HF := Lib.hid (show srchF G n (f + 1) p = some l' by rw [HSF.out]; exact findSome_at (fun u hu => HK.out.1 u hu) hsr hkn); clear hsr
            rintro e w7 ⟨⟨A9, c9, rfl, hx9, h39⟩, hb7⟩
            have HX9 := Lib.hid hx9
            have H39 := Lib.hid h39
            have HB7 := Lib.hid (HK.out.2.trans ((HBA.out.trans (hb7.mono HBA.out.size)).mono hwb))
            have t9 : decide ((l'.length : Int) > 0) = true := decide_eq_true (by omega)
            have t8 : decide (0 < l'.length) = true := decide_eq_true (by omega)
            have t7 : 0 < l'.length := by omega
            clear hx9 h39 hb7
            go_wp2_with fail
            go_ret
            rw [HF.out]
            exact ⟨⟨A9, c9, rfl, HX9.out, H39.out⟩, HB7.out⟩
          | none =>
            have HNO := Lib.hid hsr; clear hsr
            rintro e w7 ⟨rfl, hb7⟩
            have HB7 := Lib.hid (HK.out.2.trans ((HBA.out.trans (hb7.mono HBA.out.size)).mono hwb))
            clear hb7
            go_wp2_with fail
            exact ⟨⟨k + 1, by go_num, by omega, Lib.hid ⟨fun u hu => by
              rcases Nat.lt_or_ge u k with h | h
              · exact HK.out.1 u h
              · obtain rfl : u = k := by omega
                exact HNO.out, HB7.out⟩⟩, by simp [intOf]; omega⟩
      · have HF := Lib.hid (show srchF G n (f + 1) p = none by rw [HSF.out]; exact findSome_none fun u hu => HK.out.1 u (by omega))
        go_wp2_with fail
        go_ret
        rw [HF.out]
        exact ⟨rfl, HK.out.2⟩
theorem xs_nil31 (w : World) : Xs w w.heap.size none ([] : List Nat).length (ints []) := ⟨Reads.none_, ⟨rfl, by simp⟩, by intro x hx; simp [ints] at hx⟩
def stepR (es : List Nat) (fr n m : Nat) : Option (List Nat) := if 3 ≤ m then srchF (GB31 es fr) n m [] else none
theorem refPath_eq (n fr : Nat) (es : List Nat) : refPath n es fr = (List.range (n + 1)).findSome? (stepR es fr n) := rfl
set_option maxRecDepth 100000 in
set_option maxHeartbeats 8000000 in
theorem rpath_any (n fr : Nat) (A : Option Addr) (es : List Nat) (len c : Nat) (hn : n ≤ 32) (hes : ∀ e ∈ es, e < 2 ^ n) (w : World) (hr : Es w w.heap.size A len es) :
    Calls Tryd.prog 17 #[.int .i64 n, .slice A len c, .int .i64 fr] w (ExtR (refPath n es fr) w) := by
  have HR := Lib.hid hr; clear hr
  have HSE := Lib.hid (fun m W hr hm => ext31_any n fr A es len c hn hes m [] none 0 m W hr (xs_nil31 W) (fun i hi => by simp at hi) (by simp) hm)
  clear hes
  have HRP := Lib.hid (refPath_eq n fr es)
  go_enter Tryd.func17, Tryd.ntmps17
  go_wp2_with fail
  go_loopw [7] (fun iv wr => ∃ m : Nat, iv = .int .i64 m ∧ 3 ≤ m ∧ m ≤ 33 ∧ Hid ((∀ j, j < m → stepR es fr n j = none) ∧ Below w.heap.size w wr)) (fun iv _ => 40 - (intOf iv).toNat)
  case atStart => exact ⟨3, rfl, by omega, by omega, Lib.hid ⟨fun j hj => by unfold stepR; rw [if_neg (by omega)], Below.refl _ _⟩⟩
  case round =>
    obtain ⟨m, rfl, hm3, hm, HK⟩ := hrel
    by_cases hmn : m ≤ n
    · have HST := Lib.hid (show stepR es fr n m = srchF (GB31 es fr) n m [] by unfold stepR; rw [if_pos hm3])
      go_wp2_with fail
      refine (HSE.out m _ (HR.out.new HK.out.2) (by omega)).mono ?_
      cases hsr : srchF (GB31 es fr) n m [] with
      | some l' =>
        have HF := Lib.hid (show refPath n es fr = some l' by rw [HRP.out]; exact findSome_at (fun u hu => HK.out.1 u hu) (HST.out.trans hsr) (by omega)); clear hsr
        rintro e w7 ⟨⟨A9, c9, rfl, hx9, h39⟩, hb7⟩
        have HX9 := Lib.hid hx9
        have H39 := Lib.hid h39
        have HB7 := Lib.hid (bthen HK.out.2 hb7 HK.out.2.size)
        have t9 : decide ((l'.length : Int) > 0) = true := decide_eq_true (by omega)
        have t8 : decide (0 < l'.length) = true := decide_eq_true (by omega)
        have t7 : 0 < l'.length := by omega
        clear hx9 h39 hb7
        go_wp2_with fail
        go_ret
        rw [HF.out]
        exact ⟨⟨A9, c9, rfl, HX9.out, H39.out⟩, HB7.out⟩
      | none =>
        have HNO := Lib.hid (HST.out.trans hsr); clear hsr
        rintro e w7 ⟨rfl, hb7⟩
        have HB7 := Lib.hid (bthen HK.out.2 hb7 HK.out.2.size)
        clear hb7
        go_wp2_with fail
        exact ⟨⟨m + 1, by go_num, by omega, by omega, Lib.hid ⟨fun u hu => by
          rcases Nat.lt_or_ge u m with h | h
          · exact HK.out.1 u h
          · obtain rfl : u = m := by omega
            exact HNO.out, HB7.out⟩⟩, by simp [intOf]; omega⟩
    · have HF := Lib.hid (show refPath n es fr = none by rw [HRP.out]; exact findSome_none fun u hu => HK.out.1 u (by omega))
      go_wp2_with fail
      go_ret
      rw [HF.out]
      exact ⟨rfl, HK.out.2⟩
end Go.Proofs.YtjofdlafblpclaaDoor
