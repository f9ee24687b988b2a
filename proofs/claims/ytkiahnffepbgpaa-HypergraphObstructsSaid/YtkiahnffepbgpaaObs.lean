/-
  Contract of hypergraph.Obstruction.
-/
import Derived.Test.YtkiahnffepbgpaaObsF
import Derived.Test.YtkiahnffepbgpaaCl
import Derived.Test.YtkiahnffepbgpaaCmpL
import Derived.Test.YtkiahnffepbgpaaHyp
namespace Go.Proofs.Ytkiahnffepbgpaa
open Go.RowKit
set_option linter.unusedSimpArgs false
set_option linter.unusedVariables false

theorem lex_cmp : ∀ xs ys : List Nat, lexLt xs ys = decide (cmpL (ints xs) (ints ys) < 0)
  | [], [] => by simp [lexLt, cmpL, ints]
  | [], _ :: _ => by simp [lexLt, cmpL, ints]
  | _ :: _, [] => by simp [lexLt, cmpL, ints]
  | x :: xs, y :: ys => by
    have ih := lex_cmp xs ys
    unfold ints at ih
    simp only [lexLt, ints, List.map_cons, cmpL]
    by_cases h1 : x < y
    · simp [h1, show (x : Int) < (y : Int) by omega]
    · by_cases h2 : y < x
      · simp [h1, h2, show ¬ (x : Int) < (y : Int) by omega, show (y : Int) < (x : Int) by omega]
      · simp [h1, h2, show ¬ (x : Int) < (y : Int) by omega, show ¬ (y : Int) < (x : Int) by omega, ih]
theorem ints_bound {l : List Nat} {n : Nat} (hn : n ≤ 32) (h : ∀ x ∈ l, x < n) : ∀ x ∈ ints l, -9223372036854775808 ≤ x ∧ x ≤ 9223372036854775807 := by
  intro x hx
  simp only [ints, List.mem_map] at hx
  obtain ⟨y, hy, rfl⟩ := hx
  have := h y hy
  omega
theorem Xs.of_own2 {w : World} {base g c : Nat} {e : TypeId} {l : List Nat} {n : Nat} (hn : n ≤ 32) (hl : ∀ x ∈ l, x < n) (h : w.ownsRow base e 1 (.slice (some ⟨g, 0, none⟩) l.length c) l.length (I64 (ints l))) : Xs w w.heap.size (some ⟨g, 0, none⟩) l.length (ints l) := by
  obtain ⟨A, c', e1, hx⟩ := Xs.of_own h (ints_bound hn hl)
  injection e1 with e2 _ _
  rw [e2]; exact hx
/-- What Obstruction answers. -/
def ObsRet (l : List Nat × Bool) (w : World) (e : Ending) (w' : World) : Prop := ∃ v, e = .returned (.tuple #[v, .bool l.2]) ∧ w'.ownsRow w.heap.size 3 1 v l.1.length (I64 (ints l.1)) ∧ (l.1 = [] → v = .slice none 0 0) ∧ Below w.heap.size w w'
theorem ObsRet.of {x : List Nat × Bool} {l : List Nat} {b : Bool} (h : x = (l, b)) {v : Value} {w w' : World} (ho : w'.ownsRow w.heap.size 3 1 v l.length (I64 (ints l))) (hn : l = [] → v = .slice none 0 0) (hb : Below w.heap.size w w') : ObsRet x w (.returned (.tuple #[v, .bool b])) w' := by
  subst h; exact ⟨v, rfl, ho, hn, hb⟩
set_option maxRecDepth 100000 in
set_option maxHeartbeats 8000000 in
theorem obstruction_any (n : Nat) (A : Option Addr) (es : List Nat) (len c : Nat) (w : World) (hr : Es w w.heap.size A len es) (hcc : checkCode n es = 0) :
    Calls Try.prog 19 #[.agg #[.int .i64 n, .slice A len c]] w (ObsRet (obsF (adjRow n es) n es) w) := by
  obtain ⟨_, hn, hl64, hes⟩ := checkCode_zero hcc
  have hn' : n ≤ 32 := by omega
  have hes' : ∀ e ∈ es, e < 2 ^ n := by simpa using hes
  have hl64' : len ≤ 64 := by have := hr.len; omega
  have HRL := Lib.hid (show ∀ x ∈ adjRow n es, x < 2 ^ n from adjRow_lt hes')
  have HES := Lib.hid hes'; clear hes hes' hl64 hn
  have HR := Lib.hid hr; clear hr
  have HC := Lib.hid hcc; clear hcc
  have HG := Lib.hid (GB.made w 24 (.int .i64 n) (.slice A len c))
  have HW := Lib.hid (al w (.cells #[.int .i64 n, .slice A len c] 24))
  go_enter Try.func19, Try.ntmps19
  go_wp2_with fail
  refine (check_any n A es len c _ (HR.out.new HW.out)).mono ?_
  rintro e w1 ⟨rfl, hb⟩
  rw [HC.out]
  have HB1 := Lib.hid (bthen HW.out hb (by simp))
  have HG1 := Lib.hid (HG.out.new hb); clear hb HG HW
  have g0 := HG1.out.c0; have g1 := HG1.out.c1; have lg := HG1.out.lt
  go_wp2_with fail
  refine (adjacency_any n (by omega) A es len c _ (HR.out.new HB1.out)).mono ?_
  rintro e w2 ⟨rfl, hb⟩
  have HB2 := Lib.hid (bthen HB1.out hb HB1.out.size)
  have HG2 := Lib.hid (HG1.out.new hb); clear hb HG1 HB1 g0 g1 lg
  have g0 := HG2.out.c0; have lg := HG2.out.lt
  have hZ := Blk.new w2 78 (urow (zer 32))
  have hA2 := al w2 (.cells (urow (zer 32)) 78)
  have LZ := Lib.hid lg
  clear g0 lg
  go_upto_region 4 with (refine wpList_store_blk rfl 78 (.tmp 4) (.tmp 12) rfl w2.heap.size _ _ (urow (adjRow n es)) hZ rfl rfl (by rw [size_urow, size_urow, adjRow_length, zer_length]) (arr_size (adjRow n es) (adjRow_length n es)) (one_urow (adjRow n es)) ?_; intro w3 hR3 hg3 hs3)
  have hb3 : Below w2.heap.size w2 w3 := hA2.grown hg3 hA2.size (fun k hk => by cases hk; exact Nat.le_refl _)
  have HG3 := Lib.hid (HG2.out.new hb3)
  have HB3 := Lib.hid (bthen HB2.out hb3 HB2.out.size)
  have HR3 := Lib.hid hR3
  have HGW := Lib.hid (show w.heap.size ≤ w2.heap.size from HB2.out.size)
  generalize w2.heap.size = g3 at *
  clear hg3 hs3 hb3 hR3 hZ hA2 HG2 HB2 LZ HC
  have g0 := HG3.out.c0; have lg := HG3.out.lt
  go_wp2_with (refine wpList_load_blk rfl 78 (.tmp 4) rfl g3 _ (urow (adjRow n es)) _ HR3.out rfl Try.underlying78 rfl (arr_size (adjRow n es) (adjRow_length n es)) ?_)
  refine (shortestCycle_any n hn' (adjRow n es) (adjRow_length n es) HRL.out _).mono ?_
  rintro e w4 ⟨v4, rfl, hown4, hnil4, hb4⟩
  have HLN := Lib.hid (scF_length hn' HRL.out)
  have HLM := Lib.hid (scF_mem (R := adjRow n es) (n := n))
  obtain ⟨cyc, hcyc⟩ : ∃ x, x = scF (adjRow n es) n := ⟨_, rfl⟩
  rw [← hcyc] at hown4 hnil4 HLN HLM
  have HCY := Lib.hid hcyc; clear hcyc
  have HB4 := Lib.hid (bthen HB3.out hb4 HB3.out.size)
  have HG4 := Lib.hid (HG3.out.new hb4)
  have HR4 := Lib.hid (HR3.out.below hb4 HR3.out.lt)
  clear hb4 g0 lg
  have g0 := HG4.out.c0; have g1 := HG4.out.c1; have lg := HG4.out.lt
  by_cases hc0 : cyc = []
  · obtain rfl := hnil4 hc0
    have HC0 := Lib.hid hc0
    have HE := Lib.hid (show obsF (adjRow n es) n es = pickF [] (clF n es n) by rw [obsF, ← HCY.out, hc0]; rfl)
    clear hown4 hnil4 hc0
    go_wp2_with (refine wpList_load_blk rfl 78 (.tmp 4) rfl g3 _ (urow (adjRow n es)) _ HR4.out rfl Try.underlying78 rfl (arr_size (adjRow n es) (adjRow_length n es)) ?_)
    refine (smallestClique_any n hn' A es len c n HES.out hl64' (by omega) _ (HR.out.new HB4.out)).mono ?_
    rintro e w5 ⟨v5, rfl, hown5, hnil5, hb5⟩
    have HB5 := Lib.hid (bthen HB4.out hb5 HB4.out.size); clear hb5 g0 g1 lg
    obtain ⟨cl, hcl⟩ : ∃ x, x = clF n es n := ⟨_, rfl⟩
    have HE1 := Lib.hid (show obsF (adjRow n es) n es = pickF [] cl by rw [HE.out, hcl])
    rw [← hcl] at hown5 hnil5
    clear hcl HE
    by_cases hl0 : cl = []
    · obtain rfl := hnil5 hl0
      have HE := Lib.hid (show obsF (adjRow n es) n es = ([], false) by rw [HE1.out, pickF, if_pos hl0]; rfl)
      clear hown5 hnil5 hl0
      go_wp2_with fail
      go_ret2
      exact ObsRet.of HE.out (own_nil _ _ _) (fun _ => rfl) HB5.out
    · obtain ⟨g5, c5, rfl, hg5⟩ := own_some hown5 (List.length_pos_iff.2 hl0)
      have hl1 := List.length_pos_iff.2 hl0
      have HE := Lib.hid (show obsF (adjRow n es) n es = (cl, true) by rw [HE1.out, pickF, if_neg hl0]; rfl)
      have t1 : ((cl.length : Int) == 0) = false := by simp [hl0]
      have HO5 := Lib.hid hown5
      have HN5 := Lib.hid hl0
      clear hown5 hnil5 hl0 hl1
      go_wp2_with fail
      go_ret2
      exact ObsRet.of HE.out (own_lower HO5.out (by have := HB4.out.size; omega)) (fun h => absurd h HN5.out) HB5.out
  · obtain ⟨g4, c4, rfl, hg4⟩ := own_some hown4 (List.length_pos_iff.2 hc0)
    have hl0 := List.length_pos_iff.2 hc0
    have tc1 : ((cyc.length : Int) == 0) = false := by simp [hc0]
    have tc2 : decide ((cyc.length : Int) > 0) = true := by simp; omega
    have tc3 : decide (0 < cyc.length) = true := by simp; omega
    have HE := Lib.hid (show obsF (adjRow n es) n es = pickF cyc (clF n es cyc.length) by rw [obsF, ← HCY.out, mostF, if_neg hc0])
    have HO4 := Lib.hid hown4
    have HN4 := Lib.hid hc0
    have hcl40 : cyc.length ≤ 40 := by have := HLN.out; omega
    clear hown4 hnil4 hc0 hl0
    go_wp2_with (refine wpList_load_blk rfl 78 (.tmp 4) rfl g3 _ (urow (adjRow n es)) _ HR4.out rfl Try.underlying78 rfl (arr_size (adjRow n es) (adjRow_length n es)) ?_)
    refine (smallestClique_any n hn' A es len c cyc.length HES.out hl64' hcl40 _ (HR.out.new HB4.out)).mono ?_
    rintro e w5 ⟨v5, rfl, hown5, hnil5, hb5⟩
    have HB5 := Lib.hid (bthen HB4.out hb5 HB4.out.size)
    have HO45 := Lib.hid (own_below HO4.out hb5)
    have hws4 := HB4.out.size
    clear hb5 g0 g1 lg
    have HCM := Lib.hid (clF_mem (n := n) (es := es) (most := cyc.length))
    obtain ⟨cl, hcl⟩ : ∃ x, x = clF n es cyc.length := ⟨_, rfl⟩
    have HE1 := Lib.hid (show obsF (adjRow n es) n es = pickF cyc cl by rw [HE.out, hcl])
    rw [← hcl] at hown5 hnil5 HCM
    clear hcl HE
    by_cases hl0 : cl = []
    · obtain rfl := hnil5 hl0
      have HE := Lib.hid (show obsF (adjRow n es) n es = (cyc, true) by rw [HE1.out, pickF, if_pos hl0]; simp [List.length_pos_iff.2 HN4.out])
      clear hown5 hnil5 hl0
      go_wp2_with fail
      go_ret2
      exact ObsRet.of HE.out (own_lower HO45.out (by have := HB3.out.size; omega)) (fun h => absurd h HN4.out) HB5.out
    · obtain ⟨g5, c5, rfl, hg5⟩ := own_some hown5 (List.length_pos_iff.2 hl0)
      have hl1 := List.length_pos_iff.2 hl0
      have t1 : ((cl.length : Int) == 0) = false := by simp [hl0]
      have HO5 := Lib.hid hown5
      have HN5 := Lib.hid hl0
      clear hown5 hnil5 hl0 hl1
      by_cases hlt : cl.length < cyc.length
      · have t2 : decide ((cl.length : Int) < (cyc.length : Int)) = true := by simp; omega
        have t3 : decide (cl.length < cyc.length) = true := by simp; omega
        have HE := Lib.hid (show obsF (adjRow n es) n es = (cl, true) by rw [HE1.out, pickF, if_neg HN5.out, if_neg HN4.out, if_pos hlt])
        go_wp2_with fail
        go_ret2
        exact ObsRet.of HE.out (own_lower HO5.out (by omega)) (fun h => absurd h HN5.out) HB5.out
      · have t2 : decide ((cl.length : Int) < (cyc.length : Int)) = false := by simp; omega
        have t3 : decide (cl.length < cyc.length) = false := by simp; omega
        go_wp2_with fail
        refine (compare_int _ _ (ints cl) (ints cyc) cl.length cyc.length _ _ _ (Xs.of_own2 hn' HCM.out HO5.out) (Xs.of_own2 hn' HLM.out HO45.out)).mono ?_
        rintro e w6 ⟨rfl, rfl⟩
        have HLX := Lib.hid (lex_cmp cl cyc)
        obtain ⟨z, hz⟩ : ∃ z, z = cmpL (ints cl) (ints cyc) := ⟨_, rfl⟩
        rw [← hz] at HLX ⊢
        clear hz
        by_cases hz0 : z < 0
        · have t4 : decide (z < 0) = true := by simp [hz0]
          have HE := Lib.hid (show obsF (adjRow n es) n es = (cl, true) by rw [HE1.out, pickF, if_neg HN5.out, if_neg HN4.out, if_neg hlt, if_pos (by rw [HLX.out, t4])])
          go_wp2_with fail
          go_ret2
          exact ObsRet.of HE.out (own_lower HO5.out (by omega)) (fun h => absurd h HN5.out) HB5.out
        · have t4 : decide (z < 0) = false := by simp; omega
          have HE := Lib.hid (show obsF (adjRow n es) n es = (cyc, true) by rw [HE1.out, pickF, if_neg HN5.out, if_neg HN4.out, if_neg hlt, if_neg (by rw [HLX.out, t4]; simp)])
          go_wp2_with fail
          go_ret2
          exact ObsRet.of HE.out (own_lower HO45.out (by have := HB3.out.size; omega)) (fun h => absurd h HN4.out) HB5.out
end Go.Proofs.Ytkiahnffepbgpaa
