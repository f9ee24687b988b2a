/-
  rats and great of the laws of layer 5: arguments copied into a Rat.
-/
import Derived.Test.YtifnbpkcnkfanaaQLaw
namespace Go.Proofs.Ytifnbpkcnkfanaa
open Go.RowKit

section
variable {P : Program} (w : World)
theorem run_append_types (t t2 e e2 ty : TypeId) (ht : P.underlying t = some (.slice e)) (ht2 : P.underlying t2 = some (.slice e2)) (b : Option Addr) (k c : Nat) (x : Value) :
    (Builtin.append_ #[t, t2] ty #[.slice b k c, x]).run P w = (Builtin.append_ #[t, t] ty #[.slice b k c, x]).run P w := by
  simp [Builtin.append_, run_underlying ht, run_underlying ht2]
theorem run_loadCells_zero (a : Addr) : (loadCells a 0).run P w = .ok #[] w := by simp [loadCells, loadCellsFrom]
theorem run_append_cap0 (t e ty : TypeId) (i : TypeInfo) (ht : P.underlying t = some (.slice e)) (hi : P.info? e = some i) (hby : i.bytes = 4) (a : Addr) (A : Option Addr) (m c : Nat) (hm : 0 < m) (hm2 : m ≤ 1000000) :
    (Builtin.append_ #[t, t] ty #[.slice (some a) 0 0, .slice A m c]).run P w = (Builtin.append_ #[t, t] ty #[.slice none 0 0, .slice A m c]).run P w := by
  have h0 : ¬ (m = 0) := by omega
  have h1 : Builtin.nextslicecap m 0 = m := by simp [Builtin.nextslicecap, hm]
  have h2 : ¬ (281474976710656 < m * 4) := by omega
  simp [Builtin.append_, run_underlying ht, sizeOf, typeInfo, hi, hby, h1, h2, Builtin.lenOf, Builtin.firstCells, h0, run_loadCells_zero]
theorem run_append_none (t e ty : TypeId) (i : TypeInfo) (ht : P.underlying t = some (.slice e)) (hi : P.info? e = some i) (a : Addr) (A : Option Addr) (c : Nat) :
    (Builtin.append_ #[t, t] ty #[.slice (some a) 0 0, .slice A 0 c]).run P w = .ok (.slice (some a) 0 0) w := by
  cases A <;> simp [Builtin.append_, run_underlying ht, sizeOf, typeInfo, hi, Builtin.lenOf, Builtin.firstCells, storeCells, run_loadCells_zero]
/-- append(T{}, xs...): a copy, whatever the empty slice's address. -/
theorem step_copy {ops : Array Oper} {o : Oper} {a : Act} {K : Act → World → Prop} {Q : Exit → Act → World → Prop} {E : Prop} (hgd : o.guard = none) (s x : Operand) (t t2 : TypeId)
    (ho : o.op = .call { callee := .builtin .append, args := #[s, x], argTypes := #[t, t2] })
    (e : TypeId) (i : TypeInfo) (ht : P.underlying t = some (.slice e)) (ht2 : P.underlying t2 = some (.slice e)) (hi : P.info? e = some i) (hz : i.zero = some (.int .u32 0))
    (hsize : i.size = 1) (hby : i.bytes = 4) (ad : Addr) (hs : a.eval s = .slice (some ad) 0 0)
    (A : Option Addr) (m c : Nat) (ds : List Nat) (hx : a.eval x = .slice A m c) (hE : Es w w.heap.size A m ds) (hm : m ≤ 1000000)
    (h : ∀ A' c' w', m ≤ c' → Es w' w'.heap.size A' m ds → Below w.heap.size w w' → K (a.put o.dst (.slice A' m c')) w') :
    if Region.wanted o (yielded ops a.tmps) = true then Oper.wp P o a w K Q else E := by
  have hw : Region.wanted o (yielded ops a.tmps) = true := by simp [Region.wanted, hgd]
  rw [if_pos hw]
  by_cases hm0 : m = 0
  · subst hm0
    unfold Oper.wp execOp
    simp only [ho, resolve, invoke, builtin, Sem.run_bind, Sem.run_pure, Result.andThen_ok, List.map_toArray, List.map_cons, List.map_nil, hs, hx, run_append_types w t t2 e e o.type ht ht2, run_append_none w t e o.type i ht hi]
    have hd : ds = [] := List.eq_nil_of_length_eq_zero hE.len.symm
    subst hd
    exact h (some ad) 0 w (Nat.le_refl _) ⟨Reads.none_, ⟨rfl, by omega⟩, by simp⟩ (Below.refl _ _)
  · obtain ⟨v', w', hrun, h2, h3, h4⟩ := run_append_any (P := P) w w.heap.size t o.type e i _ 1 4 ht hi hz hsize hby rfl (by omega) (.slice none 0 0) 0 [] (own_nil _ _ _) w.heap.size A m c (U32 ds) hE.1 (one_U32 ds) (by simp only [maxLen]; omega) (by omega) (Nat.le_refl _)
    unfold Oper.wp execOp
    simp only [ho, resolve, invoke, builtin, Sem.run_bind, Sem.run_pure, Result.andThen_ok, List.map_toArray, List.map_cons, List.map_nil, hs, hx, run_append_types w t t2 e e o.type ht ht2, run_append_cap0 w t e o.type i ht hi hby ad A m c (by omega) hm, hrun]
    have h5 : w'.ownsRow w.heap.size e 1 v' m (U32 ds) := by simpa using h2
    obtain ⟨A', c', rfl⟩ := own_form h5
    obtain ⟨A2, c2, he, hE2⟩ := Es.of_own h5 hE.2.2
    cases he
    refine h A' c' w' ?_ hE2 ⟨h3.os, h3.tape, h3.output, h3.size, fun k hk => h3.block k hk (by simp [Value.ownBlock])⟩
    rcases h5.2 with ⟨e1, e2⟩ | ⟨g, cap, cur, e1, _, _, e3, _⟩
    · omega
    · cases e1; exact e3
end

/-- What a Big argument holds. -/
def Bg (w : World) (A : Option Addr) (n c : Nat) (B : Option Addr) (m d : Nat) (ds fs : List Nat) : Prop := (Es w w.heap.size A n ds ∧ n ≤ c) ∧ (Es w w.heap.size B m fs ∧ m ≤ d)
theorem Bg.new {w w' : World} {A B : Option Addr} {n c m d : Nat} {ds fs : List Nat} (h : Bg w A n c B m d ds fs) (hb : Below w.heap.size w w') : Bg w' A n c B m d ds fs :=
  ⟨⟨h.1.1.new hb, h.1.2⟩, ⟨h.2.1.new hb, h.2.2⟩⟩
def RetRa (w : World) (x : Rat) (e : Ending) (w' : World) : Prop :=
  ∃ s A n c B m d, e = .returned (.agg #[.bool s, .slice A n c, .slice B m d]) ∧ Ra w' s A n c B m d 8 x ∧ Below w.heap.size w w'
theorem keepB {w wc w' : World} {g2 g4 B : Nat} {t : TypeId} {x y z : Value} (h2 : TB wc g2 t x y z) (n2 : g2 ≠ g4) (hb : Below B w w') (hg : wc.grownBy w' (some g4)) :
    (w'.cell? ⟨g2, 0, none⟩ = some x ∧ w'.cell? ⟨g2, 1, none⟩ = some y ∧ w'.cell? ⟨g2, 2, none⟩ = some z) ∧ Below B w w' ∧ wc.grownBy w' (some g4) := by
  have k2 : TB w' g2 t x y z := h2.blk.grown hg (by simpa using n2)
  exact ⟨⟨k2.c0, k2.c1, k2.c2⟩, hb, hg⟩
theorem only_below {w0 W W' : World} {r : Option Nat} (h : w0.grownBy W r) (hb : Below W.heap.size W W') : w0.grownBy W' r :=
  ⟨hb.os.trans h.os, hb.tape.trans h.tape, hb.output.trans h.output, Nat.le_trans h.size hb.size, fun k hk hr => (hb.block k (Nat.lt_of_lt_of_le hk h.size)).trans (h.block k hk hr)⟩
theorem lt_alloc {w w0 : World} (h : Below w0.heap.size w0 w) : w0.heap.size ≤ w.heap.size := h.size

set_option maxRecDepth 100000 in
set_option maxHeartbeats 8000000 in
theorem rats_any {w : World} {s : Bool} {A B : Option Addr} {n c m d : Nat} {ds fs : List Nat} (h : Bg w A n c B m d ds fs) (hn : n ≤ 8) (hm : m ≤ 8) :
    Calls Try.prog 20 #[.agg #[.bool s, .slice A n c, .slice B m d]] w (RetRa w (qv s (valB 4294967296 ds) (valB 4294967296 fs))) := by
  have HA := Lib.hid h; clear h
  obtain ⟨i, hi, hz, hs1, hby⟩ := info_parts info_u32
  have HI := Lib.hid (And.intro hi (And.intro hz (And.intro hs1 hby))); clear hi hz hs1 hby
  go_enter Try.func20, Try.ntmps20
  go_wp2_with fail
  have hT0 : TB ((w.alloc (.cells #[.bool s, .slice A n c, .slice B m d] 44)).alloc (.cells #[.bool false, .slice none 0 0, .slice none 0 0] 29)) w.heap.size 44 (.bool s) (.slice A n c) (.slice B m d) := (TB.made w _ _ _ _).alloc _
  have hT1 : TB ((w.alloc (.cells #[.bool s, .slice A n c, .slice B m d] 44)).alloc (.cells #[.bool false, .slice none 0 0, .slice none 0 0] 29)) (w.heap.size + 1) 29 (.bool false) (.slice none 0 0) (.slice none 0 0) := by simpa using TB.made (w.alloc (.cells #[.bool s, .slice A n c, .slice B m d] 44)) 29 (.bool false) (.slice none 0 0) (.slice none 0 0)
  have hW : Below w.heap.size w ((w.alloc (.cells #[.bool s, .slice A n c, .slice B m d] 44)).alloc (.cells #[.bool false, .slice none 0 0, .slice none 0 0] 29)) := (al w _).alloc (by simp) _
  generalize (w.alloc (.cells #[.bool s, .slice A n c, .slice B m d] 44)).alloc (.cells #[.bool false, .slice none 0 0, .slice none 0 0] 29) = w0 at hT0 hT1 hW ⊢
  have HW := Lib.hid hW; clear hW
  have c0 := hT0.c0; have c1 := hT0.c1; have c2 := hT0.c2
  have l0 : w.heap.size < w0.heap.size := hT0.lt
  have T0 := Lib.hid hT0; have T1 := Lib.hid hT1; clear hT0 hT1
  go_region_held3 (fun w' => (w'.cell? ⟨w.heap.size, 0, none⟩ = some (.bool s) ∧ w'.cell? ⟨w.heap.size, 1, none⟩ = some (.slice A n c) ∧ w'.cell? ⟨w.heap.size, 2, none⟩ = some (.slice B m d)) ∧ Below w.heap.size w w' ∧ w0.grownBy w' (some (w.heap.size + 1)))
    ((refine keepB T0.out (by omega) ?_ ?_ <;> repeat' (first | exact Hid.out ‹_› | exact below_store3 (Hid.out ‹_›) (by omega) _ _ _ | exact only_store3 (Hid.out ‹_›) _ _ _ | exact World.grownBy.refl _ _ | refine Below.drew ?_ | refine Below.alloc ?_ (by have := HW.out.size; simp; omega) _ | refine Below.alloc ?_ (Below.size (Hid.out ‹_›)) _ | refine only_drew ?_ | refine only_alloc ?_ _)))
    (first
      | (refine step_copy _ rfl (.tmp 9) (.tmp 11) 27 26 rfl 23 i Try.underlying27 Try.underlying26 HI.out.1 HI.out.2.1 HI.out.2.2.1 HI.out.2.2.2 _ (by rfl) B m _ _ (by rfl) (HA.out.2.1.new (And.left (And.right ‹_ ∧ Below w.heap.size w _ ∧ w0.grownBy _ _›))) (by omega) ?_; intro A6 c6 w6 hc hE hb; have HC6 := Lib.hid hc; have HE6 := Lib.hid hE; have HB6 := Lib.hid (bthen (And.left (And.right ‹_ ∧ Below w.heap.size w _ ∧ w0.grownBy _ _›)) hb (Below.size (And.left (And.right ‹_ ∧ Below w.heap.size w _ ∧ w0.grownBy _ _›)))); have HG6 := Lib.hid (only_below (And.right (And.right ‹_ ∧ Below w.heap.size w _ ∧ w0.grownBy _ _›)) hb); (try ((first | replace HE5 := Lib.hid (HE5.out.new hb) | replace HE5 := Lib.hid (HE5.out.new (bthen (al _ _) hb (al _ _).size))); have HL6 := HE5)); have HT6 := Lib.hid (show TB w6 (w.heap.size + 1) 29 (.bool false) (.slice none 0 0) (.slice none 0 0) from TB.new (by first | exact Hid.out ‹Hid (TB _ (w.heap.size + 1) _ _ _ _)› | exact TB.drew (TB.alloc (Hid.out ‹Hid (TB _ (w.heap.size + 1) _ _ _ _)›) _) | exact TB.drew (TB.alloc (TB.alloc (Hid.out ‹Hid (TB _ (w.heap.size + 1) _ _ _ _)›) _) _) | exact TB.alloc (Hid.out ‹Hid (TB _ (w.heap.size + 1) _ _ _ _)›) _) hb); have r0 := HT6.out.c0; have r1 := HT6.out.c1; have r2 := HT6.out.c2; have f0 := HT6.out.f0; have f1 := HT6.out.f1; have f2 := HT6.out.f2; clear hc hE hb)
      | (refine step_copy _ rfl (.tmp 5) (.tmp 7) 27 26 rfl 23 i Try.underlying27 Try.underlying26 HI.out.1 HI.out.2.1 HI.out.2.2.1 HI.out.2.2.2 _ (by rfl) A n _ _ (by rfl) (HA.out.1.1.new (And.left (And.right ‹_ ∧ Below w.heap.size w _ ∧ w0.grownBy _ _›))) (by omega) ?_; intro A5 c5 w5 hc hE hb; have HC5 := Lib.hid hc; have HE5 := Lib.hid hE; have HB5 := Lib.hid (bthen (And.left (And.right ‹_ ∧ Below w.heap.size w _ ∧ w0.grownBy _ _›)) hb (Below.size (And.left (And.right ‹_ ∧ Below w.heap.size w _ ∧ w0.grownBy _ _›)))); have HG5 := Lib.hid (only_below (And.right (And.right ‹_ ∧ Below w.heap.size w _ ∧ w0.grownBy _ _›)) hb); (try ((first | replace HE6 := Lib.hid (HE6.out.new hb) | replace HE6 := Lib.hid (HE6.out.new (bthen (al _ _) hb (al _ _).size))); have HL5 := HE6)); have HT5 := Lib.hid (show TB w5 (w.heap.size + 1) 29 (.bool false) (.slice none 0 0) (.slice none 0 0) from TB.new (by first | exact Hid.out ‹Hid (TB _ (w.heap.size + 1) _ _ _ _)› | exact TB.drew (TB.alloc (Hid.out ‹Hid (TB _ (w.heap.size + 1) _ _ _ _)›) _) | exact TB.drew (TB.alloc (TB.alloc (Hid.out ‹Hid (TB _ (w.heap.size + 1) _ _ _ _)›) _) _) | exact TB.alloc (Hid.out ‹Hid (TB _ (w.heap.size + 1) _ _ _ _)›) _) hb); have r0 := HT5.out.c0; have r1 := HT5.out.c1; have r2 := HT5.out.c2; have f0 := HT5.out.f0; have f1 := HT5.out.f1; have f2 := HT5.out.f2; clear hc hE hb))
  all_goals
    go_wp2_with fail
    first
    | (have HL := HL6; clear HL; refine bodyPost_end (v := .agg #[.bool s, .slice A5 n c5, .slice A6 m c6]) ?_ rfl ⟨_, _, _, _, _, _, _, rfl, ⟨_, _, (Num.of_es (b := 8) HE5.out HC5.out hn (by omega) (by omega)).store3 HT6.out _ _ _, (Num.of_es (b := 8) HE6.out HC6.out hm (by omega) (by omega)).store3 HT6.out _ _ _, rfl⟩, below_store3 HB6.out (by omega) _ _ _⟩; exact results_cell_row Try.results20 _ _ _ _ _ (0, 0) _ rfl (HT6.out.set3 _ _ _) Try.underlying29 rfl rfl)
    | (have HL := HL5; clear HL; refine bodyPost_end (v := .agg #[.bool s, .slice A5 n c5, .slice A6 m c6]) ?_ rfl ⟨_, _, _, _, _, _, _, rfl, ⟨_, _, (Num.of_es (b := 8) HE5.out HC5.out hn (by omega) (by omega)).store3 HT5.out _ _ _, (Num.of_es (b := 8) HE6.out HC6.out hm (by omega) (by omega)).store3 HT5.out _ _ _, rfl⟩, below_store3 HB5.out (by omega) _ _ _⟩; exact results_cell_row Try.results20 _ _ _ _ _ (0, 0) _ rfl (HT5.out.set3 _ _ _) Try.underlying29 rfl rfl)

section
variable {w : World} {s : Bool} {A B : Option Addr} {n c m d : Nat}
set_option maxHeartbeats 2000000 in
theorem gr_no (hn : n ≤ 8) (hm : m ≤ 8) : Calls Try.prog 19 #[.agg #[.bool s, .slice A n c, .slice B m d]] w fun e w' => e = .returned (.bool false) ∧ Below w.heap.size w w' := by
  have t1 : decide ((8 : Int) < (n : Int)) = false := by simp; omega
  have t2 : decide ((8 : Int) < (m : Int)) = false := by simp; omega
  go_enter Try.func19, Try.ntmps19
  go_wp2_with fail
  go_ret
  exact ⟨rfl, al w _⟩
set_option maxHeartbeats 2000000 in
theorem gr_yes (hn : n ≤ 9223372036854775807) (hm : m ≤ 9223372036854775807) (h : 8 < n ∨ 8 < m) : Calls Try.prog 19 #[.agg #[.bool s, .slice A n c, .slice B m d]] w fun e w' => e = .returned (.bool true) ∧ Below w.heap.size w w' := by
  by_cases h3 : 8 < n
  · clear h
    have t1 : decide ((8 : Int) < (n : Int)) = true := by simp; omega
    go_enter Try.func19, Try.ntmps19
    go_wp2_with fail
    go_ret
    exact ⟨rfl, al w _⟩
  · have t1 : decide ((8 : Int) < (n : Int)) = false := by simp; omega
    have t2 : decide ((8 : Int) < (m : Int)) = true := by simp; omega
    clear h
    go_enter Try.func19, Try.ntmps19
    go_wp2_with fail
    go_ret
    exact ⟨rfl, al w _⟩
end
end Go.Proofs.Ytifnbpkcnkfanaa
