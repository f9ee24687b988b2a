/-
  Slices of three numbers each; contracts of trio.All and its closure.
-/
import Derived.Test.YtdagdamliggfmaaFind2
import Derived.Test.YtdagdamliggfmaaTrioP
import Derived.Test.YtdagdamliggfmaaMk
namespace Go.Proofs.Ytdagdamliggfmaa
open Go.RowKit

def I3 (l : List (Nat × Nat × Nat)) : List Value := l.flatMap fun t => [Value.int .i64 t.1, Value.int .i64 t.2.1, Value.int .i64 t.2.2]
theorem I3_length (l : List (Nat × Nat × Nat)) : (I3 l).length = l.length * 3 := by
  induction l with
  | nil => rfl
  | cons t l ih => simp only [I3, List.flatMap_cons, List.length_append, List.length_cons, List.length_nil] at ih ⊢; omega
theorem I3_append (l r : List (Nat × Nat × Nat)) : I3 (l ++ r) = I3 l ++ I3 r := by simp [I3, List.flatMap_append]
def tnth (l : List (Nat × Nat × Nat)) (k : Nat) : Nat × Nat × Nat := l.getD k (0, 0, 0)
theorem tnth_eq {l : List (Nat × Nat × Nat)} {k : Nat} (h : k < l.length) : tnth l k = l[k] := by simp [tnth, List.getD, h]
theorem I3_at : ∀ (l : List (Nat × Nat × Nat)) (k : Nat), k < l.length → (I3 l)[k * 3]? = some (.int .i64 (tnth l k).1) ∧ (I3 l)[k * 3 + 1]? = some (.int .i64 (tnth l k).2.1) ∧ (I3 l)[k * 3 + 2]? = some (.int .i64 (tnth l k).2.2) := by
  intro l
  induction l with
  | nil => intro k h; simp at h
  | cons t l ih =>
    intro k h
    have e : I3 (t :: l) = Value.int .i64 t.1 :: Value.int .i64 t.2.1 :: Value.int .i64 t.2.2 :: I3 l := rfl
    cases k with
    | zero => rw [e]; exact ⟨rfl, rfl, rfl⟩
    | succ k =>
      obtain ⟨h1, h2, h3⟩ := ih k (by simpa using h)
      rw [e, show (k + 1) * 3 = k * 3 + 1 + 1 + 1 from by omega]
      refine ⟨?_, ?_, ?_⟩
      · simpa [tnth] using h1
      · rw [show k * 3 + 1 + 1 + 1 + 1 = (k * 3 + 1) + 1 + 1 + 1 from by omega]; simpa [tnth] using h2
      · rw [show k * 3 + 1 + 1 + 1 + 2 = (k * 3 + 2) + 1 + 1 + 1 from by omega]; simpa [tnth] using h3
/-- A slice that reads as a list of trios. -/
def Ts (w : World) (B : Nat) (A : Option Addr) (len : Nat) (l : List (Nat × Nat × Nat)) : Prop := Reads w B 3 A len (I3 l) ∧ len = l.length ∧ len ≤ 9223372036854775807
section
variable {w w' : World} {B B' n k : Nat} {A : Option Addr} {l : List (Nat × Nat × Nat)}
theorem Ts.len (h : Ts w B A n l) : n = l.length := h.2.1
theorem Ts.le (h : Ts w B A n l) : n ≤ 9223372036854775807 := h.2.2
theorem Ts.below (h : Ts w B A n l) (hb : Below B w w') : Ts w' B A n l := ⟨h.1.below hb, h.2⟩
theorem Ts.more (h : Ts w B A n l) (hB : B ≤ B') : Ts w B' A n l := ⟨h.1.more hB, h.2⟩
theorem Ts.new (h : Ts w w.heap.size A n l) (hb : Below w.heap.size w w') : Ts w' w'.heap.size A n l := (h.below hb).more hb.size
theorem Ts.alloc (h : Ts w B A n l) (hB : B ≤ w.heap.size) (o : Obj) : Ts (w.alloc o) B A n l := ⟨h.1.alloc hB o, h.2⟩
theorem Ts.at_ (h : Ts w B A n l) (hk : k < n) : ∃ ad, A = some ad ∧ ad.block < B ∧ w.cell? (ad.add (k * 3)) = some (.int .i64 (tnth l k).1) ∧ w.cell? ((ad.add (k * 3)).add 1) = some (.int .i64 (tnth l k).2.1) ∧ w.cell? ((ad.add (k * 3)).add 2) = some (.int .i64 (tnth l k).2.2) := by
  obtain ⟨ad, e, hb, hc⟩ := h.1.2 (by omega)
  obtain ⟨h1, h2, h3⟩ := I3_at l k (by have := h.len; omega)
  exact ⟨ad, e, hb, hc _ _ h1, by rw [add_of_add]; exact hc _ _ h2, by rw [add_of_add]; exact hc _ _ h3⟩
theorem Ts.of_own {base : Nat} {e : TypeId} {v : Value} (h : w.ownsRow base e 3 v l.length (I3 l)) (hl : l.length ≤ 9223372036854775807) : ∃ A c, v = .slice A l.length c ∧ Ts w w.heap.size A l.length l := by
  obtain ⟨A, c, rfl⟩ := own_form h
  exact ⟨A, c, rfl, Reads.of_own h, rfl, hl⟩
end
theorem own_nil3 (w : World) (base : Nat) (e : TypeId) : w.ownsRow base e 3 (.slice none 0 0) 0 [] := ⟨rfl, .inl ⟨rfl, rfl⟩⟩
theorem info_arr3 : (Try.prog.info? 40).map (fun i => (i.zero, i.size, i.bytes)) = some (some (.agg #[.int .i64 0, .int .i64 0, .int .i64 0]), 3, 24) := by kernel_rfl

theorem run_load3 (w : World) (p : Addr) (x y z : Value) (h0 : w.cell? p = some x) (h1 : w.cell? (p.add 1) = some y) (h2 : w.cell? (p.add 2) = some z) : (loadVar 40 p).run Try.prog w = .ok (.agg #[x, y, z]) w := by
  obtain ⟨i, hi, hz, hs1, hby⟩ := info_parts info_arr3
  have hl := run_loadCells_list (P := Try.prog) w p [x, y, z] (fun j v hv => by
    match j with
    | 0 => simp at hv; subst hv; simpa [Addr.add] using h0
    | 1 => simp at hv; subst hv; exact h1
    | 2 => simp at hv; subst hv; exact h2
    | j + 3 => simp at hv)
  have hagg : (isAgg 40).run Try.prog w = .ok true w := by
    unfold isAgg
    rw [Sem.run_bind, run_underlying Try.underlying40 w]
    rfl
  simp only [List.length_cons, List.length_nil, Nat.zero_add, Nat.reduceAdd] at hl
  simp [loadVar, Sem.run_bind, hagg, sizeOf, typeInfo, hi, hs1, hl]
section
variable {ops : Array Oper} {rest : List Oper} {o : Oper} {a : Act} {w : World} {Q : Exit → Act → World → Prop}
/-- append(v, t): one trio onto a row of the call's own. -/
theorem app_trio (hgd : o.guard = none) (s x : Operand) (ho : o.op = .call { callee := .builtin .append, args := #[s, x], argTypes := #[41, 41] })
    (base : Nat) (v : Value) (l : List (Nat × Nat × Nat)) (hs : a.eval s = v) (hown : w.ownsRow base 40 3 v l.length (I3 l)) (g : Nat) (t : Nat × Nat × Nat) (hx : a.eval x = .slice (some ⟨g, 0, none⟩) 1 1) (hb : Blk w g 40 #[.int .i64 t.1, .int .i64 t.2.1, .int .i64 t.2.2])
    (hk : l.length ≤ 1000000) (hbase : base ≤ w.heap.size)
    (h : ∀ v' w', w'.ownsRow base 40 3 v' (l ++ [t]).length (I3 (l ++ [t])) → w.grownBy w' v.ownBlock → (v'.ownBlock = v.ownBlock ∨ v'.ownBlock = some w.heap.size) → wpList Try.prog ops Q rest (a.put o.dst v') w') : wpList Try.prog ops Q (o :: rest) a w := by
  obtain ⟨i, hi, hz, hs1, hby⟩ := info_parts info_arr3
  have hr : Reads w w.heap.size 3 (some ⟨g, 0, none⟩) 1 (I3 [t]) := ⟨rfl, fun _ => ⟨_, rfl, hb.lt, fun j u hu => by
    have e : (Addr.add ⟨g, 0, none⟩ j) = ⟨g, j, none⟩ := by unfold Addr.add; split <;> simp_all
    rw [e, hb.cell]; simpa [I3] using hu⟩⟩
  refine wpList_append_any w hgd s x 41 ho base 40 i _ 3 24 Try.underlying41 hi hz hs1 hby rfl (by omega) v l.length (I3 l) hs hown w.heap.size _ 1 1 _ hx hr (by simp [I3]; exact ⟨rfl, rfl, rfl⟩) (by simp only [maxLen]; omega) (by omega) hbase ?_
  intro v' w' h1 h2 h3
  exact h v' w' (by rw [I3_append, List.length_append]; exact h1) h2 h3
end

set_option maxHeartbeats 1000000 in
theorem all1_any (t : Nat × Nat × Nat) (g B h0 base : Nat) (v : Value) (l : List (Nat × Nat × Nat)) (w : World) (h1 : Blk w g 41 #[v]) (hown : w.ownsRow base 40 3 v l.length (I3 l)) (hl : l.length ≤ 1000000) (hg : B ≤ g ∧ g < h0) (hB : B ≤ base) (hbase : base ≤ w.heap.size) :
    Calls Try.prog 36 #[TV t, .pointer (some ⟨g, 0, none⟩)] w fun e w' => e = .returned (.bool true) ∧ (∃ v', Blk w' g 41 #[v'] ∧ w'.ownsRow base 40 3 v' (l ++ [t]).length (I3 (l ++ [t]))) ∧ Keep B h0 w w' := by
  obtain ⟨a, b, c⟩ := t
  unfold TV
  have hlt := h1.lt
  obtain ⟨A, cp, rfl⟩ := own_form hown
  have k0 : w.cell? ⟨g, 0, none⟩ = some (.slice A l.length cp) := by rw [h1.cell]; rfl
  have f0 := h1.frozen 0
  have H1 := Lib.hid h1; clear h1
  have HO := Lib.hid hown; clear hown
  go_enter Try.func36, Try.ntmps36
  have hnew := Blk.new (w.alloc (Obj.cells #[Value.int IntKind.i64 a, Value.int IntKind.i64 b, Value.int IntKind.i64 c] 40)) 40 #[Value.int IntKind.i64 a, Value.int IntKind.i64 b, Value.int IntKind.i64 c]
  rw [World.size_alloc] at hnew
  have HN := Lib.hid hnew; clear hnew
  go_wp2_with (at_builtin; refine app_trio rfl _ _ rfl base (Value.slice A l.length cp) l rfl ((HO.out.alloc _).alloc _) (w.heap.size + 1) (a, b, c) rfl HN.out hl (by simp; omega) ?_; intro v' w1 hown' hgr hor; obtain ⟨A', c', rfl⟩ := own_form hown'; have hb1 := ((H1.out.alloc (Obj.cells #[Value.int IntKind.i64 a, Value.int IntKind.i64 b, Value.int IntKind.i64 c] 40)).alloc (Obj.cells #[Value.int IntKind.i64 a, Value.int IntKind.i64 b, Value.int IntKind.i64 c] 40)).appended ((HO.out.alloc _).alloc _) hgr (by decide); have k1 : w1.cell? ⟨g, 0, none⟩ = some (.slice A l.length cp) := (hb1.cell 0).trans rfl; have f1 := hb1.frozen 0; have HB1 := Lib.hid hb1; have HW := Lib.hid hown'; have HG := Lib.hid hgr; clear hb1 hown' hgr)
  go_ret
  have hL : (l ++ [(a, b, c)]).length = l.length + 1 := by simp
  have hw := HW.out
  rw [hL] at hw
  refine ⟨rfl, ⟨Value.slice A' (l.length + 1) c', ?_, ?_⟩, ?_⟩
  · exact HB1.out.set_ 0 _
  · rw [hL]; exact own_far hw HB1.out (by decide) 0 _
  · refine Keep.setCell (p := ⟨g, 0, none⟩) ⟨?_, ?_⟩ hg.1 hg.2 _
    · exact Below.appended (((Below.refl _ _).alloc (by omega) _).alloc (by simp; omega) _) ((HO.out.alloc _).alloc _) HG.out (by simp; omega) hB
    · intro g' cs _ hb'
      exact ((hb'.alloc _).alloc _).appended ((HO.out.alloc _).alloc _) HG.out (by decide)

theorem callA1 (args : Array Value) (W : World) : (callFunc 36 args).run Try.prog W = .ok (.enter 36 args) W := by
  kernel_rfl

/-- What All answers. -/
def allTrios (n : Int) (es : List Nat) (v : Int) : List (Nat × Nat × Nat) := if validB n es v then trios es v.toNat else []

set_option maxHeartbeats 1000000 in
theorem all_own (n v : Int) (A : Option Addr) (es : List Nat) (len c : Nat) (w : World) (hr : Es w w.heap.size A len es) :
    Calls Try.prog 16 #[.agg #[.int .i64 n, .slice A len c], .int .i64 v] w fun e w' => ∃ A' c', e = .returned (.slice A' (allTrios n es v).length c') ∧ w'.ownsRow (w.heap.size + 1) 40 3 (.slice A' (allTrios n es v).length c') (allTrios n es v).length (I3 (allTrios n es v)) ∧ Below w.heap.size w w' := by
  have HR := Lib.hid hr; clear hr
  go_enter Try.func16, Try.ntmps16
  go_wp2_with fail
  have key : Calls Try.prog 35 #[.agg #[.int .i64 n, .slice A len c], .int .i64 v, .func (.func 36) #[] #[.pointer (some ⟨w.heap.size + 1, 0, none⟩)]]
      ((w.alloc (Obj.cells #[Value.int IntKind.i64 n, Value.slice A len c] 24)).alloc (Obj.cells #[Value.slice none 0 0] 41))
      fun e w' => e = .returned (.tuple #[]) ∧ (∃ v', Blk w' (w.heap.size + 1) 41 #[v'] ∧ w'.ownsRow (w.heap.size + 1) 40 3 v' (allTrios n es v).length (I3 (allTrios n es v))) ∧ Below w.heap.size w w' := by
    have e1 : (w.alloc (Obj.cells #[Value.int IntKind.i64 n, Value.slice A len c] 24)).heap.size = w.heap.size + 1 := by simp
    generalize hw1 : w.alloc (Obj.cells #[Value.int IntKind.i64 n, Value.slice A len c] 24) = w1 at *
    have hb1 : Below w.heap.size w w1 := by rw [← hw1]; exact (Below.refl _ _).alloc (Nat.le_refl _) _
    have b2 : Blk (w1.alloc (Obj.cells #[Value.slice none 0 0] 41)) (w.heap.size + 1) 41 #[.slice none 0 0] := by
      rw [← e1]; exact Blk.new _ _ _
    have hb2 : Below w.heap.size w (w1.alloc (Obj.cells #[Value.slice none 0 0] 41)) := hb1.alloc (by omega) _
    have hs : (w1.alloc (Obj.cells #[Value.slice none 0 0] 41)).heap.size = w.heap.size + 1 + 1 := by simp; omega
    generalize w1.alloc (Obj.cells #[Value.slice none 0 0] 41) = w4 at *
    cases hv : validB n es v with
    | false =>
      refine (visit_bad n v A es len c w4 (HR.out.new hb2) _ hv).mono ?_
      rintro e w5 ⟨rfl, hb5⟩
      have hf : allTrios n es v = [] := by simp [allTrios, hv]
      rw [hf]
      exact ⟨rfl, ⟨_, b2.below hb5 b2.lt, own_nil3 _ _ _⟩, hb2.trans (hb5.mono hb2.size)⟩
    | true =>
      obtain ⟨hg, h0, hvn⟩ := of_decide_eq_true hv
      obtain ⟨hn0, hn32, _, hes⟩ := checkCode_zero hg
      obtain ⟨n, rfl⟩ := Int.eq_ofNat_of_zero_le hn0
      obtain ⟨m, rfl⟩ := Int.eq_ofNat_of_zero_le h0
      have hlen : (trios es m).length ≤ 32768 := by rw [trios_eq HR.out.2.2 (by omega)]; exact rtrios_length es (by omega)
      refine (visit_ok n m A es len c (w.heap.size + 1) w4 (by omega) ((HR.out.below hb2).more (by omega)) 36 _ hv callA1 true
        (fun l W => (∃ v', Blk W (w.heap.size + 1) 41 #[v'] ∧ W.ownsRow (w.heap.size + 1) 40 3 v' l.length (I3 l)) ∧ w4.heap.size ≤ W.heap.size)
        (fun W' hb => ⟨⟨_, b2.below hb b2.lt, own_nil3 _ _ _⟩, hb.size⟩) (fun l W k h => h) ?_).mono ?_
      · rintro l t W ⟨r, hr⟩ ⟨⟨v', h1, h2⟩, h3⟩ hW
        have hll : l.length ≤ 32768 := by rw [← hr] at hlen; simp at hlen; omega
        refine (all1_any t _ (w.heap.size + 1) w4.heap.size (w.heap.size + 1) v' l W h1 h2 (by omega) (by omega) (Nat.le_refl _) (by omega)).mono ?_
        rintro e W' ⟨rfl, hv', hk⟩
        exact ⟨rfl, ⟨hv', Nat.le_trans h3 hk.below.size⟩, hk⟩
      · rintro e w5 ⟨rfl, ⟨hI, _⟩, hb5⟩
        have hf : allTrios n es m = seenOf true (trios es m) := by simp [allTrios, hv, seenOf]
        rw [hf]
        exact ⟨rfl, hI, hb2.trans (hb5.mono (by omega))⟩
  refine key.mono ?_
  rintro e w1 ⟨rfl, ⟨v', b2, hown⟩, hb⟩
  clear key
  have k0 : w1.cell? ⟨w.heap.size + 1, 0, none⟩ = some v' := by rw [b2.cell]; rfl
  have hlen : (allTrios n es v).length ≤ 32768 := by
    unfold allTrios
    split
    · rename_i hv
      obtain ⟨hg, h0, hvn⟩ := of_decide_eq_true hv
      obtain ⟨hn0, hn32, _, _⟩ := checkCode_zero hg
      rw [trios_eq HR.out.2.2 (by omega)]; exact rtrios_length es (by omega)
    · simp
  obtain ⟨A', c', rfl⟩ := own_form hown
  have HT := Lib.hid hown; clear hown b2
  have HB := Lib.hid hb; clear hb
  go_wp2_with fail
  go_ret
  exact ⟨A', c', rfl, HT.out, HB.out⟩
theorem allTrios_le (n v : Int) {es : List Nat} (he : ∀ e ∈ es, e < 2 ^ 32) : (allTrios n es v).length ≤ 32768 := by
  unfold allTrios
  split
  · rename_i hv
    obtain ⟨hg, h0, hvn⟩ := of_decide_eq_true hv
    obtain ⟨hn0, hn32, _, _⟩ := checkCode_zero hg
    rw [trios_eq he (by omega)]; exact rtrios_length es (by omega)
  · simp
theorem all_any (n v : Int) (A : Option Addr) (es : List Nat) (len c : Nat) (w : World) (hr : Es w w.heap.size A len es) :
    Calls Try.prog 16 #[.agg #[.int .i64 n, .slice A len c], .int .i64 v] w fun e w' => ∃ A' c', e = .returned (.slice A' (allTrios n es v).length c') ∧ Ts w' w'.heap.size A' (allTrios n es v).length (allTrios n es v) ∧ Below w.heap.size w w' := by
  refine (all_own n v A es len c w hr).mono ?_
  rintro e w' ⟨A', c', rfl, h, hb⟩
  exact ⟨A', c', rfl, ⟨Reads.of_own h, rfl, by have := allTrios_le n v hr.2.2; omega⟩, hb⟩
end Go.Proofs.Ytdagdamliggfmaa
